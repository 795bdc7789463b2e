/- Parts of my machine and its laws, joined: DnI DnY. No condition. -/
import Derived.Test.YtafgdbaekppjcaaGreatDoorDnH
set_option linter.unusedSectionVars false
set_option linter.unusedVariables false
set_option linter.unusedSimpArgs false
section
namespace oe
open Go hiding Obj mark
open Go.Pl Go.Am Go.Am.As
inductive An where
 | n
 | j (e:Bool) (p:Tm) (a:An)
 | l (e:Bool) (i:Nat) (p b:Tm) (a:An)
 | s (l:List An)
 | o (l:List (Nat×An))
 | u (l:List An)
 | z
 | zl (n:Nat) (a:An)
 deriving Inhabited
def An.sub (a:An) (i:Nat):An:=match a with
 | .s q=>q.getD i .n
 | _=> .n
def Up:Nat->List (Nat×An)->An
 | _,[]=> .n
 | i,p::r=>if Nat.beq p.1 i then p.2 else Up i r
def An.op (a:An) (i:Nat):An:=match a with
 | .o q=>Up i q
 | _=> .n
structure Kn (G:Nat->Type) (R:Type) where
 n:DS G->Option R
 x:Nat->DS G->Option R
 r:DS G->Option R
def Kn.at {G:Nat->Type} {R:Type} (K:Kn G R):Ex->DS G->Option R
 | .normal,s=>K.n s
 | .exit i,s=>K.x i s
 | .ret,s=>K.r s
structure gS (G:Nat->Type) where
 f:Nat
 args:List Sh
 ts:List Ty
 rs:List Ty
 m:DL G ts->Option (DL G rs)
abbrev Rec (G:Nat->Type):={R:Type}->RC->An->Nat->DS G->Kn G R->Option R
section
variable {G:Nat->Type} {R:Type}
def Da (g:Ge G):List Sh->List (TV G)->Option (List (TV G))
 | [],vs=>(match vs with | []=>some [] | _::_=>none)
 | s::ss,vs=>(match vs with
  | v::vs=>(match Sh.coll g s v with
   | some a=>(match Da g ss vs with | some b=>some (a++b) | none=>none)
   | none=>none)
  | []=>none)
def pQ (g:Ge G):List Sh->List (TV G)->List (TV G)
 | [],_=>[]
 | s::ss,l=>(Sh.eC g s l).1::pQ g ss (Sh.eC g s l).2
theorem xK {g:Ge G} {ln:Nat->Nat}:∀ {ss:List Sh} {vs l:List (TV G)},Da g ss vs=some l->∀ {l':List (TV G)},TV.aP g ln l'=TV.aP g ln l->TV.aP g ln (pQ g ss l')=TV.aP g ln vs
 | [],[],l,h,l',e=>rfl
 | [],_::_,l,h,l',e=>by cases h
 | _::_,[],l,h,l',e=>by cases h
 | s::ss,v::vs,l,h,l',e=>by
  have h':(match Sh.coll g s v with
   | some a=>(match Da g ss vs with | some b=>some (a++b) | none=>none)
   | none=>none)=some l:=h
  split at h'
  case h_2=>cases h'
  rename_i a ha;split at h'
  case h_2=>cases h'
  rename_i b hb;injection h' with h';subst h'
  obtain ⟨p,q,e0,e1,e2⟩:=dZ e;subst e0;obtain ⟨v',k1,k2⟩:=rq s v a ha p q e1;show _::TV.aP g ln (pQ g ss (Sh.eC g s (p++q)).2)=_;rw [k1];dsimp only;rw [xK hb e2,k2];rfl
def gS.vs (g:Ge G) (c:gS G) (x:DL G c.ts):List (TV G):=pQ g c.args (aI g c.ts x)
def gS.Ok (E:Env) (hp:Nat->Bool) (g:Ge G) (c:gS G):Prop:=∀ x r,c.m x=some r->Pt E hp c.f (TV.aP g (fun _=>0) (c.vs g x)) (oneOf (vN g c.rs r))
def kM (g:Ge G) (f:Nat) (ys:List (TV G)):List (gS G)->Option ((c:gS G)×DL G c.ts)
 | []=>none
 | c::r=>if Nat.beq c.f f then (match Da g c.args ys with
  | some l=>(match nr g c.ts l with
   | some x=>some ⟨c,x⟩
   | none=>kM g f ys r)
  | none=>kM g f ys r) else kM g f ys r
theorem yz {g:Ge G} (hg:g.Ok) {f:Nat} {ys:List (TV G)} {ln:Nat->Nat}:∀ {C:List (gS G)} {p:(c:gS G)×DL G c.ts},kM g f ys C=some p->p.1∈C/\p.1.f=f/\TV.aP g ln (p.1.vs g p.2)=TV.aP g ln ys
 | [],p,h=>by cases h
 | c::r,p,h=>by
  have tl:kM g f ys r=some p->p.1∈c::r/\p.1.f=f/\TV.aP g ln (p.1.vs g p.2)=TV.aP g ln ys:=fun h=>by
   obtain ⟨h1,h2⟩:=yz hg h;exact ⟨zau _ h1,h2⟩
  rw [kM] at h;split at h
  case isFalse=>exact tl h
  rename_i hf;split at h
  case h_2=>exact tl h
  rename_i l hl;split at h
  case h_2=>exact tl h
  rename_i x hx;injection h with h;subst h
  refine ⟨zaP ..,za3 hf,?_⟩;exact xK hl (by rw [ir hg,kH hg ln _ _ _ hx])
def abK:Ty->Bool
 | .int _ | .bool | .str=>true
 | _=>false
def wM:List Ty->Bool
 | []=>true
 | t::r=>abK t&&wM r
theorem AB {g:Ge G}:∀ {ts:List Ty} (x:DL G ts),wM ts=true->AV.jF (vN g ts x)=true
 | [],_,_=>rfl
 | [t],x,h=>by
  rw [wM,za0] at h;show ((va g t x).flat&&true)=true
  cases t<;>first | rfl | cases h.1
 | t::u::r,x,h=>by
  rw [wM,za0] at h;have ih:=AB (g:=g) (ts:=u::r) x.2 h.2;show ((va g t x.1).flat&&AV.jF (vN g (u::r) x.2))=true;rw [ih,Bool.and_true]
  cases t<;>first | rfl | cases h.1
def y5:List (TV G)->TV G
 | [v]=>v
 | l=> .aY l
theorem vo {g:Ge G} {ln:Nat->Nat} (l:List (TV G)):(y5 l).av g ln=oneOf (TV.aP g ln l):=by
 match l with
 | []=>rfl
 | [v]=>rfl
 | _::_::_=>rfl
theorem G8 {l:List AV} (h:AV.jF l=true):(oneOf l).flat=true:=by
 match l,h with
 | [],_=>rfl
 | [v],h=>simpa [AV.jF,oneOf] using h
 | a::b::l,h=>exact h
def V1:TV G->Bool
 | .po .. | .pe .. | .pa ..=>true
 | .raw v=>(match v with | .fA _=>true | _=>false)
 | _=>false
def BE:List (TV G)->Bool
 | []=>false
 | x::xs=>V1 x||BE xs
theorem Th {g:Ge G} {ln:Nat->Nat} {H:List Obj} {v:TV G} (h:V1 v=true):pk 6 H (v.av g ln)=none:=by
 have key:∀ {a:AV},a.bD 0=false->(∀ id e o l,a≠ .own id e o l)->(∀ id e i o sz l,a≠ .arr id e i o sz l)->(∀ l,a≠ .agg l)->(∀ l,a≠ .aY l)->(∀ f l,a≠ .fn f l)->pk 6 H a=none:=by
  intro a h1 h2 h3 h4 h5 h6;unfold pk;rw [if_neg (by rw [AV.eN,h1];simp)];split
  ·exact (h2 _ _ _ _ rfl).elim
  ·exact (h3 _ _ _ _ _ _ rfl).elim
  ·exact (h4 _ rfl).elim
  ·exact (h5 _ rfl).elim
  ·exact (h6 _ _ rfl).elim
  ·rfl
 unfold V1 at h;split at h
 ·exact key (by simp [TV.av,AV.bD]) (fun _ _ _ _=>nofun) (fun _ _ _ _ _ _=>nofun) (fun _=>nofun) (fun _=>nofun) (fun _ _=>nofun)
 ·exact key (by simp [TV.av,AV.bD]) (fun _ _ _ _=>nofun) (fun _ _ _ _ _ _=>nofun) (fun _=>nofun) (fun _=>nofun) (fun _ _=>nofun)
 ·exact key (by simp [TV.av,AV.bD]) (fun _ _ _ _=>nofun) (fun _ _ _ _ _ _=>nofun) (fun _=>nofun) (fun _=>nofun) (fun _ _=>nofun)
 ·split at h
  ·exact key (by simp [TV.av,AV.bD]) (fun _ _ _ _=>nofun) (fun _ _ _ _ _ _=>nofun) (fun _=>nofun) (fun _=>nofun) (fun _ _=>nofun)
  ·cases h
 ·cases h
theorem AA {g:Ge G} {ln:Nat->Nat} {H:List Obj}:∀ {xs:List (TV G)},BE xs=true->snaps H (TV.aP g ln xs)=none
 | [],h=>by cases h
 | x::xs,h=>by
  rw [BE,zat] at h;show ey (pk 6 H) (_::_)=none;rw [ey];rcases h with h | h
  ·rw [Th h]
  ·have:=AA (g:=g) (ln:=ln) (H:=H) h;unfold snaps at this;rw [this]
   cases pk 6 H (x.av g ln)<;>rfl
theorem PX {g:Ge G} (hg:g.Ok) {ln:Nat->Nat} {H:List Obj} {xs:List (TV G)} {l:List AV} (hf:TV.mS xs=true) (h:snaps H (TV.aP g ln xs)=some l):l=TV.aP g ln xs:=by
 have:=tR (d:=6) (H:=H) (eG hg ln xs hf);unfold snaps at h;rw [this] at h;injection h with h;exact h.symm
def pP (g:Ge G) (s:DS G):List (Sum Nat (Nat×Nat×Bool))->Option (List (TV G))
 | []=>some []
 | .inl t::r=>(match pP g s r with | some l=>some (s.get t::l) | none=>none)
 | .inr p::r=>(match CX g s.H p.2.1 p.2.2 (s.get p.1) some with
  | some v=>(match pP g s r with | some l=>some (v::l) | none=>none)
  | none=>none)
theorem mG {g:Ge G} (hg:g.Ok) {s:DS G}:∀ {rs:List (Sum Nat (Nat×Nat×Bool))} {l:List (TV G)},pP g s rs=some l->bQ rs (s.st g)=some (TV.aP g s.ln l)
 | [],l,h=>by injection h with h;subst h;rfl
 | .inl t::r,l,h=>by
  rw [pP] at h;split at h
  case h_2=>cases h
  rename_i l' h1;injection h with h;subst h
  rw [bQ,mG hg h1];show some (T.get _ t::_)=_;rw [show (s.st g).tmps.get t=(s.get t).av g s.ln from DS.ij g s t];rfl
 | .inr (t,n,ag)::r,l,h=>by
  rw [pP] at h;split at h
  case h_2=>cases h
  rename_i v hv;split at h
  case h_2=>cases h
  rename_i l' h1;injection h with h;subst h
  obtain ⟨w,k1,k2⟩:=wT hg hv;injection k2 with k2;subst k2
  rw [bQ,mG hg h1];rw [show (s.st g).tmps.get t=(s.get t).av g s.ln from DS.ij g s t];rw [show loadAt (s.st g).H n ag _=_ from k1];rfl
def fC:List (TV G)->Nat->List (Nat×TV G)
 | [],_=>[]
 | x::xs,i=>(i,x)::fC xs (i+1)
theorem lK (g:Ge G) (ln:Nat->Nat):∀ (l:List (TV G)) (i:Nat),dJ g ln (fC l i)=T.kq (TV.aP g ln l) i
 | [],_=>rfl
 | x::l,i=>by
  show (i,_)::dJ g ln (fC l (i+1))=(i,_)::T.kq (TV.aP g ln l) (i+1);rw [lK g ln l]
def Ju (n:Nat):List (TO G)->Bool
 | []=>true
 | .lp _ fi::r=>Nat.blt fi n&&Ju n r
 | _::r=>Ju n r
theorem nI {g:Ge G} {ln:Nat->Nat} {F F':List (T×C3)} {n:Nat} (hF:∀ i,i < n->F'[i]?=F[i]?):∀ {H:List (TO G)},Ju n H=true->H.map (TO.av g ln F')=H.map (TO.av g ln F)
 | [],_=>rfl
 | .lp s fi::r,h=>by
  rw [Ju,za0] at h;have h1:fi < n:=by simpa [zbV] using h.1
  rw [za5,za5,nI hF h.2];simp only [TO.av,hF fi h1]
 | .box l::r,h | .aQ ..::r,h | .cQ ..::r,h | .mix ..::r,h | .arr ..::r,h | .dead::r,h | .ew::r,h | .mg ..::r,h | .yN ..::r,h | .imp ..::r,h=>by
  have h:Ju n r=true:=h;rw [za5,za5,nI hF h];rfl
def DS.enter (s:DS G) (sz:Nat) (sl:List (Nat×TV G)) (c:C3):DS G:=⟨sz,sl,s.H,s.fr++[(s.sz,s.sl,c)]⟩
def DS.leave (s:DS G) (n:Nat):Option (DS G):=match s.fr[n]? with
 | some f=>if Ju n s.H then some ⟨f.1,f.2.1,s.H,s.fr.take n⟩ else none
 | none=>none
theorem Ga (g:Ge G) (s:DS G):(s.FR g).length=s.fr.length:=by unfold DS.FR;rw [zaa]
theorem Et {g:Ge G} (s:DS G) (sz:Nat) (sl:List (Nat×TV G)) (c:C3) (h:Ju s.fr.length s.H=true):(s.enter sz sl c).tm g=⟨sz,dJ g s.ln sl⟩/\(s.enter sz sl c).FR g=s.FR g++[(s.tm g,c)]/\(s.enter sz sl c).Hv g=s.Hv g:=by
 have e:(s.enter sz sl c).FR g=s.FR g++[(s.tm g,c)]:=by
  unfold DS.FR DS.enter;rw [zal];rfl
 refine ⟨rfl,e,?_⟩;unfold DS.Hv;rw [e];refine nI (n:=s.fr.length) (fun i hi=>?_) h;rw [zai (by rw [Ga];exact hi)]
theorem xp {g:Ge G} {s s' s2:DS G} {c:C3} (h:s'.leave s.fr.length=some s2) (hF:s'.FR g=s.FR g++[(s.tm g,c)]):s2.tm g=s.tm g/\s2.FR g=s.FR g/\s2.ln=s'.ln/\s2.Hv g=s'.Hv g:=by
 have hl:=Ga g s;unfold DS.leave at h;split at h
 case h_2=>cases h
 rename_i f hf;split at h
 case isFalse=>cases h
 rename_i hb;injection h with h;subst h
 have h1:(s'.FR g)[s.fr.length]?=(s.FR g++[(s.tm g,c)])[s.fr.length]?:=by rw [hF]
 unfold DS.FR at h1;rw [zav,hf] at h1;rw [zaj (by rw [zaa];exact za7 _),zaa,zbl] at h1;injection h1 with h1
 injection h1 with h1 _
 have h2:(⟨f.1,f.2.1,s'.H,s'.fr.take s.fr.length⟩:DS G).FR g=s.FR g:=by
  have h3:=congrArg (List.take s.fr.length) hF;rw [List.take_left' hl] at h3;rw [<-h3];unfold DS.FR;rw [<-zbH];rfl
 refine ⟨h1,h2,rfl,?_⟩;show s'.H.map (TO.av g s'.ln (DS.FR g _))=s'.H.map (TO.av g s'.ln (s'.FR g));rw [h2,hF];refine nI (n:=s.fr.length) (fun i hi=>?_) hb;rw [zai (by rw [hl];exact hi)]
def JR:List (Nat×TV G)->Nat->TV G->List (Nat×TV G)
 | [],_,_=>[]
 | (k,u)::r,n,v=>if k=n then (k,v)::r else (k,u)::JR r n v
theorem Jl {g:Ge G} {ln:Nat->Nat}:∀ {l:List (Nat×TV G)} {n:Nat} {v:TV G},(FY l n).av g ln=v.av g ln->dJ g ln (JR l n v)=dJ g ln l
 | [],_,_,_=>rfl
 | (k,u)::r,n,v,h=>by
  rw [FY] at h;rw [JR];split
  ·rename_i hk;rw [if_pos hk] at h;show (k,_)::_=(k,_)::_;rw [h]
  ·rename_i hk;rw [if_neg hk] at h;show (k,_)::dJ g ln (JR r n v)=(k,_)::dJ g ln r;rw [Jl h]
def DS.rep (s:DS G) (n:Nat) (v:TV G):DS G:=⟨s.sz,JR s.sl n v,s.H,s.fr⟩
theorem Nd {g:Ge G} {s:DS G} {n:Nat} {v:TV G} (h:(s.get n).av g s.ln=v.av g s.ln):(s.rep n v).tm g=s.tm g/\(s.rep n v).Hv g=s.Hv g/\(s.rep n v).FR g=s.FR g:=by
 refine ⟨?_,rfl,rfl⟩;show (⟨s.sz,_⟩:T)=⟨s.sz,_⟩;rw [show dJ g (s.rep n v).ln (s.rep n v).sl=dJ g s.ln (JR s.sl n v) from rfl,Jl h]
def sY (x y:Ls) (s:DS G) (l:Nat):Option (DS G):=match s.H[l]? with
 | some (.lp s' fi)=>if s'=x/\fi < s.fr.length then some (s.gV l (.lp y fi)) else none
 | _=>none
theorem AD {g:Ge G} {s s':DS G} {x y:Ls} {l:Nat} (h:sY x y s l=some s'):jI x y (s.Hv g) l=some (s'.Hv g)/\s'.tm g=s.tm g/\s'.FR g=s.FR g:=by
 unfold sY at h;split at h
 case h_2=>cases h
 rename_i s0 fi hl;split at h
 case isFalse=>cases h
 rename_i e;obtain ⟨rfl,e⟩:=e;injection h with h;subst h
 have hf:(s.FR g)[fi]?=some ((s.FR g)[fi]'(by unfold DS.FR;simpa using e)):=za1 _;obtain ⟨k1,k2,k3,k4⟩:=eP (g:=g) (o':= .lp y fi) hl rfl;refine ⟨?_,k2,k3⟩;unfold jI;rw [bl hl];simp only [TO.av,hf,if_true];rw [k4];simp only [TO.av,hf]
end
end oe
end
section
namespace oe
open Go hiding Obj mark
open Go.Pl Go.Am Go.Am.As
def jB {α:Type} (f:α->α->Bool):List α->List α->Bool
 | [],l=>(match l with | []=>true | _::_=>false)
 | x::xs,l=>(match l with | y::ys=>f x y&&jB f xs ys | []=>false)
theorem gN {α:Type} {f:α->α->Bool} (hf:∀ x y,f x y=true->x=y):∀ {l m:List α},jB f l m=true->l=m
 | [],[],_=>rfl
 | [],_::_,h=>by cases h
 | _::_,[],h=>by cases h
 | x::xs,y::ys,h=>by
  have h:(f x y&&jB f xs ys)=true:=h;rw [za0] at h;rw [hf _ _ h.1,gN hf h.2]
theorem jC:∀ x y:Nat,Nat.beq x y=true->x=y:=fun x y h=>za3 h
def RX.same:RX->RX->Bool
 | .t i,y=>(match y with | .t j=>Nat.beq i j | _=>false)
 | .c v,y=>(match y with | .c w=>AV.same v w | _=>false)
 | _,_=>false
theorem RX.bx:∀ x y:RX,RX.same x y=true->x=y:=by
 intro x y h
 cases x with
 | t i=>cases y with
  | t j=>rw [jC i j h]
  | _=>cases h
 | c v=>cases y with
  | c w=>rw [AV.bx h]
  | _=>cases h
 | _=>cases h
def RO.same:RO->RO->Bool
 | .Ho a,y=>(match y with | .Ho b=>RX.same a b | _=>false)
 | .pick a b c,y=>(match y with | .pick a' b' c'=>RX.same a a'&&(RX.same b b'&&RX.same c c') | _=>false)
 | .alloc z,y=>(match y with | .alloc z'=>AV.iJ z z' | _=>false)
 | .load n g a,y=>(match y with | .load n' g' a'=>Nat.beq n n'&&((g==g')&&RX.same a a') | _=>false)
 | .store n a b,y=>(match y with | .store n' a' b'=>Nat.beq n n'&&(RX.same a a'&&RX.same b b') | _=>false)
 | .bin o a b,y=>(match y with | .bin o' a' b'=>decide (o=o')&&(RX.same a a'&&RX.same b b') | _=>false)
 | .un o a,y=>(match y with | .un o' a'=>decide (o=o')&&RX.same a a' | _=>false)
 | .uZ n a,y=>(match y with | .uZ n' a'=>Nat.beq n n'&&RX.same a a' | _=>false)
 | .mx l,y=>(match y with | .mx m=>jB RX.same l m | _=>false)
 | .call f l,y=>(match y with | .call f' m=>Nat.beq f f'&&jB RX.same l m | _=>false)
 | .ext a n,y=>(match y with | .ext a' n'=>Nat.beq n n'&&RX.same a a' | _=>false)
 | _,_=>false
theorem RO.bx:∀ x y:RO,RO.same x y=true->x=y:=by
 intro x y h
 cases x with
 | Ho a=>cases y with
  | Ho b=>rw [RX.bx _ _ h]
  | _=>cases h
 | pick a b c=>cases y with
  | pick a' b' c'=>
   have h:(RX.same a a'&&(RX.same b b'&&RX.same c c'))=true:=h;simp only [za0] at h;rw [RX.bx _ _ h.1,RX.bx _ _ h.2.1,RX.bx _ _ h.2.2]
  | _=>cases h
 | alloc z=>cases y with
  | alloc z'=>rw [AV.gO h]
  | _=>cases h
 | load n g a=>cases y with
  | load n' g' a'=>
   have h:(Nat.beq n n'&&((g==g')&&RX.same a a'))=true:=h;simp only [za0] at h;rw [jC _ _ h.1,eq_of_beq h.2.1,RX.bx _ _ h.2.2]
  | _=>cases h
 | store n a b=>cases y with
  | store n' a' b'=>
   have h:(Nat.beq n n'&&(RX.same a a'&&RX.same b b'))=true:=h;simp only [za0] at h;rw [jC _ _ h.1,RX.bx _ _ h.2.1,RX.bx _ _ h.2.2]
  | _=>cases h
 | bin o a b=>cases y with
  | bin o' a' b'=>
   have h:(decide (o=o')&&(RX.same a a'&&RX.same b b'))=true:=h;simp only [za0,decide_eq_true_eq] at h;rw [h.1,RX.bx _ _ h.2.1,RX.bx _ _ h.2.2]
  | _=>cases h
 | un o a=>cases y with
  | un o' a'=>
   have h:(decide (o=o')&&RX.same a a')=true:=h;simp only [za0,decide_eq_true_eq] at h;rw [h.1,RX.bx _ _ h.2]
  | _=>cases h
 | uZ n a=>cases y with
  | uZ n' a'=>
   have h:(Nat.beq n n'&&RX.same a a')=true:=h;simp only [za0] at h;rw [jC _ _ h.1,RX.bx _ _ h.2]
  | _=>cases h
 | mx l=>cases y with
  | mx m=>rw [gN RX.bx h]
  | _=>cases h
 | call f l=>cases y with
  | call f' m=>
   have h:(Nat.beq f f'&&jB RX.same l m)=true:=h;simp only [za0] at h;rw [jC _ _ h.1,gN RX.bx h.2]
  | _=>cases h
 | ext a n=>cases y with
  | ext a' n'=>
   have h:(Nat.beq n n'&&RX.same a a')=true:=h;simp only [za0] at h;rw [jC _ _ h.1,RX.bx _ _ h.2]
  | _=>cases h
 | _=>cases h
def bH.same (a b:bH):Bool:=decide (a.dst=b.dst)&&(decide (a.guard=b.guard)&&RO.same a.op b.op)
theorem bH.bx:∀ a b:bH,bH.same a b=true->a=b:=by
 rintro ⟨d,g,o⟩ ⟨d',g',o'⟩ h;have h:(decide (d=d')&&(decide (g=g')&&RO.same o o'))=true:=h;simp only [za0,decide_eq_true_eq] at h;rw [h.1,h.2.1,RO.bx _ _ h.2.2]
def GA.same:GA->GA->Bool
 | .kill l,y=>(match y with | .kill m=>jB Nat.beq l m | _=>false)
 | .ku n,y=>(match y with | .ku m=>Nat.beq n m | _=>false)
 | .uc n,y=>(match y with | .uc m=>Nat.beq n m | _=>false)
 | .nq n,y=>(match y with | .nq m=>Nat.beq n m | _=>false)
 | .wk l,y=>(match y with | .wk m=>jB Nat.beq l m | _=>false)
 | _,_=>false
theorem GA.bx:∀ x y:GA,GA.same x y=true->x=y:=by
 intro x y h
 cases x with
 | kill l=>cases y with
  | kill m=>rw [gN jC h]
  | _=>cases h
 | ku n=>cases y with
  | ku m=>rw [jC n m h]
  | _=>cases h
 | uc n=>cases y with
  | uc m=>rw [jC n m h]
  | _=>cases h
 | nq n=>cases y with
  | nq m=>rw [jC n m h]
  | _=>cases h
 | wk l=>cases y with
  | wk m=>rw [gN jC h]
  | _=>cases h
 | _=>cases h
def RC.same:RC->RC->Bool
 | .skip,y=>(match y with | .skip=>true | _=>false)
 | .ret,y=>(match y with | .ret=>true | _=>false)
 | .exit i,y=>(match y with | .exit j=>Nat.beq i j | _=>false)
 | .u5 l,y=>(match y with | .u5 m=>jB bH.same l m | _=>false)
 | .seq a b,y=>(match y with | .seq a' b'=>RC.same a a'&&RC.same b b' | _=>false)
 | .cond x a b,y=>(match y with | .cond x' a' b'=>RX.same x x'&&(RC.same a a'&&RC.same b b') | _=>false)
 | .block i a,y=>(match y with | .block j a'=>Nat.beq i j&&RC.same a a' | _=>false)
 | .gh p a q,y=>(match y with | .gh p' a' q'=>jB GA.same p p'&&(RC.same a a'&&jB GA.same q q') | _=>false)
 | _,_=>false
theorem RC.bx:∀ x y:RC,RC.same x y=true->x=y:=by
 intro x;induction x with
 | skip=>intro y h;cases y with
  | skip=>rfl
  | _=>cases h
 | ret=>intro y h;cases y with
  | ret=>rfl
  | _=>cases h
 | exit i=>intro y h;cases y with
  | exit j=>rw [jC i j h]
  | _=>cases h
 | u5 l=>intro y h;cases y with
  | u5 m=>rw [gN bH.bx h]
  | _=>cases h
 | seq a b Uv ihb=>intro y h;cases y with
  | seq a' b'=>
   have h:(RC.same a a'&&RC.same b b')=true:=h;simp only [za0] at h;rw [Uv _ h.1,ihb _ h.2]
  | _=>cases h
 | cond x a b Uv ihb=>intro y h;cases y with
  | cond x' a' b'=>
   have h:(RX.same x x'&&(RC.same a a'&&RC.same b b'))=true:=h;simp only [za0] at h;rw [RX.bx _ _ h.1,Uv _ h.2.1,ihb _ h.2.2]
  | _=>cases h
 | block i a Uv=>intro y h;cases y with
  | block j a'=>
   have h:(Nat.beq i j&&RC.same a a')=true:=h;simp only [za0] at h;rw [jC _ _ h.1,Uv _ h.2]
  | _=>cases h
 | gh p a q Uv=>intro y h;cases y with
  | gh p' a' q'=>
   have h:(jB GA.same p p'&&(RC.same a a'&&jB GA.same q q'))=true:=h;simp only [za0] at h;rw [gN GA.bx h.1,Uv _ h.2.1,gN GA.bx h.2.2]
  | _=>cases h
 | _=>intro y h;cases h
def C3.same (a b:C3):Bool:=jB Nat.beq a.1 b.1&&(RC.same a.2.1 b.2.1&&RC.same a.2.2 b.2.2)
theorem C3.bx {a b:C3} (h:C3.same a b=true):a=b:=by
 obtain ⟨p,c,d⟩:=a;obtain ⟨p',c',d'⟩:=b;have h:(jB Nat.beq p p'&&(RC.same c c'&&RC.same d d'))=true:=h;simp only [za0] at h;rw [gN jC h.1,RC.bx _ _ h.2.1,RC.bx _ _ h.2.2]
section
variable {G:Nat->Type} {R:Type}
def yV:RC->List C3
 | .AT _ ps a b=>(ps,a,b)::(yV a++yV b)
 | .seq a b=>yV a++yV b
 | .cond _ a b=>yV a++yV b
 | .block _ a=>yV a
 | .loop a=>yV a
 | .gh _ a _=>yV a
 | _=>[]
structure AU where
 sl:List Sh
 H:List Oh
 fr:List (Nat×List (Nat×Sh)×C3)
structure dA where
 rs:List Sh
 H:List Oh
 ts:List Ty
structure eR (G:Nat->Type) where
 f:Nat
 i:AU
 ts:List Ty
 o1:dA
 o2:dA
 m:DL G ts->Option (DL G o1.ts⊕DL G o2.ts)
def pL:List Sh->Nat->List (Nat×(Sh⊕TV G))
 | [],_=>[]
 | s::ss,i=>(i,.inl s)::pL ss (i+1)
def CP:List (Nat×Sh)->List (Nat×(Sh⊕TV G))
 | []=>[]
 | p::ps=>(p.1,.inl p.2)::CP ps
theorem BH:∀ {ss:List Sh} {i x:Nat} {u:TV G},(x,Sum.inr u)∈pL ss i->False
 | s::ss,i,x,u,h=>by
  rcases zad.1 h with e | h
  ·injection e with _ e;cases e
  ·exact BH h
theorem Ij:∀ {ss:List (Nat×Sh)} {x:Nat} {u:TV G},(x,Sum.inr u)∈CP ss->False
 | s::ss,x,u,h=>by
  rcases zad.1 h with e | h
  ·injection e with _ e;cases e
  ·exact Ij h
def Bo (g:Ge G):List (Nat×List (Nat×Sh)×C3)->List (Nat×List (Nat×TV G)×C3)->Option (List (TV G))
 | [],_=>some []
 | p::ps,fs=>(match fs with
  | q::qs=>if Nat.beq p.1 q.1&&C3.same p.2.2 q.2.2 then (match pn g (CP p.2.1) q.2.1 with
   | some a=>(match Bo g ps qs with | some b=>some (a++b) | none=>none)
   | none=>none) else none
  | []=>none)
def zz (g:Ge G):List (Nat×List (Nat×Sh)×C3)->List (TV G)->List (Nat×List (Nat×TV G)×C3)
 | [],_=>[]
 | p::ps,l=>(p.1,(ki g (CP p.2.1) l).1,p.2.2)::zz g ps (ki g (CP p.2.1) l).2
def P5 (g:Ge G) (ln:Nat->Nat) (f:Nat×List (Nat×TV G)×C3):T×C3:=(⟨f.1,dJ g ln f.2.1⟩,f.2.2)
theorem zT {g:Ge G} {ln:Nat->Nat}:∀ {ps:List (Nat×List (Nat×Sh)×C3)} {fs:List (Nat×List (Nat×TV G)×C3)} {l:List (TV G)},Bo g ps fs=some l->
 ∀ {l':List (TV G)},TV.aP g ln l'=TV.aP g ln l->(zz g ps l').map (P5 g ln)=(fs.take ps.length).map (P5 g ln)
 | [],fs,l,h,l',e=>by simp [zz]
 | p::ps,[],l,h,l',e=>by cases h
 | p::ps,q::qs,l,h,l',e=>by
  have h':(if Nat.beq p.1 q.1&&C3.same p.2.2 q.2.2 then (match pn g (CP p.2.1) q.2.1 with
   | some a=>(match Bo g ps qs with | some b=>some (a++b) | none=>none)
   | none=>none) else none)=some l:=h
  split at h'
  case isFalse=>cases h'
  rename_i hc;rw [za0] at hc;split at h'
  case h_2=>cases h'
  rename_i a ha;split at h'
  case h_2=>cases h'
  rename_i b hb;injection h' with h';subst h'
  obtain ⟨u,v,e0,e1,e2⟩:=dZ e;subst e0;obtain ⟨Ht,k1,k2⟩:=lG (XX:=ln) (ln:=ln) ha (fun x w v h=>(Ij h).elim) u v e1;have ih:=zT hb e2;show P5 g ln (p.1,(ki g (CP p.2.1) (u++v)).1,p.2.2)::(zz g ps (ki g (CP p.2.1) (u++v)).2).map (P5 g ln)=_;rw [k1];show _=P5 g ln q::(qs.take ps.length).map (P5 g ln);rw [ih];unfold P5;dsimp only;rw [k2,jC _ _ hc.1,C3.bx hc.2]
theorem zU {g:Ge G} (hg:g.Ok) {ln:Nat->Nat} {F:List (T×C3)}:∀ {hs:List Oh} {os:List (TO G)} {l:List (TV G)},ug g hs os=some l->∀ {l' r:List (TV G)},TV.aP g ln l'=TV.aP g ln l->qR hs (kj g hs (l'++r)).1=true->
 (kj g hs (l'++r)).2=r
 | [],[],l,h,l',r,e,hk=>by
  injection h with h;subst h
  rw [fN e];rfl
 | [],_::_,l,h,l',r,e,hk=>by cases h
 | _::_,[],l,h,l',r,e,hk=>by cases h
 | h::hs,o::os,l,hc,l',r,e,hk=>by
  have Fu:(match pq g h o with
   | some a=>(match ug g hs os with | some b=>some (a++b) | none=>none)
   | none=>none)=some l:=hc
  split at Fu
  case h_2=>cases Fu
  rename_i a ha;split at Fu
  case h_2=>cases Fu
  rename_i b hb;injection Fu with Fu;subst Fu
  obtain ⟨p,q,e0,e1,e2⟩:=dZ e;subst e0;have hk':(jD h (ng g h (p++q++r)).1&&qR hs (kj g hs (ng g h (p++q++r)).2).1)=true:=hk;rw [za0,zaH] at hk';obtain ⟨k1,k2,k3⟩:=Dp hg (F:=F) ha e1 hk'.1;have hk2:=hk'.2;rw [k1] at hk2;show (kj g hs (ng g h (p++q++r)).2).2=r;rw [zaH,k1];exact zU hg (F:=F) hb e2 hk2
def AU.st (g:Ge G) (i:AU) (nt:Nat) (l:List (TV G)):DS G:=
 ⟨nt,(ki g (pL i.sl 0) l).1,(kj g i.H (ki g (pL i.sl 0) l).2).1,zz g i.fr (kj g i.H (ki g (pL i.sl 0) l).2).2⟩
def vals (l:List (Nat×TV G)):List (TV G):=l.map (·.2)
def dA.res (g:Ge G) (o:dA) (l:List (TV G)):List (TV G):=vals (ki g (pL o.rs 0) l).1
def dA.mem (g:Ge G) (o:dA) (l:List (TV G)):List (TO G):=(kj g o.H (ki g (pL o.rs 0) l).2).1
def dA.Is (E:Env) (hp:Nat->Bool) (g:Ge G) (f:Nat) (s0:DS G) (o:dA) (l:List (TV G)):Prop:=
 ∃ n,kg E.fns (ak E hp n) (some f) (TV.aP g s0.ln (vals s0.sl)) (s0.Hv g)=some (oneOf (TV.aP g (ju (o.mem g l)) (o.res g l)),(⟨0,[],o.mem g l,s0.fr⟩:DS G).Hv g)/\
  (⟨0,[],o.mem g l,s0.fr⟩:DS G).FR g=s0.FR g
def dA.Is2 (E:Env) (hp:Nat->Bool) (g:Ge G) (f:Nat) (s0:DS G) (o1 o2:dA) (u:DL G o1.ts⊕DL G o2.ts):Prop:=
 Sum.elim (fun w=>dA.Is E hp g f s0 o1 (aI g o1.ts w)) (fun w=>dA.Is E hp g f s0 o2 (aI g o2.ts w)) u
def eR.Ok (E:Env) (hp:Nat->Bool) (g:Ge G) (c:eR G):Prop:=∀ x u,c.m x=some u->dA.Is2 E hp g c.f (c.i.st g 0 (aI g c.ts x)) c.o1 c.o2 u
def AU.coll (g:Ge G) (i:AU) (xs:List (TV G)) (s:DS G):Option (List (TV G)):=match pn g (pL i.sl 0) (fC xs 0) with
 | some a=>(match ug g i.H s.H with
  | some b=>(match Bo g i.fr s.fr with
   | some c=>some (a++(b++c))
   | none=>none)
  | none=>none)
 | none=>none
def rj:List (Nat×TV G)->Bool
 | []=>true
 | p::r=>indep p.2&&rj r
def rm:List (Nat×List (Nat×TV G)×C3)->Bool
 | []=>true
 | p::r=>rj p.2.1&&rm r
theorem qi {g:Ge G} {ln cc:Nat->Nat}:∀ {l:List (Nat×TV G)},rj l=true->dJ g ln l=dJ g cc l
 | [],_=>rfl
 | p::r,h=>by
  rw [rj,za0] at h;show (p.1,_)::dJ g ln r=(p.1,_)::dJ g cc r;rw [wY p.2 h.1,qi h.2]
theorem qj {g:Ge G} {ln cc:Nat->Nat}:∀ {l:List (Nat×List (Nat×TV G)×C3)},rm l=true->l.map (P5 g ln)=l.map (P5 g cc)
 | [],_=>rfl
 | p::r,h=>by
  rw [rm,za0] at h;rw [za5,za5,qj h.2];unfold P5;rw [qi h.1]
def qS (g:Ge G) (f:Nat) (xs:List (TV G)) (s:DS G):List (eR G)->Option ((c:eR G)×DL G c.ts)
 | []=>none
 | c::r=>if Nat.beq c.f f then (match c.i.coll g xs s with
  | some l=>(match nr g c.ts l with
   | some x=>if qR c.i.H (c.i.st g 0 (aI g c.ts x)).H&&(Ju c.i.fr.length (c.i.st g 0 (aI g c.ts x)).H&&Ju c.i.fr.length s.H) then some ⟨c,x⟩ else qS g f xs s r
   | none=>qS g f xs s r)
  | none=>qS g f xs s r) else qS g f xs s r
theorem qk:∀ (xs:List (TV G)) (i:Nat),vals (fC xs i)=xs
 | [],_=>rfl
 | x::xs,i=>by
  show x::vals (fC xs (i+1))=_;rw [qk xs]
theorem wZ {g:Ge G} {ln:Nat->Nat}:∀ {a b:List (Nat×TV G)},dJ g ln a=dJ g ln b->TV.aP g ln (vals a)=TV.aP g ln (vals b)
 | [],[],_=>rfl
 | [],_::_,h=>by cases h
 | _::_,[],h=>by cases h
 | p::a,q::b,h=>by
  have h:(p.1,p.2.av g ln)::dJ g ln a=(q.1,q.2.av g ln)::dJ g ln b:=h;injection h with h1 h2
  injection h1 with _ h1
  show p.2.av g ln::TV.aP g ln (vals a)=q.2.av g ln::TV.aP g ln (vals b);rw [h1,wZ h2]
theorem Dq {g:Ge G} (hg:g.Ok) {f:Nat} {xs:List (TV G)} {s:DS G}:∀ {C:List (eR G)} {p:(c:eR G)×DL G c.ts},qS g f xs s C=some p->
 p.1∈C/\p.1.f=f/\(p.1.i.st g 0 (aI g p.1.ts p.2)).ln=s.ln/\TV.aP g s.ln (vals (p.1.i.st g 0 (aI g p.1.ts p.2)).sl)=TV.aP g s.ln xs/\
 (p.1.i.st g 0 (aI g p.1.ts p.2)).Hv g=s.Hv g/\(p.1.i.st g 0 (aI g p.1.ts p.2)).FR g=(s.FR g).take p.1.i.fr.length/\(p.1.i.st g 0 (aI g p.1.ts p.2)).H.map TO.len=s.H.map TO.len
 | [],p,h=>by cases h
 | c::r,p,h=>by
  have tl:qS g f xs s r=some p->p.1∈c::r/\p.1.f=f/\(p.1.i.st g 0 (aI g p.1.ts p.2)).ln=s.ln/\TV.aP g s.ln (vals (p.1.i.st g 0 (aI g p.1.ts p.2)).sl)=TV.aP g s.ln xs/\
   (p.1.i.st g 0 (aI g p.1.ts p.2)).Hv g=s.Hv g/\(p.1.i.st g 0 (aI g p.1.ts p.2)).FR g=(s.FR g).take p.1.i.fr.length/\(p.1.i.st g 0 (aI g p.1.ts p.2)).H.map TO.len=s.H.map TO.len:=fun h=>by
   obtain ⟨h1,h2⟩:=Dq hg h;exact ⟨zau _ h1,h2⟩
  rw [qS] at h;split at h
  case isFalse=>exact tl h
  rename_i hf;split at h
  case h_2=>exact tl h
  rename_i l hl;split at h
  case h_2=>exact tl h
  rename_i x hx;split at h
  case isFalse=>exact tl h
  rename_i hk;rw [za0,za0] at hk;obtain ⟨hk,Uw,zm⟩:=hk;injection h with h;subst h
  dsimp only;unfold AU.coll at hl;split at hl
  case h_2=>cases hl
  rename_i a ha;split at hl
  case h_2=>cases hl
  rename_i b hb;split at hl
  case h_2=>cases hl
  rename_i d hd;injection hl with hl;subst hl
  have e:TV.aP g s.ln (aI g c.ts x)=TV.aP g s.ln (a++(b++d)):=by rw [ir hg,kH hg s.ln _ _ _ hx]
  obtain ⟨u,v,e0,e1,e2⟩:=dZ e;obtain ⟨v1,v2,e3,e4,e5⟩:=dZ e2;subst e3;obtain ⟨Ht,k1,k2⟩:=lG (XX:=s.ln) (ln:=s.ln) ha (fun x w v h=>(BH h).elim) u (v1++v2) e1;have hH:(c.i.st g 0 (aI g c.ts x)).H=(kj g c.i.H (v1++v2)).1:=by unfold AU.st;dsimp only;rw [e0,k1]
  rw [hH] at hk Uw;have KM:=zU (F:=s.FR g) hg hb e4 hk;obtain ⟨m1,m2⟩:=nP hg (F:=s.FR g) hb e4 hk;have u6:(c.i.st g 0 (aI g c.ts x)).ln=s.ln:=by unfold DS.ln;rw [hH];exact F4 m2
  have hfr:(c.i.st g 0 (aI g c.ts x)).fr=zz g c.i.fr v2:=by unfold AU.st;dsimp only;rw [e0,k1];dsimp only;rw [KM]
  have yM:(c.i.st g 0 (aI g c.ts x)).FR g=(s.FR g).take c.i.fr.length:=by
   have h1:=zT (ln:=s.ln) hd e5;unfold DS.FR;rw [hfr,u6,<-zbH];exact h1
  refine ⟨zaP ..,za3 hf,u6,?_,?_,yM,by rw [hH,m2]⟩
  ·have:(c.i.st g 0 (aI g c.ts x)).sl=Ht:=by unfold AU.st;dsimp only;rw [e0,k1]
   rw [this,<-qk xs 0];exact wZ k2
  ·unfold DS.Hv;rw [u6,hH,yM];have h2:=nI (g:=g) (ln:=s.ln) (F:=s.FR g) (F':=(s.FR g).take c.i.fr.length) (n:=c.i.fr.length) (fun i hi=>by rw [zbn,if_pos hi]) zm;have h3:=nI (g:=g) (ln:=s.ln) (F:=s.FR g) (F':=(s.FR g).take c.i.fr.length) (n:=c.i.fr.length) (H:=(kj g c.i.H (v1++v2)).1) (fun i hi=>by rw [zbn,if_pos hi]) Uw;rw [h3,m1]
theorem zV {g:Ge G}:∀ (ss:List Sh) (i:Nat) (l:List (TV G)),(ki g (pL ss i) l).1=fC (vals (ki g (pL ss i) l).1) i
 | [],i,l=>rfl
 | s::ss,i,l=>by
  show (i,(Sh.eC g s l).1)::(ki g (pL ss (i+1)) (Sh.eC g s l).2).1=(i,(Sh.eC g s l).1)::fC (vals (ki g (pL ss (i+1)) (Sh.eC g s l).2).1) (i+1);rw [<-zV ss (i+1)]
theorem Dr {g:Ge G}:∀ (ss:List Sh) (i:Nat) (l:List (TV G)),(vals (ki g (pL ss i) l).1).length=ss.length
 | [],i,l=>rfl
 | s::ss,i,l=>by
  show (vals (ki g (pL ss (i+1)) (Sh.eC g s l).2).1).length+1=ss.length+1;rw [Dr ss (i+1)]
def dA.coll (g:Ge G) (o:dA) (rs:List (TV G)) (s:DS G):Option (DL G o.ts):=match pn g (pL o.rs 0) (fC rs 0) with
 | some a=>(match ug g o.H s.H with
  | some b=>(match nr g o.ts (a++b) with
   | some w=>if qR o.H (o.mem g (aI g o.ts w)) then some w else none
   | none=>none)
  | none=>none)
 | none=>none
theorem dA.rq {g:Ge G} (hg:g.Ok) {o:dA} {rs:List (TV G)} {s:DS G} {w:DL G o.ts} (h:o.coll g rs s=some w):
 ju (o.mem g (aI g o.ts w))=s.ln/\TV.aP g s.ln (o.res g (aI g o.ts w))=TV.aP g s.ln rs/\∀ F,(o.mem g (aI g o.ts w)).map (TO.av g s.ln F)=s.H.map (TO.av g s.ln F):=by
 unfold dA.coll at h;split at h
 case h_2=>cases h
 rename_i a ha;split at h
 case h_2=>cases h
 rename_i b hb;split at h
 case h_2=>cases h
 rename_i w' hw;split at h
 case isFalse=>cases h
 rename_i hk;injection h with h;subst h
 have e:TV.aP g s.ln (aI g o.ts w')=TV.aP g s.ln (a++b):=by rw [ir hg,kH hg s.ln _ _ _ hw]
 obtain ⟨u,v,e0,e1,e2⟩:=dZ e;obtain ⟨Ht,k1,k2⟩:=lG (XX:=s.ln) (ln:=s.ln) ha (fun x w v h=>(BH h).elim) u v e1;have hm:o.mem g (aI g o.ts w')=(kj g o.H (v++[])).1:=by unfold dA.mem;rw [e0,k1,zbm]
 rw [hm] at hk ⊢;refine ⟨F4 (nP hg (F:=[]) hb e2 hk).2,?_,fun F=>(nP hg (F:=F) hb e2 hk).1⟩;unfold dA.res;rw [e0,k1];have:=wZ k2
 rwa [qk] at this
end
end oe
end
