/- Parts of my machine and its laws, joined: DnI DnY. No condition. -/
import Derived.Test.YtafgdbaekppjcaaGreatDoorDnH
set_option linter.unusedSectionVars false
set_option linter.unusedVariables false
set_option linter.unusedSimpArgs false
section
namespace nT
open Go hiding Obj mark
open Go.Pl Go.Am Go.Am.As
set_option linter.unusedVariables false
inductive An where
 | n
 | j (e:Bool) (p:Tm) (a:An)
 | l (e:Bool) (i:Nat) (p b:Tm) (a:An)
 | s (l:List An)
 | o (l:List (Nat×An))
 | u (l:List An)
 | z
 deriving Inhabited
def An.sub (a:An) (i:Nat):An:=match a with
 | .s q=>q.getD i .n
 | _=> .n
def Pw:Nat->List (Nat×An)->An
 | _,[]=> .n
 | i,p::r=>if Nat.beq p.1 i then p.2 else Pw i r
def An.op (a:An) (i:Nat):An:=match a with
 | .o q=>Pw i q
 | _=> .n
structure Kn (G:Nat->Type) (R:Type) where
 n:DS G->Option R
 x:Nat->DS G->Option R
 r:DS G->Option R
def Kn.at {G:Nat->Type} {R:Type} (K:Kn G R):Ex->DS G->Option R
 | .normal,s=>K.n s
 | .exit i,s=>K.x i s
 | .ret,s=>K.r s
structure b7 (G:Nat->Type) where
 f:Nat
 args:List Sh
 ts:List Ty
 rs:List Ty
 m:DL G ts->Option (DL G rs)
abbrev Rec (G:Nat->Type):={R:Type}->RC->An->Nat->DS G->Kn G R->Option R
section
variable {G:Nat->Type} {R:Type}
def AJ (g:Ge G):List Sh->List (TV G)->Option (List (TV G))
 | [],vs=>(match vs with | []=>some [] | _::_=>none)
 | s::ss,vs=>(match vs with
  | v::vs=>(match Sh.coll g s v with
   | some a=>(match AJ g ss vs with | some b=>some (a++b) | none=>none)
   | none=>none)
  | []=>none)
def ot (g:Ge G):List Sh->List (TV G)->List (TV G)
 | [],_=>[]
 | s::ss,l=>(Sh.eo g s l).1::ot g ss (Sh.eo g s l).2
theorem vh {g:Ge G} {ln:Nat->Nat}:∀ {ss:List Sh} {vs l:List (TV G)},AJ g ss vs=some l->∀ {l':List (TV G)},TV.aR g ln l'=TV.aR g ln l->TV.aR g ln (ot g ss l')=TV.aR g ln vs
 | [],[],l,h,l',e=>rfl
 | [],_::_,l,h,l',e=>by cases h
 | _::_,[],l,h,l',e=>by cases h
 | s::ss,v::vs,l,h,l',e=>by
  have h':(match Sh.coll g s v with
   | some a=>(match AJ g ss vs with | some b=>some (a++b) | none=>none)
   | none=>none)=some l:=h
  split at h'
  case h_2=>cases h'
  rename_i a ha;split at h'
  case h_2=>cases h'
  rename_i b hb;injection h' with h';subst h'
  obtain ⟨p,q,e0,e1,e2⟩:=dL e;subst e0;obtain ⟨v',k1,k2⟩:=pO s v a ha p q e1;show _::TV.aR g ln (ot g ss (Sh.eo g s (p++q)).2)=_;rw [k1];dsimp only;rw [vh hb e2,k2];rfl
def b7.vs (g:Ge G) (c:b7 G) (x:DL G c.ts):List (TV G):=ot g c.args (aL g c.ts x)
def b7.Ok (E:Env) (hp:Nat->Bool) (g:Ge G) (c:b7 G):Prop:=∀ x r,c.m x=some r->Pt E hp c.f (TV.aR g (fun _=>0) (c.vs g x)) (oneOf (tR g c.rs r))
def jP (g:Ge G) (f:Nat) (ys:List (TV G)):List (b7 G)->Option ((c:b7 G)×DL G c.ts)
 | []=>none
 | c::r=>if Nat.beq c.f f then (match AJ g c.args ys with
  | some l=>(match lX g c.ts l with
   | some x=>some ⟨c,x⟩
   | none=>jP g f ys r)
  | none=>jP g f ys r) else jP g f ys r
theorem vZ {g:Ge G} (hg:g.Ok) {f:Nat} {ys:List (TV G)} {ln:Nat->Nat}:∀ {C:List (b7 G)} {p:(c:b7 G)×DL G c.ts},jP g f ys C=some p->p.1∈C/\p.1.f=f/\TV.aR g ln (p.1.vs g p.2)=TV.aR g ln ys
 | [],p,h=>by cases h
 | c::r,p,h=>by
  have tl:jP g f ys r=some p->p.1∈c::r/\p.1.f=f/\TV.aR g ln (p.1.vs g p.2)=TV.aR g ln ys:=fun h=>by
   obtain ⟨h1,h2⟩:=vZ hg h;exact ⟨List.mem_cons_of_mem _ h1,h2⟩
  rw [jP] at h;split at h
  case isFalse=>exact tl h
  rename_i hf;split at h
  case h_2=>exact tl h
  rename_i l hl;split at h
  case h_2=>exact tl h
  rename_i x hx;injection h with h;subst h
  refine ⟨List.mem_cons_self ..,Nat.eq_of_beq_eq_true hf,?_⟩;exact vh hl (by rw [gH hg,jM hg ln _ _ _ hx])
def Wt:Ty->Bool
 | .int _ | .bool | .str=>true
 | _=>false
def uA:List Ty->Bool
 | []=>true
 | t::r=>Wt t&&uA r
theorem yf {g:Ge G}:∀ {ts:List Ty} (x:DL G ts),uA ts=true->AV.iX (tR g ts x)=true
 | [],_,_=>rfl
 | [t],x,h=>by
  rw [uA,Bool.and_eq_true] at h;show ((va g t x).flat&&true)=true
  cases t<;>first | rfl | cases h.1
 | t::u::r,x,h=>by
  rw [uA,Bool.and_eq_true] at h;have ih:=yf (g:=g) (ts:=u::r) x.2 h.2;show ((va g t x.1).flat&&AV.iX (tR g (u::r) x.2))=true;rw [ih,Bool.and_true]
  cases t<;>first | rfl | cases h.1
def wM:List (TV G)->TV G
 | [v]=>v
 | l=> .bk l
theorem tC {g:Ge G} {ln:Nat->Nat} (l:List (TV G)):(wM l).av g ln=oneOf (TV.aR g ln l):=by
 match l with
 | []=>rfl
 | [v]=>rfl
 | _::_::_=>rfl
theorem DR {l:List AV} (h:AV.iX l=true):(oneOf l).flat=true:=by
 match l,h with
 | [],_=>rfl
 | [v],h=>simpa [AV.iX,oneOf] using h
 | a::b::l,h=>exact h
def Q4:TV G->Bool
 | .po .. | .pe .. | .pa ..=>true
 | .raw v=>(match v with | .eI _=>true | _=>false)
 | _=>false
def zh:List (TV G)->Bool
 | []=>false
 | x::xs=>Q4 x||zh xs
theorem Og {g:Ge G} {ln:Nat->Nat} {H:List Obj} {v:TV G} (h:Q4 v=true):pk 6 H (v.av g ln)=none:=by
 have key:∀ {a:AV},a.bA 0=false->(∀ id e o l,a≠ .own id e o l)->(∀ id e i o sz l,a≠ .arr id e i o sz l)->(∀ l,a≠ .agg l)->(∀ l,a≠ .bk l)->(∀ f l,a≠ .fn f l)->pk 6 H a=none:=by
  intro a h1 h2 h3 h4 h5 h6;unfold pk;rw [if_neg (by rw [AV.eS,h1];simp)];split
  ·exact (h2 _ _ _ _ rfl).elim
  ·exact (h3 _ _ _ _ _ _ rfl).elim
  ·exact (h4 _ rfl).elim
  ·exact (h5 _ rfl).elim
  ·exact (h6 _ _ rfl).elim
  ·rfl
 unfold Q4 at h;split at h
 ·exact key (by simp [TV.av,AV.bA]) (fun _ _ _ _=>nofun) (fun _ _ _ _ _ _=>nofun) (fun _=>nofun) (fun _=>nofun) (fun _ _=>nofun)
 ·exact key (by simp [TV.av,AV.bA]) (fun _ _ _ _=>nofun) (fun _ _ _ _ _ _=>nofun) (fun _=>nofun) (fun _=>nofun) (fun _ _=>nofun)
 ·exact key (by simp [TV.av,AV.bA]) (fun _ _ _ _=>nofun) (fun _ _ _ _ _ _=>nofun) (fun _=>nofun) (fun _=>nofun) (fun _ _=>nofun)
 ·split at h
  ·exact key (by simp [TV.av,AV.bA]) (fun _ _ _ _=>nofun) (fun _ _ _ _ _ _=>nofun) (fun _=>nofun) (fun _=>nofun) (fun _ _=>nofun)
  ·cases h
 ·cases h
theorem ye {g:Ge G} {ln:Nat->Nat} {H:List Obj}:∀ {xs:List (TV G)},zh xs=true->snaps H (TV.aR g ln xs)=none
 | [],h=>by cases h
 | x::xs,h=>by
  rw [zh,Bool.or_eq_true] at h;show eR (pk 6 H) (_::_)=none;rw [eR];rcases h with h | h
  ·rw [Og h]
  ·have:=ye (g:=g) (ln:=ln) (H:=H) h;unfold snaps at this;rw [this]
   cases pk 6 H (x.av g ln)<;>rfl
theorem Ld {g:Ge G} (hg:g.Ok) {ln:Nat->Nat} {H:List Obj} {xs:List (TV G)} {l:List AV} (hf:TV.lD xs=true) (h:snaps H (TV.aR g ln xs)=some l):l=TV.aR g ln xs:=by
 have:=rW (d:=6) (H:=H) (er hg ln xs hf);unfold snaps at h;rw [this] at h;injection h with h;exact h.symm
def oq (g:Ge G) (s:DS G):List (Sum Nat (Nat×Nat×Bool))->Option (List (TV G))
 | []=>some []
 | .inl t::r=>(match oq g s r with | some l=>some (s.get t::l) | none=>none)
 | .inr p::r=>(match Au g s.H p.2.1 p.2.2 (s.get p.1) some with
  | some v=>(match oq g s r with | some l=>some (v::l) | none=>none)
  | none=>none)
theorem kY {g:Ge G} (hg:g.Ok) {s:DS G}:∀ {rs:List (Sum Nat (Nat×Nat×Bool))} {l:List (TV G)},oq g s rs=some l->bQ rs (s.st g)=some (TV.aR g s.ln l)
 | [],l,h=>by injection h with h;subst h;rfl
 | .inl t::r,l,h=>by
  rw [oq] at h;split at h
  case h_2=>cases h
  rename_i l' h1;injection h with h;subst h
  rw [bQ,kY hg h1];show some (T.get _ t::_)=_;rw [show (s.st g).tmps.get t=(s.get t).av g s.ln from DS.gG g s t];rfl
 | .inr (t,n,ag)::r,l,h=>by
  rw [oq] at h;split at h
  case h_2=>cases h
  rename_i v hv;split at h
  case h_2=>cases h
  rename_i l' h1;injection h with h;subst h
  obtain ⟨w,k1,k2⟩:=uH hg hv;injection k2 with k2;subst k2
  rw [bQ,kY hg h1];rw [show (s.st g).tmps.get t=(s.get t).av g s.ln from DS.gG g s t];rw [show loadAt (s.st g).H n ag _=_ from k1];rfl
def eX:List (TV G)->Nat->List (Nat×TV G)
 | [],_=>[]
 | x::xs,i=>(i,x)::eX xs (i+1)
theorem kr (g:Ge G) (ln:Nat->Nat):∀ (l:List (TV G)) (i:Nat),dx g ln (eX l i)=T.jC (TV.aR g ln l) i
 | [],_=>rfl
 | x::l,i=>by
  show (i,_)::dx g ln (eX l (i+1))=(i,_)::T.jC (TV.aR g ln l) (i+1);rw [kr g ln l]
def FD (n:Nat):List (TO G)->Bool
 | []=>true
 | .lp _ fi::r=>Nat.blt fi n&&FD n r
 | _::r=>FD n r
theorem mB {g:Ge G} {ln:Nat->Nat} {F F':List (T×C3)} {n:Nat} (hF:∀ i,i < n->F'[i]?=F[i]?):∀ {H:List (TO G)},FD n H=true->H.map (TO.av g ln F')=H.map (TO.av g ln F)
 | [],_=>rfl
 | .lp s fi::r,h=>by
  rw [FD,Bool.and_eq_true] at h;have h1:fi < n:=by simpa [Nat.blt_eq] using h.1
  rw [List.map_cons,List.map_cons,mB hF h.2];simp only [TO.av,hF fi h1]
 | .box l::r,h | .bg ..::r,h | .cN ..::r,h | .mix ..::r,h | .arr ..::r,h | .dead::r,h | .gB::r,h | .fQ ..::r,h | .wC ..::r,h=>by
  have h:FD n r=true:=h;rw [List.map_cons,List.map_cons,mB hF h];rfl
def DS.enter (s:DS G) (sz:Nat) (sl:List (Nat×TV G)) (c:C3):DS G:=⟨sz,sl,s.H,s.fr++[(s.sz,s.sl,c)]⟩
def DS.leave (s:DS G) (n:Nat):Option (DS G):=match s.fr[n]? with
 | some f=>if FD n s.H then some ⟨f.1,f.2.1,s.H,s.fr.take n⟩ else none
 | none=>none
theorem De (g:Ge G) (s:DS G):(s.FR g).length=s.fr.length:=by unfold DS.FR;rw [List.length_map]
theorem BO {g:Ge G} (s:DS G) (sz:Nat) (sl:List (Nat×TV G)) (c:C3) (h:FD s.fr.length s.H=true):(s.enter sz sl c).tm g=⟨sz,dx g s.ln sl⟩/\(s.enter sz sl c).FR g=s.FR g++[(s.tm g,c)]/\(s.enter sz sl c).Hv g=s.Hv g:=by
 have e:(s.enter sz sl c).FR g=s.FR g++[(s.tm g,c)]:=by
  unfold DS.FR DS.enter;rw [List.map_append];rfl
 refine ⟨rfl,e,?_⟩;unfold DS.Hv;rw [e];refine mB (n:=s.fr.length) (fun i hi=>?_) h;rw [List.getElem?_append_left (by rw [De];exact hi)]
theorem uW {g:Ge G} {s s' s2:DS G} {c:C3} (h:s'.leave s.fr.length=some s2) (hF:s'.FR g=s.FR g++[(s.tm g,c)]):s2.tm g=s.tm g/\s2.FR g=s.FR g/\s2.ln=s'.ln/\s2.Hv g=s'.Hv g:=by
 have hl:=De g s;unfold DS.leave at h;split at h
 case h_2=>cases h
 rename_i f hf;split at h
 case isFalse=>cases h
 rename_i hb;injection h with h;subst h
 have h1:(s'.FR g)[s.fr.length]?=(s.FR g++[(s.tm g,c)])[s.fr.length]?:=by rw [hF]
 unfold DS.FR at h1;rw [List.getElem?_map,hf] at h1;rw [List.getElem?_append_right (by rw [List.length_map];exact Nat.le_refl _),List.length_map,Nat.sub_self] at h1;injection h1 with h1
 injection h1 with h1 _
 have h2:(⟨f.1,f.2.1,s'.H,s'.fr.take s.fr.length⟩:DS G).FR g=s.FR g:=by
  have h3:=congrArg (List.take s.fr.length) hF;rw [List.take_left' hl] at h3;rw [<-h3];unfold DS.FR;rw [<-List.map_take];rfl
 refine ⟨h1,h2,rfl,?_⟩;show s'.H.map (TO.av g s'.ln (DS.FR g _))=s'.H.map (TO.av g s'.ln (s'.FR g));rw [h2,hF];refine mB (n:=s.fr.length) (fun i hi=>?_) hb;rw [List.getElem?_append_left (by rw [hl];exact hi)]
def FY:List (Nat×TV G)->Nat->TV G->List (Nat×TV G)
 | [],_,_=>[]
 | (k,u)::r,n,v=>if k=n then (k,v)::r else (k,u)::FY r n v
theorem Fx {g:Ge G} {ln:Nat->Nat}:∀ {l:List (Nat×TV G)} {n:Nat} {v:TV G},(C4 l n).av g ln=v.av g ln->dx g ln (FY l n v)=dx g ln l
 | [],_,_,_=>rfl
 | (k,u)::r,n,v,h=>by
  rw [C4] at h;rw [FY];split
  ·rename_i hk;rw [if_pos hk] at h;show (k,_)::_=(k,_)::_;rw [h]
  ·rename_i hk;rw [if_neg hk] at h;show (k,_)::dx g ln (FY r n v)=(k,_)::dx g ln r;rw [Fx h]
def DS.rep (s:DS G) (n:Nat) (v:TV G):DS G:=⟨s.sz,FY s.sl n v,s.H,s.fr⟩
theorem I1 {g:Ge G} {s:DS G} {n:Nat} {v:TV G} (h:(s.get n).av g s.ln=v.av g s.ln):(s.rep n v).tm g=s.tm g/\(s.rep n v).Hv g=s.Hv g/\(s.rep n v).FR g=s.FR g:=by
 refine ⟨?_,rfl,rfl⟩;show (⟨s.sz,_⟩:T)=⟨s.sz,_⟩;rw [show dx g (s.rep n v).ln (s.rep n v).sl=dx g s.ln (FY s.sl n v) from rfl,Fx h]
def rm (x y:Ls) (s:DS G) (l:Nat):Option (DS G):=match s.H[l]? with
 | some (.lp s' fi)=>if s'=x/\fi < s.fr.length then some (s.hN l (.lp y fi)) else none
 | _=>none
theorem yg {g:Ge G} {s s':DS G} {x y:Ls} {l:Nat} (h:rm x y s l=some s'):iZ x y (s.Hv g) l=some (s'.Hv g)/\s'.tm g=s.tm g/\s'.FR g=s.FR g:=by
 unfold rm at h;split at h
 case h_2=>cases h
 rename_i s0 fi hl;split at h
 case isFalse=>cases h
 rename_i e;obtain ⟨rfl,e⟩:=e;injection h with h;subst h
 have hf:(s.FR g)[fi]?=some ((s.FR g)[fi]'(by unfold DS.FR;simpa using e)):=List.getElem?_eq_getElem _;obtain ⟨k1,k2,k3,k4⟩:=eU (g:=g) (o':= .lp y fi) hl rfl;refine ⟨?_,k2,k3⟩;unfold iZ;rw [bp hl];simp only [TO.av,hf,if_true];rw [k4];simp only [TO.av,hf]
end
end nT
end
section
namespace nT
open Go hiding Obj mark
open Go.Pl Go.Am Go.Am.As
set_option linter.unusedVariables false
set_option linter.unusedSimpArgs false
def iV {α:Type} (f:α->α->Bool):List α->List α->Bool
 | [],l=>(match l with | []=>true | _::_=>false)
 | x::xs,l=>(match l with | y::ys=>f x y&&iV f xs ys | []=>false)
theorem gp {α:Type} {f:α->α->Bool} (hf:∀ x y,f x y=true->x=y):∀ {l m:List α},iV f l m=true->l=m
 | [],[],_=>rfl
 | [],_::_,h=>by cases h
 | _::_,[],h=>by cases h
 | x::xs,y::ys,h=>by
  have h:(f x y&&iV f xs ys)=true:=h;rw [Bool.and_eq_true] at h;rw [hf _ _ h.1,gp hf h.2]
theorem iW:∀ x y:Nat,Nat.beq x y=true->x=y:=fun x y h=>Nat.eq_of_beq_eq_true h
def RX.same:RX->RX->Bool
 | .t i,y=>(match y with | .t j=>Nat.beq i j | _=>false)
 | .c v,y=>(match y with | .c w=>AV.same v w | _=>false)
 | _,_=>false
theorem RX.bq:∀ x y:RX,RX.same x y=true->x=y:=by
 intro x y h
 cases x with
 | t i=>cases y with
  | t j=>rw [iW i j h]
  | _=>cases h
 | c v=>cases y with
  | c w=>rw [AV.bq h]
  | _=>cases h
 | _=>cases h
def RO.same:RO->RO->Bool
 | .DZ a,y=>(match y with | .DZ b=>RX.same a b | _=>false)
 | .pick a b c,y=>(match y with | .pick a' b' c'=>RX.same a a'&&(RX.same b b'&&RX.same c c') | _=>false)
 | .alloc z,y=>(match y with | .alloc z'=>AV.gW z z' | _=>false)
 | .load n g a,y=>(match y with | .load n' g' a'=>Nat.beq n n'&&((g==g')&&RX.same a a') | _=>false)
 | .store n a b,y=>(match y with | .store n' a' b'=>Nat.beq n n'&&(RX.same a a'&&RX.same b b') | _=>false)
 | .bin o a b,y=>(match y with | .bin o' a' b'=>decide (o=o')&&(RX.same a a'&&RX.same b b') | _=>false)
 | .un o a,y=>(match y with | .un o' a'=>decide (o=o')&&RX.same a a' | _=>false)
 | .sX n a,y=>(match y with | .sX n' a'=>Nat.beq n n'&&RX.same a a' | _=>false)
 | .mx l,y=>(match y with | .mx m=>iV RX.same l m | _=>false)
 | .call f l,y=>(match y with | .call f' m=>Nat.beq f f'&&iV RX.same l m | _=>false)
 | .ext a n,y=>(match y with | .ext a' n'=>Nat.beq n n'&&RX.same a a' | _=>false)
 | _,_=>false
theorem RO.bq:∀ x y:RO,RO.same x y=true->x=y:=by
 intro x y h
 cases x with
 | DZ a=>cases y with
  | DZ b=>rw [RX.bq _ _ h]
  | _=>cases h
 | pick a b c=>cases y with
  | pick a' b' c'=>
   have h:(RX.same a a'&&(RX.same b b'&&RX.same c c'))=true:=h;simp only [Bool.and_eq_true] at h;rw [RX.bq _ _ h.1,RX.bq _ _ h.2.1,RX.bq _ _ h.2.2]
  | _=>cases h
 | alloc z=>cases y with
  | alloc z'=>rw [AV.gq h]
  | _=>cases h
 | load n g a=>cases y with
  | load n' g' a'=>
   have h:(Nat.beq n n'&&((g==g')&&RX.same a a'))=true:=h;simp only [Bool.and_eq_true] at h;rw [iW _ _ h.1,eq_of_beq h.2.1,RX.bq _ _ h.2.2]
  | _=>cases h
 | store n a b=>cases y with
  | store n' a' b'=>
   have h:(Nat.beq n n'&&(RX.same a a'&&RX.same b b'))=true:=h;simp only [Bool.and_eq_true] at h;rw [iW _ _ h.1,RX.bq _ _ h.2.1,RX.bq _ _ h.2.2]
  | _=>cases h
 | bin o a b=>cases y with
  | bin o' a' b'=>
   have h:(decide (o=o')&&(RX.same a a'&&RX.same b b'))=true:=h;simp only [Bool.and_eq_true,decide_eq_true_eq] at h;rw [h.1,RX.bq _ _ h.2.1,RX.bq _ _ h.2.2]
  | _=>cases h
 | un o a=>cases y with
  | un o' a'=>
   have h:(decide (o=o')&&RX.same a a')=true:=h;simp only [Bool.and_eq_true,decide_eq_true_eq] at h;rw [h.1,RX.bq _ _ h.2]
  | _=>cases h
 | sX n a=>cases y with
  | sX n' a'=>
   have h:(Nat.beq n n'&&RX.same a a')=true:=h;simp only [Bool.and_eq_true] at h;rw [iW _ _ h.1,RX.bq _ _ h.2]
  | _=>cases h
 | mx l=>cases y with
  | mx m=>rw [gp RX.bq h]
  | _=>cases h
 | call f l=>cases y with
  | call f' m=>
   have h:(Nat.beq f f'&&iV RX.same l m)=true:=h;simp only [Bool.and_eq_true] at h;rw [iW _ _ h.1,gp RX.bq h.2]
  | _=>cases h
 | ext a n=>cases y with
  | ext a' n'=>
   have h:(Nat.beq n n'&&RX.same a a')=true:=h;simp only [Bool.and_eq_true] at h;rw [iW _ _ h.1,RX.bq _ _ h.2]
  | _=>cases h
 | _=>cases h
def bD.same (a b:bD):Bool:=decide (a.dst=b.dst)&&(decide (a.guard=b.guard)&&RO.same a.op b.op)
theorem bD.bq:∀ a b:bD,bD.same a b=true->a=b:=by
 rintro ⟨d,g,o⟩ ⟨d',g',o'⟩ h;have h:(decide (d=d')&&(decide (g=g')&&RO.same o o'))=true:=h;simp only [Bool.and_eq_true,decide_eq_true_eq] at h;rw [h.1,h.2.1,RO.bq _ _ h.2.2]
def GA.same:GA->GA->Bool
 | .kill l,y=>(match y with | .kill m=>iV Nat.beq l m | _=>false)
 | .aj n,y=>(match y with | .aj m=>Nat.beq n m | _=>false)
 | .jx n,y=>(match y with | .jx m=>Nat.beq n m | _=>false)
 | .aB n,y=>(match y with | .aB m=>Nat.beq n m | _=>false)
 | .wk l,y=>(match y with | .wk m=>iV Nat.beq l m | _=>false)
 | _,_=>false
theorem GA.bq:∀ x y:GA,GA.same x y=true->x=y:=by
 intro x y h
 cases x with
 | kill l=>cases y with
  | kill m=>rw [gp iW h]
  | _=>cases h
 | aj n=>cases y with
  | aj m=>rw [iW n m h]
  | _=>cases h
 | jx n=>cases y with
  | jx m=>rw [iW n m h]
  | _=>cases h
 | aB n=>cases y with
  | aB m=>rw [iW n m h]
  | _=>cases h
 | wk l=>cases y with
  | wk m=>rw [gp iW h]
  | _=>cases h
 | _=>cases h
def RC.same:RC->RC->Bool
 | .skip,y=>(match y with | .skip=>true | _=>false)
 | .ret,y=>(match y with | .ret=>true | _=>false)
 | .exit i,y=>(match y with | .exit j=>Nat.beq i j | _=>false)
 | .sZ l,y=>(match y with | .sZ m=>iV bD.same l m | _=>false)
 | .seq a b,y=>(match y with | .seq a' b'=>RC.same a a'&&RC.same b b' | _=>false)
 | .cond x a b,y=>(match y with | .cond x' a' b'=>RX.same x x'&&(RC.same a a'&&RC.same b b') | _=>false)
 | .block i a,y=>(match y with | .block j a'=>Nat.beq i j&&RC.same a a' | _=>false)
 | .gh p a q,y=>(match y with | .gh p' a' q'=>iV GA.same p p'&&(RC.same a a'&&iV GA.same q q') | _=>false)
 | _,_=>false
theorem RC.bq:∀ x y:RC,RC.same x y=true->x=y:=by
 intro x;induction x with
 | skip=>intro y h;cases y with
  | skip=>rfl
  | _=>cases h
 | ret=>intro y h;cases y with
  | ret=>rfl
  | _=>cases h
 | exit i=>intro y h;cases y with
  | exit j=>rw [iW i j h]
  | _=>cases h
 | sZ l=>intro y h;cases y with
  | sZ m=>rw [gp bD.bq h]
  | _=>cases h
 | seq a b PB XC=>intro y h;cases y with
  | seq a' b'=>
   have h:(RC.same a a'&&RC.same b b')=true:=h;simp only [Bool.and_eq_true] at h;rw [PB _ h.1,XC _ h.2]
  | _=>cases h
 | cond x a b PB XC=>intro y h;cases y with
  | cond x' a' b'=>
   have h:(RX.same x x'&&(RC.same a a'&&RC.same b b'))=true:=h;simp only [Bool.and_eq_true] at h;rw [RX.bq _ _ h.1,PB _ h.2.1,XC _ h.2.2]
  | _=>cases h
 | block i a PB=>intro y h;cases y with
  | block j a'=>
   have h:(Nat.beq i j&&RC.same a a')=true:=h;simp only [Bool.and_eq_true] at h;rw [iW _ _ h.1,PB _ h.2]
  | _=>cases h
 | gh p a q PB=>intro y h;cases y with
  | gh p' a' q'=>
   have h:(iV GA.same p p'&&(RC.same a a'&&iV GA.same q q'))=true:=h;simp only [Bool.and_eq_true] at h;rw [gp GA.bq h.1,PB _ h.2.1,gp GA.bq h.2.2]
  | _=>cases h
 | _=>intro y h;cases h
def C3.same (a b:C3):Bool:=iV Nat.beq a.1 b.1&&(RC.same a.2.1 b.2.1&&RC.same a.2.2 b.2.2)
theorem C3.bq {a b:C3} (h:C3.same a b=true):a=b:=by
 obtain ⟨p,c,d⟩:=a;obtain ⟨p',c',d'⟩:=b;have h:(iV Nat.beq p p'&&(RC.same c c'&&RC.same d d'))=true:=h;simp only [Bool.and_eq_true] at h;rw [gp iW h.1,RC.bq _ _ h.2.1,RC.bq _ _ h.2.2]
section
variable {G:Nat->Type} {R:Type}
def wH:RC->List C3
 | .yB _ ps a b=>(ps,a,b)::(wH a++wH b)
 | .seq a b=>wH a++wH b
 | .cond _ a b=>wH a++wH b
 | .block _ a=>wH a
 | .loop a=>wH a
 | .gh _ a _=>wH a
 | _=>[]
structure yC where
 sl:List Sh
 H:List Oh
 fr:List (Nat×List (Nat×Sh)×C3)
structure dj where
 rs:List Sh
 H:List Oh
 ts:List Ty
structure eE (G:Nat->Type) where
 f:Nat
 i:yC
 ts:List Ty
 o1:dj
 o2:dj
 m:DL G ts->Option (DL G o1.ts⊕DL G o2.ts)
def oi:List Sh->Nat->List (Nat×(Sh⊕TV G))
 | [],_=>[]
 | s::ss,i=>(i,.inl s)::oi ss (i+1)
def Ai:List (Nat×Sh)->List (Nat×(Sh⊕TV G))
 | []=>[]
 | p::ps=>(p.1,.inl p.2)::Ai ps
theorem zm:∀ {ss:List Sh} {i x:Nat} {u:TV G},(x,Sum.inr u)∈oi ss i->False
 | s::ss,i,x,u,h=>by
  rcases List.mem_cons.1 h with e | h
  ·injection e with _ e;cases e
  ·exact zm h
theorem ED:∀ {ss:List (Nat×Sh)} {x:Nat} {u:TV G},(x,Sum.inr u)∈Ai ss->False
 | s::ss,x,u,h=>by
  rcases List.mem_cons.1 h with e | h
  ·injection e with _ e;cases e
  ·exact ED h
def yZ (g:Ge G):List (Nat×List (Nat×Sh)×C3)->List (Nat×List (Nat×TV G)×C3)->Option (List (TV G))
 | [],_=>some []
 | p::ps,fs=>(match fs with
  | q::qs=>if Nat.beq p.1 q.1&&C3.same p.2.2 q.2.2 then (match nW g (Ai p.2.1) q.2.1 with
   | some a=>(match yZ g ps qs with | some b=>some (a++b) | none=>none)
   | none=>none) else none
  | []=>none)
def xd (g:Ge G):List (Nat×List (Nat×Sh)×C3)->List (TV G)->List (Nat×List (Nat×TV G)×C3)
 | [],_=>[]
 | p::ps,l=>(p.1,(jy g (Ai p.2.1) l).1,p.2.2)::xd g ps (jy g (Ai p.2.1) l).2
def Lm (g:Ge G) (ln:Nat->Nat) (f:Nat×List (Nat×TV G)×C3):T×C3:=(⟨f.1,dx g ln f.2.1⟩,f.2.2)
theorem xC {g:Ge G} {ln:Nat->Nat}:∀ {ps:List (Nat×List (Nat×Sh)×C3)} {fs:List (Nat×List (Nat×TV G)×C3)} {l:List (TV G)},yZ g ps fs=some l->
 ∀ {l':List (TV G)},TV.aR g ln l'=TV.aR g ln l->(xd g ps l').map (Lm g ln)=(fs.take ps.length).map (Lm g ln)
 | [],fs,l,h,l',e=>by simp [xd]
 | p::ps,[],l,h,l',e=>by cases h
 | p::ps,q::qs,l,h,l',e=>by
  have h':(if Nat.beq p.1 q.1&&C3.same p.2.2 q.2.2 then (match nW g (Ai p.2.1) q.2.1 with
   | some a=>(match yZ g ps qs with | some b=>some (a++b) | none=>none)
   | none=>none) else none)=some l:=h
  split at h'
  case isFalse=>cases h'
  rename_i hc;rw [Bool.and_eq_true] at hc;split at h'
  case h_2=>cases h'
  rename_i a ha;split at h'
  case h_2=>cases h'
  rename_i b hb;injection h' with h';subst h'
  obtain ⟨u,v,e0,e1,e2⟩:=dL e;subst e0;obtain ⟨D3,k1,k2⟩:=ko (S2:=ln) (ln:=ln) ha (fun x w v h=>(ED h).elim) u v e1;have ih:=xC hb e2;show Lm g ln (p.1,(jy g (Ai p.2.1) (u++v)).1,p.2.2)::(xd g ps (jy g (Ai p.2.1) (u++v)).2).map (Lm g ln)=_;rw [k1];show _=Lm g ln q::(qs.take ps.length).map (Lm g ln);rw [ih];unfold Lm;dsimp only;rw [k2,iW _ _ hc.1,C3.bq hc.2]
theorem xD {g:Ge G} (hg:g.Ok) {ln:Nat->Nat} {F:List (T×C3)}:∀ {hs:List Oh} {os:List (TO G)} {l:List (TV G)},sk g hs os=some l->∀ {l' r:List (TV G)},TV.aR g ln l'=TV.aR g ln l->pD hs (j8 g hs (l'++r)).1=true->
 (j8 g hs (l'++r)).2=r
 | [],[],l,h,l',r,e,hk=>by
  injection h with h;subst h
  rw [gi e];rfl
 | [],_::_,l,h,l',r,e,hk=>by cases h
 | _::_,[],l,h,l',r,e,hk=>by cases h
 | h::hs,o::os,l,hc,l',r,e,hk=>by
  have Cz:(match pE g h o with
   | some a=>(match sk g hs os with | some b=>some (a++b) | none=>none)
   | none=>none)=some l:=hc
  split at Cz
  case h_2=>cases Cz
  rename_i a ha;split at Cz
  case h_2=>cases Cz
  rename_i b hb;injection Cz with Cz;subst Cz
  obtain ⟨p,q,e0,e1,e2⟩:=dL e;subst e0;have hk':(lG h (lR g h (p++q++r)).1&&pD hs (j8 g hs (lR g h (p++q++r)).2).1)=true:=hk;rw [Bool.and_eq_true,List.append_assoc] at hk';obtain ⟨k1,k2,k3⟩:=AX hg (F:=F) ha e1 hk'.1;have hk2:=hk'.2;rw [k1] at hk2;show (j8 g hs (lR g h (p++q++r)).2).2=r;rw [List.append_assoc,k1];exact xD hg (F:=F) hb e2 hk2
def yC.st (g:Ge G) (i:yC) (nt:Nat) (l:List (TV G)):DS G:=
 ⟨nt,(jy g (oi i.sl 0) l).1,(j8 g i.H (jy g (oi i.sl 0) l).2).1,xd g i.fr (j8 g i.H (jy g (oi i.sl 0) l).2).2⟩
def vals (l:List (Nat×TV G)):List (TV G):=l.map (·.2)
def dj.res (g:Ge G) (o:dj) (l:List (TV G)):List (TV G):=vals (jy g (oi o.rs 0) l).1
def dj.mem (g:Ge G) (o:dj) (l:List (TV G)):List (TO G):=(j8 g o.H (jy g (oi o.rs 0) l).2).1
def dj.Is (E:Env) (hp:Nat->Bool) (g:Ge G) (f:Nat) (s0:DS G) (o:dj) (l:List (TV G)):Prop:=
 ∃ n,jE E.fns (aq E hp n) (some f) (TV.aR g s0.ln (vals s0.sl)) (s0.Hv g)=some (oneOf (TV.aR g (jD (o.mem g l)) (o.res g l)),(⟨0,[],o.mem g l,s0.fr⟩:DS G).Hv g)/\
  (⟨0,[],o.mem g l,s0.fr⟩:DS G).FR g=s0.FR g
def dj.XD (E:Env) (hp:Nat->Bool) (g:Ge G) (f:Nat) (s0:DS G) (o1 o2:dj) (u:DL G o1.ts⊕DL G o2.ts):Prop:=
 Sum.elim (fun w=>dj.Is E hp g f s0 o1 (aL g o1.ts w)) (fun w=>dj.Is E hp g f s0 o2 (aL g o2.ts w)) u
def eE.Ok (E:Env) (hp:Nat->Bool) (g:Ge G) (c:eE G):Prop:=∀ x u,c.m x=some u->dj.XD E hp g c.f (c.i.st g 0 (aL g c.ts x)) c.o1 c.o2 u
def yC.coll (g:Ge G) (i:yC) (xs:List (TV G)) (s:DS G):Option (List (TV G)):=match nW g (oi i.sl 0) (eX xs 0) with
 | some a=>(match sk g i.H s.H with
  | some b=>(match yZ g i.fr s.fr with
   | some c=>some (a++(b++c))
   | none=>none)
  | none=>none)
 | none=>none
def pM:List (Nat×TV G)->Bool
 | []=>true
 | p::r=>indep p.2&&pM r
def pN:List (Nat×List (Nat×TV G)×C3)->Bool
 | []=>true
 | p::r=>pM p.2.1&&pN r
theorem oL {g:Ge G} {ln cj:Nat->Nat}:∀ {l:List (Nat×TV G)},pM l=true->dx g ln l=dx g cj l
 | [],_=>rfl
 | p::r,h=>by
  rw [pM,Bool.and_eq_true] at h;show (p.1,_)::dx g ln r=(p.1,_)::dx g cj r;rw [uL p.2 h.1,oL h.2]
theorem oM {g:Ge G} {ln cj:Nat->Nat}:∀ {l:List (Nat×List (Nat×TV G)×C3)},pN l=true->l.map (Lm g ln)=l.map (Lm g cj)
 | [],_=>rfl
 | p::r,h=>by
  rw [pN,Bool.and_eq_true] at h;rw [List.map_cons,List.map_cons,oM h.2];unfold Lm;rw [oL h.1]
def pF (g:Ge G) (f:Nat) (xs:List (TV G)) (s:DS G):List (eE G)->Option ((c:eE G)×DL G c.ts)
 | []=>none
 | c::r=>if Nat.beq c.f f then (match c.i.coll g xs s with
  | some l=>(match lX g c.ts l with
   | some x=>if pD c.i.H (c.i.st g 0 (aL g c.ts x)).H&&(FD c.i.fr.length (c.i.st g 0 (aL g c.ts x)).H&&FD c.i.fr.length s.H) then some ⟨c,x⟩ else pF g f xs s r
   | none=>pF g f xs s r)
  | none=>pF g f xs s r) else pF g f xs s r
theorem oN:∀ (xs:List (TV G)) (i:Nat),vals (eX xs i)=xs
 | [],_=>rfl
 | x::xs,i=>by
  show x::vals (eX xs (i+1))=_;rw [oN xs]
theorem uM {g:Ge G} {ln:Nat->Nat}:∀ {a b:List (Nat×TV G)},dx g ln a=dx g ln b->TV.aR g ln (vals a)=TV.aR g ln (vals b)
 | [],[],_=>rfl
 | [],_::_,h=>by cases h
 | _::_,[],h=>by cases h
 | p::a,q::b,h=>by
  have h:(p.1,p.2.av g ln)::dx g ln a=(q.1,q.2.av g ln)::dx g ln b:=h;injection h with h1 h2
  injection h1 with _ h1
  show p.2.av g ln::TV.aR g ln (vals a)=q.2.av g ln::TV.aR g ln (vals b);rw [h1,uM h2]
theorem AY {g:Ge G} (hg:g.Ok) {f:Nat} {xs:List (TV G)} {s:DS G}:∀ {C:List (eE G)} {p:(c:eE G)×DL G c.ts},pF g f xs s C=some p->
 p.1∈C/\p.1.f=f/\(p.1.i.st g 0 (aL g p.1.ts p.2)).ln=s.ln/\TV.aR g s.ln (vals (p.1.i.st g 0 (aL g p.1.ts p.2)).sl)=TV.aR g s.ln xs/\
 (p.1.i.st g 0 (aL g p.1.ts p.2)).Hv g=s.Hv g/\(p.1.i.st g 0 (aL g p.1.ts p.2)).FR g=(s.FR g).take p.1.i.fr.length/\(p.1.i.st g 0 (aL g p.1.ts p.2)).H.map TO.len=s.H.map TO.len
 | [],p,h=>by cases h
 | c::r,p,h=>by
  have tl:pF g f xs s r=some p->p.1∈c::r/\p.1.f=f/\(p.1.i.st g 0 (aL g p.1.ts p.2)).ln=s.ln/\TV.aR g s.ln (vals (p.1.i.st g 0 (aL g p.1.ts p.2)).sl)=TV.aR g s.ln xs/\
   (p.1.i.st g 0 (aL g p.1.ts p.2)).Hv g=s.Hv g/\(p.1.i.st g 0 (aL g p.1.ts p.2)).FR g=(s.FR g).take p.1.i.fr.length/\(p.1.i.st g 0 (aL g p.1.ts p.2)).H.map TO.len=s.H.map TO.len:=fun h=>by
   obtain ⟨h1,h2⟩:=AY hg h;exact ⟨List.mem_cons_of_mem _ h1,h2⟩
  rw [pF] at h;split at h
  case isFalse=>exact tl h
  rename_i hf;split at h
  case h_2=>exact tl h
  rename_i l hl;split at h
  case h_2=>exact tl h
  rename_i x hx;split at h
  case isFalse=>exact tl h
  rename_i hk;rw [Bool.and_eq_true,Bool.and_eq_true] at hk;obtain ⟨hk,PC,Cs⟩:=hk;injection h with h;subst h
  dsimp only;unfold yC.coll at hl;split at hl
  case h_2=>cases hl
  rename_i a ha;split at hl
  case h_2=>cases hl
  rename_i b hb;split at hl
  case h_2=>cases hl
  rename_i d hd;injection hl with hl;subst hl
  have e:TV.aR g s.ln (aL g c.ts x)=TV.aR g s.ln (a++(b++d)):=by rw [gH hg,jM hg s.ln _ _ _ hx]
  obtain ⟨u,v,e0,e1,e2⟩:=dL e;obtain ⟨v1,v2,e3,e4,e5⟩:=dL e2;subst e3;obtain ⟨D3,k1,k2⟩:=ko (S2:=s.ln) (ln:=s.ln) ha (fun x w v h=>(zm h).elim) u (v1++v2) e1;have hH:(c.i.st g 0 (aL g c.ts x)).H=(j8 g c.i.H (v1++v2)).1:=by unfold yC.st;dsimp only;rw [e0,k1]
  rw [hH] at hk PC;have GR:=xD (F:=s.FR g) hg hb e4 hk;obtain ⟨m1,m2⟩:=mI hg (F:=s.FR g) hb e4 hk;have yD:(c.i.st g 0 (aL g c.ts x)).ln=s.ln:=by unfold DS.ln;rw [hH];exact C8 m2
  have hfr:(c.i.st g 0 (aL g c.ts x)).fr=xd g c.i.fr v2:=by unfold yC.st;dsimp only;rw [e0,k1];dsimp only;rw [GR]
  have wB:(c.i.st g 0 (aL g c.ts x)).FR g=(s.FR g).take c.i.fr.length:=by
   have h1:=xC (ln:=s.ln) hd e5;unfold DS.FR;rw [hfr,yD,<-List.map_take];exact h1
  refine ⟨List.mem_cons_self ..,Nat.eq_of_beq_eq_true hf,yD,?_,?_,wB,by rw [hH,m2]⟩
  ·have:(c.i.st g 0 (aL g c.ts x)).sl=D3:=by unfold yC.st;dsimp only;rw [e0,k1]
   rw [this,<-oN xs 0];exact uM k2
  ·unfold DS.Hv;rw [yD,hH,wB];have h2:=mB (g:=g) (ln:=s.ln) (F:=s.FR g) (F':=(s.FR g).take c.i.fr.length) (n:=c.i.fr.length) (fun i hi=>by rw [List.getElem?_take,if_pos hi]) Cs;have h3:=mB (g:=g) (ln:=s.ln) (F:=s.FR g) (F':=(s.FR g).take c.i.fr.length) (n:=c.i.fr.length) (H:=(j8 g c.i.H (v1++v2)).1) (fun i hi=>by rw [List.getElem?_take,if_pos hi]) PC;rw [h3,m1]
theorem xE {g:Ge G}:∀ (ss:List Sh) (i:Nat) (l:List (TV G)),(jy g (oi ss i) l).1=eX (vals (jy g (oi ss i) l).1) i
 | [],i,l=>rfl
 | s::ss,i,l=>by
  show (i,(Sh.eo g s l).1)::(jy g (oi ss (i+1)) (Sh.eo g s l).2).1=(i,(Sh.eo g s l).1)::eX (vals (jy g (oi ss (i+1)) (Sh.eo g s l).2).1) (i+1);rw [<-xE ss (i+1)]
theorem AZ {g:Ge G}:∀ (ss:List Sh) (i:Nat) (l:List (TV G)),(vals (jy g (oi ss i) l).1).length=ss.length
 | [],i,l=>rfl
 | s::ss,i,l=>by
  show (vals (jy g (oi ss (i+1)) (Sh.eo g s l).2).1).length+1=ss.length+1;rw [AZ ss (i+1)]
def dj.coll (g:Ge G) (o:dj) (rs:List (TV G)) (s:DS G):Option (DL G o.ts):=match nW g (oi o.rs 0) (eX rs 0) with
 | some a=>(match sk g o.H s.H with
  | some b=>(match lX g o.ts (a++b) with
   | some w=>if pD o.H (o.mem g (aL g o.ts w)) then some w else none
   | none=>none)
  | none=>none)
 | none=>none
theorem dj.pO {g:Ge G} (hg:g.Ok) {o:dj} {rs:List (TV G)} {s:DS G} {w:DL G o.ts} (h:o.coll g rs s=some w):
 jD (o.mem g (aL g o.ts w))=s.ln/\TV.aR g s.ln (o.res g (aL g o.ts w))=TV.aR g s.ln rs/\∀ F,(o.mem g (aL g o.ts w)).map (TO.av g s.ln F)=s.H.map (TO.av g s.ln F):=by
 unfold dj.coll at h;split at h
 case h_2=>cases h
 rename_i a ha;split at h
 case h_2=>cases h
 rename_i b hb;split at h
 case h_2=>cases h
 rename_i w' hw;split at h
 case isFalse=>cases h
 rename_i hk;injection h with h;subst h
 have e:TV.aR g s.ln (aL g o.ts w')=TV.aR g s.ln (a++b):=by rw [gH hg,jM hg s.ln _ _ _ hw]
 obtain ⟨u,v,e0,e1,e2⟩:=dL e;obtain ⟨D3,k1,k2⟩:=ko (S2:=s.ln) (ln:=s.ln) ha (fun x w v h=>(zm h).elim) u v e1;have hm:o.mem g (aL g o.ts w')=(j8 g o.H (v++[])).1:=by unfold dj.mem;rw [e0,k1,List.append_nil]
 rw [hm] at hk ⊢;refine ⟨C8 (mI hg (F:=[]) hb e2 hk).2,?_,fun F=>(mI hg (F:=F) hb e2 hk).1⟩;unfold dj.res;rw [e0,k1];have:=uM k2
 rwa [oN] at this
end
end nT
end
