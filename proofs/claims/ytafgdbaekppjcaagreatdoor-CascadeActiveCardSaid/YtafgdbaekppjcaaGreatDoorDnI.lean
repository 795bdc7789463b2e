/- Parts of my machine and its laws, joined: DnI DnY. No condition. -/
import Derived.Test.YtafgdbaekppjcaaGreatDoorDnH
set_option linter.unusedSectionVars false
set_option linter.unusedVariables false
set_option linter.unusedSimpArgs false
section
namespace oZ
open Go hiding Obj mark
open Go.Pl Go.Am Go.Am.As
inductive An where
 | n
 | j (e:Bool) (p:Tm) (a:An)
 | l (e:Bool) (i:Nat) (p b:Tm) (a:An)
 | s (l:List An)
 | o (l:List (Nat×An))
 | u (l:List An)
 | z
 deriving Inhabited
def An.sub (a:An) (i:Nat):An:=match a with
 | .s q=>q.getD i .n
 | _=> .n
def Sm:Nat->List (Nat×An)->An
 | _,[]=> .n
 | i,p::r=>if Nat.beq p.1 i then p.2 else Sm i r
def An.op (a:An) (i:Nat):An:=match a with
 | .o q=>Sm i q
 | _=> .n
structure Kn (G:Nat->Type) (R:Type) where
 n:DS G->Option R
 x:Nat->DS G->Option R
 r:DS G->Option R
def Kn.at {G:Nat->Type} {R:Type} (K:Kn G R):Ex->DS G->Option R
 | .normal,s=>K.n s
 | .exit i,s=>K.x i s
 | .ret,s=>K.r s
structure j3 (G:Nat->Type) where
 f:Nat
 args:List Sh
 ts:List Ty
 rs:List Ty
 m:DL G ts->Option (DL G rs)
abbrev Rec (G:Nat->Type):={R:Type}->RC->An->Nat->DS G->Kn G R->Option R
section
variable {G:Nat->Type} {R:Type}
def Cy (g:Ge G):List Sh->List (TV G)->Option (List (TV G))
 | [],vs=>(match vs with | []=>some [] | _::_=>none)
 | s::ss,vs=>(match vs with
  | v::vs=>(match Sh.coll g s v with
   | some a=>(match Cy g ss vs with | some b=>some (a++b) | none=>none)
   | none=>none)
  | []=>none)
def pL (g:Ge G):List Sh->List (TV G)->List (TV G)
 | [],_=>[]
 | s::ss,l=>(Sh.eN g s l).1::pL g ss (Sh.eN g s l).2
theorem xF {g:Ge G} {ln:Nat->Nat}:∀ {ss:List Sh} {vs l:List (TV G)},Cy g ss vs=some l->∀ {l':List (TV G)},TV.aS g ln l'=TV.aS g ln l->TV.aS g ln (pL g ss l')=TV.aS g ln vs
 | [],[],l,h,l',e=>rfl
 | [],_::_,l,h,l',e=>by cases h
 | _::_,[],l,h,l',e=>by cases h
 | s::ss,v::vs,l,h,l',e=>by
  have h':(match Sh.coll g s v with
   | some a=>(match Cy g ss vs with | some b=>some (a++b) | none=>none)
   | none=>none)=some l:=h
  split at h'
  case h_2=>cases h'
  rename_i a ha;split at h'
  case h_2=>cases h'
  rename_i b hb;injection h' with h';subst h'
  obtain ⟨p,q,e0,e1,e2⟩:=er e;subst e0;obtain ⟨v',k1,k2⟩:=qV s v a ha p q e1;show _::TV.aS g ln (pL g ss (Sh.eN g s (p++q)).2)=_;rw [k1];dsimp only;rw [xF hb e2,k2];rfl
def j3.vs (g:Ge G) (c:j3 G) (x:DL G c.ts):List (TV G):=pL g c.args (aM g c.ts x)
def j3.Ok (E:Env) (hp:Nat->Bool) (g:Ge G) (c:j3 G):Prop:=∀ x r,c.m x=some r->Pt E hp c.f (TV.aS g (fun _=>0) (c.vs g x)) (oneOf (vN g c.rs r))
def kE (g:Ge G) (f:Nat) (ys:List (TV G)):List (j3 G)->Option ((c:j3 G)×DL G c.ts)
 | []=>none
 | c::r=>if Nat.beq c.f f then (match Cy g c.args ys with
  | some l=>(match nq g c.ts l with
   | some x=>some ⟨c,x⟩
   | none=>kE g f ys r)
  | none=>kE g f ys r) else kE g f ys r
theorem yo {g:Ge G} (hg:g.Ok) {f:Nat} {ys:List (TV G)} {ln:Nat->Nat}:∀ {C:List (j3 G)} {p:(c:j3 G)×DL G c.ts},kE g f ys C=some p->p.1∈C/\p.1.f=f/\TV.aS g ln (p.1.vs g p.2)=TV.aS g ln ys
 | [],p,h=>by cases h
 | c::r,p,h=>by
  have tl:kE g f ys r=some p->p.1∈c::r/\p.1.f=f/\TV.aS g ln (p.1.vs g p.2)=TV.aS g ln ys:=fun h=>by
   obtain ⟨h1,h2⟩:=yo hg h;exact ⟨zaC _ h1,h2⟩
  rw [kE] at h;split at h
  case isFalse=>exact tl h
  rename_i hf;split at h
  case h_2=>exact tl h
  rename_i l hl;split at h
  case h_2=>exact tl h
  rename_i x hx;injection h with h;subst h
  refine ⟨zb4 ..,za3 hf,?_⟩;exact xF hl (by rw [ig hg,kB hg ln _ _ _ hx])
def ZT:Ty->Bool
 | .int _ | .bool | .str=>true
 | _=>false
def wM:List Ty->Bool
 | []=>true
 | t::r=>ZT t&&wM r
theorem Ah {g:Ge G}:∀ {ts:List Ty} (x:DL G ts),wM ts=true->AV.jF (vN g ts x)=true
 | [],_,_=>rfl
 | [t],x,h=>by
  rw [wM,za0] at h;show ((va g t x).flat&&true)=true
  cases t<;>first | rfl | cases h.1
 | t::u::r,x,h=>by
  rw [wM,za0] at h;have ih:=Ah (g:=g) (ts:=u::r) x.2 h.2;show ((va g t x.1).flat&&AV.jF (vN g (u::r) x.2))=true;rw [ih,Bool.and_true]
  cases t<;>first | rfl | cases h.1
def yT:List (TV G)->TV G
 | [v]=>v
 | l=> .bl l
theorem vm {g:Ge G} {ln:Nat->Nat} (l:List (TV G)):(yT l).av g ln=oneOf (TV.aS g ln l):=by
 match l with
 | []=>rfl
 | [v]=>rfl
 | _::_::_=>rfl
theorem FY {l:List AV} (h:AV.jF l=true):(oneOf l).flat=true:=by
 match l,h with
 | [],_=>rfl
 | [v],h=>simpa [AV.jF,oneOf] using h
 | a::b::l,h=>exact h
def Ub:TV G->Bool
 | .po .. | .pe .. | .pa ..=>true
 | .raw v=>(match v with | .fI _=>true | _=>false)
 | _=>false
def Bd:List (TV G)->Bool
 | []=>false
 | x::xs=>Ub x||Bd xs
theorem Rc {g:Ge G} {ln:Nat->Nat} {H:List Obj} {v:TV G} (h:Ub v=true):pk 6 H (v.av g ln)=none:=by
 have key:∀ {a:AV},a.bp 0=false->(∀ id e o l,a≠ .own id e o l)->(∀ id e i o sz l,a≠ .arr id e i o sz l)->(∀ l,a≠ .agg l)->(∀ l,a≠ .bl l)->(∀ f l,a≠ .fn f l)->pk 6 H a=none:=by
  intro a h1 h2 h3 h4 h5 h6;unfold pk;rw [if_neg (by rw [AV.fE,h1];simp)];split
  ·exact (h2 _ _ _ _ rfl).elim
  ·exact (h3 _ _ _ _ _ _ rfl).elim
  ·exact (h4 _ rfl).elim
  ·exact (h5 _ rfl).elim
  ·exact (h6 _ _ rfl).elim
  ·rfl
 unfold Ub at h;split at h
 ·exact key (by simp [TV.av,AV.bp]) (fun _ _ _ _=>nofun) (fun _ _ _ _ _ _=>nofun) (fun _=>nofun) (fun _=>nofun) (fun _ _=>nofun)
 ·exact key (by simp [TV.av,AV.bp]) (fun _ _ _ _=>nofun) (fun _ _ _ _ _ _=>nofun) (fun _=>nofun) (fun _=>nofun) (fun _ _=>nofun)
 ·exact key (by simp [TV.av,AV.bp]) (fun _ _ _ _=>nofun) (fun _ _ _ _ _ _=>nofun) (fun _=>nofun) (fun _=>nofun) (fun _ _=>nofun)
 ·split at h
  ·exact key (by simp [TV.av,AV.bp]) (fun _ _ _ _=>nofun) (fun _ _ _ _ _ _=>nofun) (fun _=>nofun) (fun _=>nofun) (fun _ _=>nofun)
  ·cases h
 ·cases h
theorem Ag {g:Ge G} {ln:Nat->Nat} {H:List Obj}:∀ {xs:List (TV G)},Bd xs=true->snaps H (TV.aS g ln xs)=none
 | [],h=>by cases h
 | x::xs,h=>by
  rw [Bd,zat] at h;show fC (pk 6 H) (_::_)=none;rw [fC];rcases h with h | h
  ·rw [Rc h]
  ·have:=Ag (g:=g) (ln:=ln) (H:=H) h;unfold snaps at this;rw [this]
   cases pk 6 H (x.av g ln)<;>rfl
theorem ND {g:Ge G} (hg:g.Ok) {ln:Nat->Nat} {H:List Obj} {xs:List (TV G)} {l:List AV} (hf:TV.mM xs=true) (h:snaps H (TV.aS g ln xs)=some l):l=TV.aS g ln xs:=by
 have:=tP (d:=6) (H:=H) (eP hg ln xs hf);unfold snaps at h;rw [this] at h;injection h with h;exact h.symm
def pK (g:Ge G) (s:DS G):List (Sum Nat (Nat×Nat×Bool))->Option (List (TV G))
 | []=>some []
 | .inl t::r=>(match pK g s r with | some l=>some (s.get t::l) | none=>none)
 | .inr p::r=>(match Cg g s.H p.2.1 p.2.2 (s.get p.1) some with
  | some v=>(match pK g s r with | some l=>some (v::l) | none=>none)
  | none=>none)
theorem mA {g:Ge G} (hg:g.Ok) {s:DS G}:∀ {rs:List (Sum Nat (Nat×Nat×Bool))} {l:List (TV G)},pK g s rs=some l->bP rs (s.st g)=some (TV.aS g s.ln l)
 | [],l,h=>by injection h with h;subst h;rfl
 | .inl t::r,l,h=>by
  rw [pK] at h;split at h
  case h_2=>cases h
  rename_i l' h1;injection h with h;subst h
  rw [bP,mA hg h1];show some (T.get _ t::_)=_;rw [show (s.st g).tmps.get t=(s.get t).av g s.ln from DS.ie g s t];rfl
 | .inr (t,n,ag)::r,l,h=>by
  rw [pK] at h;split at h
  case h_2=>cases h
  rename_i v hv;split at h
  case h_2=>cases h
  rename_i l' h1;injection h with h;subst h
  obtain ⟨w,k1,k2⟩:=wT hg hv;injection k2 with k2;subst k2
  rw [bP,mA hg h1];rw [show (s.st g).tmps.get t=(s.get t).av g s.ln from DS.ie g s t];rw [show loadAt (s.st g).H n ag _=_ from k1];rfl
def fK:List (TV G)->Nat->List (Nat×TV G)
 | [],_=>[]
 | x::xs,i=>(i,x)::fK xs (i+1)
theorem lE (g:Ge G) (ln:Nat->Nat):∀ (l:List (TV G)) (i:Nat),dR g ln (fK l i)=T.kf (TV.aS g ln l) i
 | [],_=>rfl
 | x::l,i=>by
  show (i,_)::dR g ln (fK l (i+1))=(i,_)::T.kf (TV.aS g ln l) (i+1);rw [lE g ln l]
def HY (n:Nat):List (TO G)->Bool
 | []=>true
 | .lp _ fi::r=>Nat.blt fi n&&HY n r
 | _::r=>HY n r
theorem nI {g:Ge G} {ln:Nat->Nat} {F F':List (T×C3)} {n:Nat} (hF:∀ i,i < n->F'[i]?=F[i]?):∀ {H:List (TO G)},HY n H=true->H.map (TO.av g ln F')=H.map (TO.av g ln F)
 | [],_=>rfl
 | .lp s fi::r,h=>by
  rw [HY,za0] at h;have h1:fi < n:=by simpa [zbS] using h.1
  rw [za5,za5,nI hF h.2];simp only [TO.av,hF fi h1]
 | .box l::r,h | .aL ..::r,h | .cX ..::r,h | .mix ..::r,h | .arr ..::r,h | .dead::r,h | .iA::r,h | .mT ..::r,h | .yE ..::r,h=>by
  have h:HY n r=true:=h;rw [za5,za5,nI hF h];rfl
def DS.enter (s:DS G) (sz:Nat) (sl:List (Nat×TV G)) (c:C3):DS G:=⟨sz,sl,s.H,s.fr++[(s.sz,s.sl,c)]⟩
def DS.leave (s:DS G) (n:Nat):Option (DS G):=match s.fr[n]? with
 | some f=>if HY n s.H then some ⟨f.1,f.2.1,s.H,s.fr.take n⟩ else none
 | none=>none
theorem Fa (g:Ge G) (s:DS G):(s.FR g).length=s.fr.length:=by unfold DS.FR;rw [zah]
theorem DO {g:Ge G} (s:DS G) (sz:Nat) (sl:List (Nat×TV G)) (c:C3) (h:HY s.fr.length s.H=true):(s.enter sz sl c).tm g=⟨sz,dR g s.ln sl⟩/\(s.enter sz sl c).FR g=s.FR g++[(s.tm g,c)]/\(s.enter sz sl c).Hv g=s.Hv g:=by
 have e:(s.enter sz sl c).FR g=s.FR g++[(s.tm g,c)]:=by
  unfold DS.FR DS.enter;rw [zal];rfl
 refine ⟨rfl,e,?_⟩;unfold DS.Hv;rw [e];refine nI (n:=s.fr.length) (fun i hi=>?_) h;rw [zap (by rw [Fa];exact hi)]
theorem xj {g:Ge G} {s s' s2:DS G} {c:C3} (h:s'.leave s.fr.length=some s2) (hF:s'.FR g=s.FR g++[(s.tm g,c)]):s2.tm g=s.tm g/\s2.FR g=s.FR g/\s2.ln=s'.ln/\s2.Hv g=s'.Hv g:=by
 have hl:=Fa g s;unfold DS.leave at h;split at h
 case h_2=>cases h
 rename_i f hf;split at h
 case isFalse=>cases h
 rename_i hb;injection h with h;subst h
 have h1:(s'.FR g)[s.fr.length]?=(s.FR g++[(s.tm g,c)])[s.fr.length]?:=by rw [hF]
 unfold DS.FR at h1;rw [zay,hf] at h1;rw [zav (by rw [zah];exact za6 _),zah,zby] at h1;injection h1 with h1
 injection h1 with h1 _
 have h2:(⟨f.1,f.2.1,s'.H,s'.fr.take s.fr.length⟩:DS G).FR g=s.FR g:=by
  have h3:=congrArg (List.take s.fr.length) hF;rw [List.take_left' hl] at h3;rw [<-h3];unfold DS.FR;rw [<-zbP];rfl
 refine ⟨h1,h2,rfl,?_⟩;show s'.H.map (TO.av g s'.ln (DS.FR g _))=s'.H.map (TO.av g s'.ln (s'.FR g));rw [h2,hF];refine nI (n:=s.fr.length) (fun i hi=>?_) hb;rw [zap (by rw [hl];exact hi)]
def Ix:List (Nat×TV G)->Nat->TV G->List (Nat×TV G)
 | [],_,_=>[]
 | (k,u)::r,n,v=>if k=n then (k,v)::r else (k,u)::Ix r n v
theorem HQ {g:Ge G} {ln:Nat->Nat}:∀ {l:List (Nat×TV G)} {n:Nat} {v:TV G},(EV l n).av g ln=v.av g ln->dR g ln (Ix l n v)=dR g ln l
 | [],_,_,_=>rfl
 | (k,u)::r,n,v,h=>by
  rw [EV] at h;rw [Ix];split
  ·rename_i hk;rw [if_pos hk] at h;show (k,_)::_=(k,_)::_;rw [h]
  ·rename_i hk;rw [if_neg hk] at h;show (k,_)::dR g ln (Ix r n v)=(k,_)::dR g ln r;rw [HQ h]
def DS.rep (s:DS G) (n:Nat) (v:TV G):DS G:=⟨s.sz,Ix s.sl n v,s.H,s.fr⟩
theorem Ly {g:Ge G} {s:DS G} {n:Nat} {v:TV G} (h:(s.get n).av g s.ln=v.av g s.ln):(s.rep n v).tm g=s.tm g/\(s.rep n v).Hv g=s.Hv g/\(s.rep n v).FR g=s.FR g:=by
 refine ⟨?_,rfl,rfl⟩;show (⟨s.sz,_⟩:T)=⟨s.sz,_⟩;rw [show dR g (s.rep n v).ln (s.rep n v).sl=dR g s.ln (Ix s.sl n v) from rfl,HQ h]
def sV (x y:Ls) (s:DS G) (l:Nat):Option (DS G):=match s.H[l]? with
 | some (.lp s' fi)=>if s'=x/\fi < s.fr.length then some (s.iT l (.lp y fi)) else none
 | _=>none
theorem Ai {g:Ge G} {s s':DS G} {x y:Ls} {l:Nat} (h:sV x y s l=some s'):jH x y (s.Hv g) l=some (s'.Hv g)/\s'.tm g=s.tm g/\s'.FR g=s.FR g:=by
 unfold sV at h;split at h
 case h_2=>cases h
 rename_i s0 fi hl;split at h
 case isFalse=>cases h
 rename_i e;obtain ⟨rfl,e⟩:=e;injection h with h;subst h
 have hf:(s.FR g)[fi]?=some ((s.FR g)[fi]'(by unfold DS.FR;simpa using e)):=za2 _;obtain ⟨k1,k2,k3,k4⟩:=fG (g:=g) (o':= .lp y fi) hl rfl;refine ⟨?_,k2,k3⟩;unfold jH;rw [bw hl];simp only [TO.av,hf,if_true];rw [k4];simp only [TO.av,hf]
end
end oZ
end
section
namespace oZ
open Go hiding Obj mark
open Go.Pl Go.Am Go.Am.As
def jD {α:Type} (f:α->α->Bool):List α->List α->Bool
 | [],l=>(match l with | []=>true | _::_=>false)
 | x::xs,l=>(match l with | y::ys=>f x y&&jD f xs ys | []=>false)
theorem gR {α:Type} {f:α->α->Bool} (hf:∀ x y,f x y=true->x=y):∀ {l m:List α},jD f l m=true->l=m
 | [],[],_=>rfl
 | [],_::_,h=>by cases h
 | _::_,[],h=>by cases h
 | x::xs,y::ys,h=>by
  have h:(f x y&&jD f xs ys)=true:=h;rw [za0] at h;rw [hf _ _ h.1,gR hf h.2]
theorem jE:∀ x y:Nat,Nat.beq x y=true->x=y:=fun x y h=>za3 h
def RX.same:RX->RX->Bool
 | .t i,y=>(match y with | .t j=>Nat.beq i j | _=>false)
 | .c v,y=>(match y with | .c w=>AV.same v w | _=>false)
 | _,_=>false
theorem RX.bx:∀ x y:RX,RX.same x y=true->x=y:=by
 intro x y h
 cases x with
 | t i=>cases y with
  | t j=>rw [jE i j h]
  | _=>cases h
 | c v=>cases y with
  | c w=>rw [AV.bx h]
  | _=>cases h
 | _=>cases h
def RO.same:RO->RO->Bool
 | .F6 a,y=>(match y with | .F6 b=>RX.same a b | _=>false)
 | .pick a b c,y=>(match y with | .pick a' b' c'=>RX.same a a'&&(RX.same b b'&&RX.same c c') | _=>false)
 | .alloc z,y=>(match y with | .alloc z'=>AV.iL z z' | _=>false)
 | .load n g a,y=>(match y with | .load n' g' a'=>Nat.beq n n'&&((g==g')&&RX.same a a') | _=>false)
 | .store n a b,y=>(match y with | .store n' a' b'=>Nat.beq n n'&&(RX.same a a'&&RX.same b b') | _=>false)
 | .bin o a b,y=>(match y with | .bin o' a' b'=>decide (o=o')&&(RX.same a a'&&RX.same b b') | _=>false)
 | .un o a,y=>(match y with | .un o' a'=>decide (o=o')&&RX.same a a' | _=>false)
 | .u0 n a,y=>(match y with | .u0 n' a'=>Nat.beq n n'&&RX.same a a' | _=>false)
 | .mx l,y=>(match y with | .mx m=>jD RX.same l m | _=>false)
 | .call f l,y=>(match y with | .call f' m=>Nat.beq f f'&&jD RX.same l m | _=>false)
 | .ext a n,y=>(match y with | .ext a' n'=>Nat.beq n n'&&RX.same a a' | _=>false)
 | _,_=>false
theorem RO.bx:∀ x y:RO,RO.same x y=true->x=y:=by
 intro x y h
 cases x with
 | F6 a=>cases y with
  | F6 b=>rw [RX.bx _ _ h]
  | _=>cases h
 | pick a b c=>cases y with
  | pick a' b' c'=>
   have h:(RX.same a a'&&(RX.same b b'&&RX.same c c'))=true:=h;simp only [za0] at h;rw [RX.bx _ _ h.1,RX.bx _ _ h.2.1,RX.bx _ _ h.2.2]
  | _=>cases h
 | alloc z=>cases y with
  | alloc z'=>rw [AV.gS h]
  | _=>cases h
 | load n g a=>cases y with
  | load n' g' a'=>
   have h:(Nat.beq n n'&&((g==g')&&RX.same a a'))=true:=h;simp only [za0] at h;rw [jE _ _ h.1,eq_of_beq h.2.1,RX.bx _ _ h.2.2]
  | _=>cases h
 | store n a b=>cases y with
  | store n' a' b'=>
   have h:(Nat.beq n n'&&(RX.same a a'&&RX.same b b'))=true:=h;simp only [za0] at h;rw [jE _ _ h.1,RX.bx _ _ h.2.1,RX.bx _ _ h.2.2]
  | _=>cases h
 | bin o a b=>cases y with
  | bin o' a' b'=>
   have h:(decide (o=o')&&(RX.same a a'&&RX.same b b'))=true:=h;simp only [za0,decide_eq_true_eq] at h;rw [h.1,RX.bx _ _ h.2.1,RX.bx _ _ h.2.2]
  | _=>cases h
 | un o a=>cases y with
  | un o' a'=>
   have h:(decide (o=o')&&RX.same a a')=true:=h;simp only [za0,decide_eq_true_eq] at h;rw [h.1,RX.bx _ _ h.2]
  | _=>cases h
 | u0 n a=>cases y with
  | u0 n' a'=>
   have h:(Nat.beq n n'&&RX.same a a')=true:=h;simp only [za0] at h;rw [jE _ _ h.1,RX.bx _ _ h.2]
  | _=>cases h
 | mx l=>cases y with
  | mx m=>rw [gR RX.bx h]
  | _=>cases h
 | call f l=>cases y with
  | call f' m=>
   have h:(Nat.beq f f'&&jD RX.same l m)=true:=h;simp only [za0] at h;rw [jE _ _ h.1,gR RX.bx h.2]
  | _=>cases h
 | ext a n=>cases y with
  | ext a' n'=>
   have h:(Nat.beq n n'&&RX.same a a')=true:=h;simp only [za0] at h;rw [jE _ _ h.1,RX.bx _ _ h.2]
  | _=>cases h
 | _=>cases h
def bH.same (a b:bH):Bool:=decide (a.dst=b.dst)&&(decide (a.guard=b.guard)&&RO.same a.op b.op)
theorem bH.bx:∀ a b:bH,bH.same a b=true->a=b:=by
 rintro ⟨d,g,o⟩ ⟨d',g',o'⟩ h;have h:(decide (d=d')&&(decide (g=g')&&RO.same o o'))=true:=h;simp only [za0,decide_eq_true_eq] at h;rw [h.1,h.2.1,RO.bx _ _ h.2.2]
def GA.same:GA->GA->Bool
 | .kill l,y=>(match y with | .kill m=>jD Nat.beq l m | _=>false)
 | .kn n,y=>(match y with | .kn m=>Nat.beq n m | _=>false)
 | .ua n,y=>(match y with | .ua m=>Nat.beq n m | _=>false)
 | .nk n,y=>(match y with | .nk m=>Nat.beq n m | _=>false)
 | .wk l,y=>(match y with | .wk m=>jD Nat.beq l m | _=>false)
 | _,_=>false
theorem GA.bx:∀ x y:GA,GA.same x y=true->x=y:=by
 intro x y h
 cases x with
 | kill l=>cases y with
  | kill m=>rw [gR jE h]
  | _=>cases h
 | kn n=>cases y with
  | kn m=>rw [jE n m h]
  | _=>cases h
 | ua n=>cases y with
  | ua m=>rw [jE n m h]
  | _=>cases h
 | nk n=>cases y with
  | nk m=>rw [jE n m h]
  | _=>cases h
 | wk l=>cases y with
  | wk m=>rw [gR jE h]
  | _=>cases h
 | _=>cases h
def RC.same:RC->RC->Bool
 | .skip,y=>(match y with | .skip=>true | _=>false)
 | .ret,y=>(match y with | .ret=>true | _=>false)
 | .exit i,y=>(match y with | .exit j=>Nat.beq i j | _=>false)
 | .u6 l,y=>(match y with | .u6 m=>jD bH.same l m | _=>false)
 | .seq a b,y=>(match y with | .seq a' b'=>RC.same a a'&&RC.same b b' | _=>false)
 | .cond x a b,y=>(match y with | .cond x' a' b'=>RX.same x x'&&(RC.same a a'&&RC.same b b') | _=>false)
 | .block i a,y=>(match y with | .block j a'=>Nat.beq i j&&RC.same a a' | _=>false)
 | .gh p a q,y=>(match y with | .gh p' a' q'=>jD GA.same p p'&&(RC.same a a'&&jD GA.same q q') | _=>false)
 | _,_=>false
theorem RC.bx:∀ x y:RC,RC.same x y=true->x=y:=by
 intro x;induction x with
 | skip=>intro y h;cases y with
  | skip=>rfl
  | _=>cases h
 | ret=>intro y h;cases y with
  | ret=>rfl
  | _=>cases h
 | exit i=>intro y h;cases y with
  | exit j=>rw [jE i j h]
  | _=>cases h
 | u6 l=>intro y h;cases y with
  | u6 m=>rw [gR bH.bx h]
  | _=>cases h
 | seq a b Ss ihb=>intro y h;cases y with
  | seq a' b'=>
   have h:(RC.same a a'&&RC.same b b')=true:=h;simp only [za0] at h;rw [Ss _ h.1,ihb _ h.2]
  | _=>cases h
 | cond x a b Ss ihb=>intro y h;cases y with
  | cond x' a' b'=>
   have h:(RX.same x x'&&(RC.same a a'&&RC.same b b'))=true:=h;simp only [za0] at h;rw [RX.bx _ _ h.1,Ss _ h.2.1,ihb _ h.2.2]
  | _=>cases h
 | block i a Ss=>intro y h;cases y with
  | block j a'=>
   have h:(Nat.beq i j&&RC.same a a')=true:=h;simp only [za0] at h;rw [jE _ _ h.1,Ss _ h.2]
  | _=>cases h
 | gh p a q Ss=>intro y h;cases y with
  | gh p' a' q'=>
   have h:(jD GA.same p p'&&(RC.same a a'&&jD GA.same q q'))=true:=h;simp only [za0] at h;rw [gR GA.bx h.1,Ss _ h.2.1,gR GA.bx h.2.2]
  | _=>cases h
 | _=>intro y h;cases h
def C3.same (a b:C3):Bool:=jD Nat.beq a.1 b.1&&(RC.same a.2.1 b.2.1&&RC.same a.2.2 b.2.2)
theorem C3.bx {a b:C3} (h:C3.same a b=true):a=b:=by
 obtain ⟨p,c,d⟩:=a;obtain ⟨p',c',d'⟩:=b;have h:(jD Nat.beq p p'&&(RC.same c c'&&RC.same d d'))=true:=h;simp only [za0] at h;rw [gR jE h.1,RC.bx _ _ h.2.1,RC.bx _ _ h.2.2]
section
variable {G:Nat->Type} {R:Type}
def yN:RC->List C3
 | .Ay _ ps a b=>(ps,a,b)::(yN a++yN b)
 | .seq a b=>yN a++yN b
 | .cond _ a b=>yN a++yN b
 | .block _ a=>yN a
 | .loop a=>yN a
 | .gh _ a _=>yN a
 | _=>[]
structure Az where
 sl:List Sh
 H:List Oh
 fr:List (Nat×List (Nat×Sh)×C3)
structure dJ where
 rs:List Sh
 H:List Oh
 ts:List Ty
structure eZ (G:Nat->Type) where
 f:Nat
 i:Az
 ts:List Ty
 o1:dJ
 o2:dJ
 m:DL G ts->Option (DL G o1.ts⊕DL G o2.ts)
def pG:List Sh->Nat->List (Nat×(Sh⊕TV G))
 | [],_=>[]
 | s::ss,i=>(i,.inl s)::pG ss (i+1)
def B5:List (Nat×Sh)->List (Nat×(Sh⊕TV G))
 | []=>[]
 | p::ps=>(p.1,.inl p.2)::B5 ps
theorem Bi:∀ {ss:List Sh} {i x:Nat} {u:TV G},(x,Sum.inr u)∈pG ss i->False
 | s::ss,i,x,u,h=>by
  rcases zam.1 h with e | h
  ·injection e with _ e;cases e
  ·exact Bi h
theorem GR:∀ {ss:List (Nat×Sh)} {x:Nat} {u:TV G},(x,Sum.inr u)∈B5 ss->False
 | s::ss,x,u,h=>by
  rcases zam.1 h with e | h
  ·injection e with _ e;cases e
  ·exact GR h
def AW (g:Ge G):List (Nat×List (Nat×Sh)×C3)->List (Nat×List (Nat×TV G)×C3)->Option (List (TV G))
 | [],_=>some []
 | p::ps,fs=>(match fs with
  | q::qs=>if Nat.beq p.1 q.1&&C3.same p.2.2 q.2.2 then (match o7 g (B5 p.2.1) q.2.1 with
   | some a=>(match AW g ps qs with | some b=>some (a++b) | none=>none)
   | none=>none) else none
  | []=>none)
def zi (g:Ge G):List (Nat×List (Nat×Sh)×C3)->List (TV G)->List (Nat×List (Nat×TV G)×C3)
 | [],_=>[]
 | p::ps,l=>(p.1,(j8 g (B5 p.2.1) l).1,p.2.2)::zi g ps (j8 g (B5 p.2.1) l).2
def NM (g:Ge G) (ln:Nat->Nat) (f:Nat×List (Nat×TV G)×C3):T×C3:=(⟨f.1,dR g ln f.2.1⟩,f.2.2)
theorem zI {g:Ge G} {ln:Nat->Nat}:∀ {ps:List (Nat×List (Nat×Sh)×C3)} {fs:List (Nat×List (Nat×TV G)×C3)} {l:List (TV G)},AW g ps fs=some l->
 ∀ {l':List (TV G)},TV.aS g ln l'=TV.aS g ln l->(zi g ps l').map (NM g ln)=(fs.take ps.length).map (NM g ln)
 | [],fs,l,h,l',e=>by simp [zi]
 | p::ps,[],l,h,l',e=>by cases h
 | p::ps,q::qs,l,h,l',e=>by
  have h':(if Nat.beq p.1 q.1&&C3.same p.2.2 q.2.2 then (match o7 g (B5 p.2.1) q.2.1 with
   | some a=>(match AW g ps qs with | some b=>some (a++b) | none=>none)
   | none=>none) else none)=some l:=h
  split at h'
  case isFalse=>cases h'
  rename_i hc;rw [za0] at hc;split at h'
  case h_2=>cases h'
  rename_i a ha;split at h'
  case h_2=>cases h'
  rename_i b hb;injection h' with h';subst h'
  obtain ⟨u,v,e0,e1,e2⟩:=er e;subst e0;obtain ⟨Ga,k1,k2⟩:=lC (VV:=ln) (ln:=ln) ha (fun x w v h=>(GR h).elim) u v e1;have ih:=zI hb e2;show NM g ln (p.1,(j8 g (B5 p.2.1) (u++v)).1,p.2.2)::(zi g ps (j8 g (B5 p.2.1) (u++v)).2).map (NM g ln)=_;rw [k1];show _=NM g ln q::(qs.take ps.length).map (NM g ln);rw [ih];unfold NM;dsimp only;rw [k2,jE _ _ hc.1,C3.bx hc.2]
theorem zJ {g:Ge G} (hg:g.Ok) {ln:Nat->Nat} {F:List (T×C3)}:∀ {hs:List Oh} {os:List (TO G)} {l:List (TV G)},ug g hs os=some l->∀ {l' r:List (TV G)},TV.aS g ln l'=TV.aS g ln l->qK hs (kV g hs (l'++r)).1=true->
 (kV g hs (l'++r)).2=r
 | [],[],l,h,l',r,e,hk=>by
  injection h with h;subst h
  rw [gN e];rfl
 | [],_::_,l,h,l',r,e,hk=>by cases h
 | _::_,[],l,h,l',r,e,hk=>by cases h
 | h::hs,o::os,l,hc,l',r,e,hk=>by
  have Ev:(match qL g h o with
   | some a=>(match ug g hs os with | some b=>some (a++b) | none=>none)
   | none=>none)=some l:=hc
  split at Ev
  case h_2=>cases Ev
  rename_i a ha;split at Ev
  case h_2=>cases Ev
  rename_i b hb;injection Ev with Ev;subst Ev
  obtain ⟨p,q,e0,e1,e2⟩:=er e;subst e0;have hk':(mO h (mZ g h (p++q++r)).1&&qK hs (kV g hs (mZ g h (p++q++r)).2).1)=true:=hk;rw [za0,zaz] at hk';obtain ⟨k1,k2,k3⟩:=CQ hg (F:=F) ha e1 hk'.1;have hk2:=hk'.2;rw [k1] at hk2;show (kV g hs (mZ g h (p++q++r)).2).2=r;rw [zaz,k1];exact zJ hg (F:=F) hb e2 hk2
def Az.st (g:Ge G) (i:Az) (nt:Nat) (l:List (TV G)):DS G:=
 ⟨nt,(j8 g (pG i.sl 0) l).1,(kV g i.H (j8 g (pG i.sl 0) l).2).1,zi g i.fr (kV g i.H (j8 g (pG i.sl 0) l).2).2⟩
def vals (l:List (Nat×TV G)):List (TV G):=l.map (·.2)
def dJ.res (g:Ge G) (o:dJ) (l:List (TV G)):List (TV G):=vals (j8 g (pG o.rs 0) l).1
def dJ.mem (g:Ge G) (o:dJ) (l:List (TV G)):List (TO G):=(kV g o.H (j8 g (pG o.rs 0) l).2).1
def dJ.Is (E:Env) (hp:Nat->Bool) (g:Ge G) (f:Nat) (s0:DS G) (o:dJ) (l:List (TV G)):Prop:=
 ∃ n,kh E.fns (ak E hp n) (some f) (TV.aS g s0.ln (vals s0.sl)) (s0.Hv g)=some (oneOf (TV.aS g (kg (o.mem g l)) (o.res g l)),(⟨0,[],o.mem g l,s0.fr⟩:DS G).Hv g)/\
  (⟨0,[],o.mem g l,s0.fr⟩:DS G).FR g=s0.FR g
def dJ.Is2 (E:Env) (hp:Nat->Bool) (g:Ge G) (f:Nat) (s0:DS G) (o1 o2:dJ) (u:DL G o1.ts⊕DL G o2.ts):Prop:=
 Sum.elim (fun w=>dJ.Is E hp g f s0 o1 (aM g o1.ts w)) (fun w=>dJ.Is E hp g f s0 o2 (aM g o2.ts w)) u
def eZ.Ok (E:Env) (hp:Nat->Bool) (g:Ge G) (c:eZ G):Prop:=∀ x u,c.m x=some u->dJ.Is2 E hp g c.f (c.i.st g 0 (aM g c.ts x)) c.o1 c.o2 u
def Az.coll (g:Ge G) (i:Az) (xs:List (TV G)) (s:DS G):Option (List (TV G)):=match o7 g (pG i.sl 0) (fK xs 0) with
 | some a=>(match ug g i.H s.H with
  | some b=>(match AW g i.fr s.fr with
   | some c=>some (a++(b++c))
   | none=>none)
  | none=>none)
 | none=>none
def qT:List (Nat×TV G)->Bool
 | []=>true
 | p::r=>indep p.2&&qT r
def qU:List (Nat×List (Nat×TV G)×C3)->Bool
 | []=>true
 | p::r=>qT p.2.1&&qU r
theorem qd {g:Ge G} {ln cj:Nat->Nat}:∀ {l:List (Nat×TV G)},qT l=true->dR g ln l=dR g cj l
 | [],_=>rfl
 | p::r,h=>by
  rw [qT,za0] at h;show (p.1,_)::dR g ln r=(p.1,_)::dR g cj r;rw [wW p.2 h.1,qd h.2]
theorem qe {g:Ge G} {ln cj:Nat->Nat}:∀ {l:List (Nat×List (Nat×TV G)×C3)},qU l=true->l.map (NM g ln)=l.map (NM g cj)
 | [],_=>rfl
 | p::r,h=>by
  rw [qU,za0] at h;rw [za5,za5,qe h.2];unfold NM;rw [qd h.1]
def qM (g:Ge G) (f:Nat) (xs:List (TV G)) (s:DS G):List (eZ G)->Option ((c:eZ G)×DL G c.ts)
 | []=>none
 | c::r=>if Nat.beq c.f f then (match c.i.coll g xs s with
  | some l=>(match nq g c.ts l with
   | some x=>if qK c.i.H (c.i.st g 0 (aM g c.ts x)).H&&(HY c.i.fr.length (c.i.st g 0 (aM g c.ts x)).H&&HY c.i.fr.length s.H) then some ⟨c,x⟩ else qM g f xs s r
   | none=>qM g f xs s r)
  | none=>qM g f xs s r) else qM g f xs s r
theorem qf:∀ (xs:List (TV G)) (i:Nat),vals (fK xs i)=xs
 | [],_=>rfl
 | x::xs,i=>by
  show x::vals (fK xs (i+1))=_;rw [qf xs]
theorem wX {g:Ge G} {ln:Nat->Nat}:∀ {a b:List (Nat×TV G)},dR g ln a=dR g ln b->TV.aS g ln (vals a)=TV.aS g ln (vals b)
 | [],[],_=>rfl
 | [],_::_,h=>by cases h
 | _::_,[],h=>by cases h
 | p::a,q::b,h=>by
  have h:(p.1,p.2.av g ln)::dR g ln a=(q.1,q.2.av g ln)::dR g ln b:=h;injection h with h1 h2
  injection h1 with _ h1
  show p.2.av g ln::TV.aS g ln (vals a)=q.2.av g ln::TV.aS g ln (vals b);rw [h1,wX h2]
theorem CS {g:Ge G} (hg:g.Ok) {f:Nat} {xs:List (TV G)} {s:DS G}:∀ {C:List (eZ G)} {p:(c:eZ G)×DL G c.ts},qM g f xs s C=some p->
 p.1∈C/\p.1.f=f/\(p.1.i.st g 0 (aM g p.1.ts p.2)).ln=s.ln/\TV.aS g s.ln (vals (p.1.i.st g 0 (aM g p.1.ts p.2)).sl)=TV.aS g s.ln xs/\
 (p.1.i.st g 0 (aM g p.1.ts p.2)).Hv g=s.Hv g/\(p.1.i.st g 0 (aM g p.1.ts p.2)).FR g=(s.FR g).take p.1.i.fr.length/\(p.1.i.st g 0 (aM g p.1.ts p.2)).H.map TO.len=s.H.map TO.len
 | [],p,h=>by cases h
 | c::r,p,h=>by
  have tl:qM g f xs s r=some p->p.1∈c::r/\p.1.f=f/\(p.1.i.st g 0 (aM g p.1.ts p.2)).ln=s.ln/\TV.aS g s.ln (vals (p.1.i.st g 0 (aM g p.1.ts p.2)).sl)=TV.aS g s.ln xs/\
   (p.1.i.st g 0 (aM g p.1.ts p.2)).Hv g=s.Hv g/\(p.1.i.st g 0 (aM g p.1.ts p.2)).FR g=(s.FR g).take p.1.i.fr.length/\(p.1.i.st g 0 (aM g p.1.ts p.2)).H.map TO.len=s.H.map TO.len:=fun h=>by
   obtain ⟨h1,h2⟩:=CS hg h;exact ⟨zaC _ h1,h2⟩
  rw [qM] at h;split at h
  case isFalse=>exact tl h
  rename_i hf;split at h
  case h_2=>exact tl h
  rename_i l hl;split at h
  case h_2=>exact tl h
  rename_i x hx;split at h
  case isFalse=>exact tl h
  rename_i hk;rw [za0,za0] at hk;obtain ⟨hk,Ri,Em⟩:=hk;injection h with h;subst h
  dsimp only;unfold Az.coll at hl;split at hl
  case h_2=>cases hl
  rename_i a ha;split at hl
  case h_2=>cases hl
  rename_i b hb;split at hl
  case h_2=>cases hl
  rename_i d hd;injection hl with hl;subst hl
  have e:TV.aS g s.ln (aM g c.ts x)=TV.aS g s.ln (a++(b++d)):=by rw [ig hg,kB hg s.ln _ _ _ hx]
  obtain ⟨u,v,e0,e1,e2⟩:=er e;obtain ⟨v1,v2,e3,e4,e5⟩:=er e2;subst e3;obtain ⟨Ga,k1,k2⟩:=lC (VV:=s.ln) (ln:=s.ln) ha (fun x w v h=>(Bi h).elim) u (v1++v2) e1;have hH:(c.i.st g 0 (aM g c.ts x)).H=(kV g c.i.H (v1++v2)).1:=by unfold Az.st;dsimp only;rw [e0,k1]
  rw [hH] at hk Ri;have Ju:=zJ (F:=s.FR g) hg hb e4 hk;obtain ⟨m1,m2⟩:=nQ hg (F:=s.FR g) hb e4 hk;have AA:(c.i.st g 0 (aM g c.ts x)).ln=s.ln:=by unfold DS.ln;rw [hH];exact E3 m2
  have hfr:(c.i.st g 0 (aM g c.ts x)).fr=zi g c.i.fr v2:=by unfold Az.st;dsimp only;rw [e0,k1];dsimp only;rw [Ju]
  have yD:(c.i.st g 0 (aM g c.ts x)).FR g=(s.FR g).take c.i.fr.length:=by
   have h1:=zI (ln:=s.ln) hd e5;unfold DS.FR;rw [hfr,AA,<-zbP];exact h1
  refine ⟨zb4 ..,za3 hf,AA,?_,?_,yD,by rw [hH,m2]⟩
  ·have:(c.i.st g 0 (aM g c.ts x)).sl=Ga:=by unfold Az.st;dsimp only;rw [e0,k1]
   rw [this,<-qf xs 0];exact wX k2
  ·unfold DS.Hv;rw [AA,hH,yD];have h2:=nI (g:=g) (ln:=s.ln) (F:=s.FR g) (F':=(s.FR g).take c.i.fr.length) (n:=c.i.fr.length) (fun i hi=>by rw [zb5,if_pos hi]) Em;have h3:=nI (g:=g) (ln:=s.ln) (F:=s.FR g) (F':=(s.FR g).take c.i.fr.length) (n:=c.i.fr.length) (H:=(kV g c.i.H (v1++v2)).1) (fun i hi=>by rw [zb5,if_pos hi]) Ri;rw [h3,m1]
theorem zK {g:Ge G}:∀ (ss:List Sh) (i:Nat) (l:List (TV G)),(j8 g (pG ss i) l).1=fK (vals (j8 g (pG ss i) l).1) i
 | [],i,l=>rfl
 | s::ss,i,l=>by
  show (i,(Sh.eN g s l).1)::(j8 g (pG ss (i+1)) (Sh.eN g s l).2).1=(i,(Sh.eN g s l).1)::fK (vals (j8 g (pG ss (i+1)) (Sh.eN g s l).2).1) (i+1);rw [<-zK ss (i+1)]
theorem CT {g:Ge G}:∀ (ss:List Sh) (i:Nat) (l:List (TV G)),(vals (j8 g (pG ss i) l).1).length=ss.length
 | [],i,l=>rfl
 | s::ss,i,l=>by
  show (vals (j8 g (pG ss (i+1)) (Sh.eN g s l).2).1).length+1=ss.length+1;rw [CT ss (i+1)]
def dJ.coll (g:Ge G) (o:dJ) (rs:List (TV G)) (s:DS G):Option (DL G o.ts):=match o7 g (pG o.rs 0) (fK rs 0) with
 | some a=>(match ug g o.H s.H with
  | some b=>(match nq g o.ts (a++b) with
   | some w=>if qK o.H (o.mem g (aM g o.ts w)) then some w else none
   | none=>none)
  | none=>none)
 | none=>none
theorem dJ.qV {g:Ge G} (hg:g.Ok) {o:dJ} {rs:List (TV G)} {s:DS G} {w:DL G o.ts} (h:o.coll g rs s=some w):
 kg (o.mem g (aM g o.ts w))=s.ln/\TV.aS g s.ln (o.res g (aM g o.ts w))=TV.aS g s.ln rs/\∀ F,(o.mem g (aM g o.ts w)).map (TO.av g s.ln F)=s.H.map (TO.av g s.ln F):=by
 unfold dJ.coll at h;split at h
 case h_2=>cases h
 rename_i a ha;split at h
 case h_2=>cases h
 rename_i b hb;split at h
 case h_2=>cases h
 rename_i w' hw;split at h
 case isFalse=>cases h
 rename_i hk;injection h with h;subst h
 have e:TV.aS g s.ln (aM g o.ts w')=TV.aS g s.ln (a++b):=by rw [ig hg,kB hg s.ln _ _ _ hw]
 obtain ⟨u,v,e0,e1,e2⟩:=er e;obtain ⟨Ga,k1,k2⟩:=lC (VV:=s.ln) (ln:=s.ln) ha (fun x w v h=>(Bi h).elim) u v e1;have hm:o.mem g (aM g o.ts w')=(kV g o.H (v++[])).1:=by unfold dJ.mem;rw [e0,k1,zbo]
 rw [hm] at hk ⊢;refine ⟨E3 (nQ hg (F:=[]) hb e2 hk).2,?_,fun F=>(nQ hg (F:=F) hb e2 hk).1⟩;unfold dJ.res;rw [e0,k1];have:=wX k2
 rwa [qf] at this
end
end oZ
end
