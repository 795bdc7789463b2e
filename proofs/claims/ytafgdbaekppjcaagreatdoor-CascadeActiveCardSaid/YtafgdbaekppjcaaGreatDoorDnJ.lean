/- Typed states: code, and that the machine does it. No condition. -/
import Derived.Test.YtafgdbaekppjcaaGreatDoorDnI
set_option linter.unusedSectionVars false
set_option linter.unusedVariables false
set_option linter.unusedSimpArgs false
namespace oZ
open Go hiding Obj mark
open Go.Pl Go.Am Go.Am.As
structure Cx (G:Nat->Type) where
 g:Ge G
 gl:Nat->List AV
 fns:Nat->Option RF
 hp:Nat->Bool
 C:List (j3 G)
 CH:List (eZ G)
 K:List (Nat×List AV×AV)
section
variable {G:Nat->Type} {R:Type}
def T6 (X:Cx G) (rec:Rec G) (rf:RF) (xs:List (TV G)) (a:An) (s:DS G) (k:TV G->DS G->Option R):Option R:=
 if Nat.beq xs.length rf.nargs&&(Nat.ble rf.nargs rf.ntmps&&HY s.fr.length s.H) then
  let ret:DS G->Option R:=fun s'=>match pK X.g s' rf.results with
   | some l=>(match s'.leave s.fr.length with | some s2=>k (yT l) s2 | none=>none)
   | none=>none
  rec rf.body a s.H.length (s.enter rf.ntmps (fK xs 0) ([],.skip,.skip)) ⟨ret,fun _ _=>none,ret⟩
 else none
def O8 (X:Cx G) (s:DS G) (nf:Nat) (o:dJ) (l:List (TV G)) (k:TV G->DS G->Option R):Option R:=
 if HY nf (o.mem X.g l)&&(qT s.sl&&qU s.fr) then k (yT (o.res X.g l)) ⟨s.sz,s.sl,o.mem X.g l,s.fr⟩ else none
def dhc (X:Cx G) (s:DS G) (p:(c:eZ G)×DL G c.ts) (k:TV G->DS G->Option R):Option R:=
 (p.1.m p.2).bind (Sum.elim (fun w=>O8 X s p.1.i.fr.length p.1.o1 (aM X.g p.1.o1.ts w) k) (fun w=>O8 X s p.1.i.fr.length p.1.o2 (aM X.g p.1.o2.ts w) k))
def CD (X:Cx G) (rec:Rec G) (dr:Bool) (a:An) (s:DS G) (f:Nat) (xs:List (TV G)) (k:TV G->DS G->Option R):Option R:=
 if !dr&&(X.hp f||Bd xs) then (match qM X.g f xs s X.CH with
  | some p=>dhc X s p k
  | none=>(match X.fns f with | some rf=>T6 X rec rf xs a s k | none=>none)) else none
def T7 (X:Cx G) (s:DS G) (xs:List (TV G)) (p:(c:j3 G)×DL G c.ts) (k:TV G->DS G->Option R):Option R:=
 if (TV.mM xs||wM p.1.rs)&&ic (p.1.vs X.g p.2) then (p.1.m p.2).bind fun r=>k (yT (aM X.g p.1.rs r)) s else none
def T8:AV->TV G->Bool
 | .int k n,v=>(match v with | .int k' n'=>decide (k=k')&&decide (n=n') | _=>false)
 | .bool b,v=>(match v with | .bool b'=>b==b' | _=>false)
 | _,_=>false
def GH:List AV->List (TV G)->Bool
 | [],xs=>(match xs with | []=>true | _::_=>false)
 | a::as,xs=>(match xs with | x::xs=>T8 a x&&GH as xs | []=>false)
def GI (f:Nat) (xs:List (TV G)):List (Nat×List AV×AV)->Option AV
 | []=>none
 | p::r=>if Nat.beq p.1 f&&GH p.2.1 xs then some p.2.2 else GI f xs r
def Cz (X:Cx G) (s:DS G) (f:Nat) (xs ys:List (TV G)) (k:TV G->DS G->Option R) (els:Option R):Option R:=match GI f xs X.K with
 | some v=>k (uQ v) s
 | none=>(match kE X.g f ys X.C with
  | some p=>T7 X s xs p k
  | none=>els)
def CE (X:Cx G) (rec:Rec G) (dr:Bool) (a:An) (s:DS G) (f:Nat) (xs:List (TV G)) (k:TV G->DS G->Option R):Option R:=
 if dr|| !X.hp f then
  (match pE (BV s.H 6) xs with
   | some ys=>Cz X s f xs ys k (CD X rec dr a s f xs k)
   | none=>CD X rec dr a s f xs k)
 else CD X rec dr a s f xs k
def EU (l:List (Nat×TV G)):Nat->Nat->List (Nat×TV G)
 | 0,_=>[]
 | n+1,i=>(i,EV l i)::EU l n (i+1)
def zx:List Nat->List (TV G)->Nat->List (Nat×TV G)->List (Nat×TV G)
 | p::ps,x::xs,sz,l=>zx ps xs sz (if p < sz then J7 l p x else l)
 | _,_,_,l=>l
def T9 (X:Cx G) (rec:Rec G) (a:An) (s:DS G) (l:Nat) (xs:List (TV G)) (k:TV G->DS G->Option R):Option R:=match s.H[l]? with
 | some (.lp st fi)=>(match s.fr[fi]? with
  | some f=>if st= .ready/\xs.length=f.2.2.1.length/\HY s.fr.length s.H=true then
   let back:Ls->Bool->DS G->Option R:=fun y b s'=>match sV .busy y s' l with
    | some s2=>(match s2.leave s.fr.length with | some s3=>k (.bool b) s3 | none=>none)
    | none=>none
   rec f.2.2.2.1 (a.sub 0) s.H.length (s.enter f.1 (zx f.2.2.1 xs f.1 (EU f.2.1 f.1 0)) ([],.skip,.skip))
    ⟨fun s1=>(match sV .ready .busy s1 l with
     | some s2=>rec f.2.2.2.2 (a.sub 1) s.H.length s2 ⟨back .ready true,fun i=>back (.done (.exit i)) false,back (.done .ret) false⟩
     | none=>none),fun _ _=>none,fun _=>none⟩
   else none
  | none=>none)
 | _=>none
def Si:TV G->Option Nat
 | .raw v=>(match v with | .fI l=>some l | _=>none)
 | _=>none
def OQ:TV G->Option (Nat×List (TV G))
 | .fn f l=>some (f,l)
 | _=>none
def GJ:List AV->Option (List (TV G))
 | []=>some []
 | .aA id 1 0 o::r=>(match GJ r with | some l=>some (.po id o::l) | none=>none)
 | _::_=>none
def KW:TV G->Option (Nat×List (TV G))
 | .raw v=>(match v with | .b8 f q=>(match GJ q with | some l=>some (f,l) | none=>none) | _=>none)
 | _=>none
def Xe (X:Cx G) (rec:Rec G) (dr:Bool) (a:An) (s:DS G) (op:RO) (k:TV G->DS G->Option R):Option R:=match op with
 | .call f args=>CE X rec dr a s f (args.map (s.rx X.gl)) k
 | .gr x args=>(match OQ (s.rx X.gl x) with
  | some p=>CE X rec dr a s p.1 (args.map (s.rx X.gl)++p.2) k
  | none=>(match Si (s.rx X.gl x) with
   | some l=>if dr then none else T9 X rec a s l (args.map (s.rx X.gl)) k
   | none=>(match KW (s.rx X.gl x) with
    | some p=>CE X rec dr a s p.1 (p.2++args.map (s.rx X.gl)) k
    | none=>none)))
 | op=>ev X.g X.gl s s.H.length op k
def O9:Option Nat->List Nat
 | some d=>[d]
 | none=>[]
def vR (X:Cx G) (rec:Rec G) (dr:Bool) (a:An) (d:Option Nat) (op:RO) (s:DS G) (k:DS G->Option R):Option R:=match a with
 | .j _ P a=>(Xe X rec dr a s op fun v s'=>P.coll X.g (O9 d) s (s'.cZ d v)).bind fun w=>k (P.eN X.g (O9 d) s w)
 | a=>Xe X rec dr a s op fun v s'=>k (s'.cZ d v)
def Ft:TV G->Bool
 | .raw v=>(match v with | .bl l=>(match l with | []=>true | _::_=>false) | _=>false)
 | _=>false
def A1:TV G->Option Bool
 | .bool b=>some b
 | _=>none
def qE (X:Cx G) (rec:Rec G) (dr:Bool):List bH->Nat->An->DS G->(DS G->Option R)->Option R
 | [],_,_,s,k=>k s
 | o::os,i,a,s,k=>match o.guard with
  | none=>vR X rec dr (a.op i) o.dst o.op s fun s'=>qE X rec dr os (i+1) a s' k
  | some p=>(match A1 (s.get p.1) with
   | some c=>if p.2 then
    cond c (vR X rec dr (a.op i) o.dst o.op (s.rep p.1 (.bool true)) fun s'=>qE X rec dr os (i+1) a s' k) (qE X rec dr os (i+1) a ((s.rep p.1 (.bool false)).cZ o.dst (.raw (.bl []))) k)
    else
     cond c (qE X rec dr os (i+1) a ((s.rep p.1 (.bool true)).cZ o.dst (.raw (.bl []))) k) (vR X rec dr (a.op i) o.dst o.op (s.rep p.1 (.bool false)) fun s'=>qE X rec dr os (i+1) a s' k)
   | none=>if Ft (s.get p.1) then qE X rec dr os (i+1) a (s.cZ o.dst (.raw (.bl []))) k else none)
def nC (E:Env) (hp:Nat->Bool) (g:Ge G) (rec:Rec G):Prop:=∀ {R:Type} (c:RC) (a:An) (b:Nat) (s:DS G) (K:Kn G R) (r:R),rec c a b s K=some r->
 WP E hp c b (fun e σ=>∃ s':DS G,s'.st g=σ/\s'.FR g=s.FR g/\K.at e s'=some r) (s.st g)
structure Cx.Ok (X:Cx G) (E:Env):Prop where
 g:X.g.Ok
 wk:X.g.Wk
 gl:X.gl=E.aJ
 fns:X.fns=E.fns
 C:∀ c∈X.C,c.Ok E X.hp X.g
 CH:∀ c∈X.CH,c.Ok E X.hp X.g
 K:∀ p∈X.K,Pt E X.hp p.1 p.2.1 p.2.2
def CK (g:Ge G) (s:DS G) (k:TV G->DS G->Option R) (r:R) (v:AV) (H:List Obj):Prop:=∃ (w:TV G) (s':DS G),v=w.av g s'.ln/\s'.Hv g=H/\s'.tm g=s.tm g/\s'.FR g=s.FR g/\k w s'=some r
theorem Q5 {X:Cx G} {E:Env} (hX:X.Ok E) {rec:Rec G} (hr:nC E X.hp X.g rec) {f:Nat} {rf:RF} (hf:E.fns f=some rf) {xs:List (TV G)} {a:An} {s:DS G} {k:TV G->DS G->Option R} {r:R}
 (hc:X.hp f=true\/snaps (s.Hv X.g) (TV.aS X.g s.ln xs)=none) (h:T6 X rec rf xs a s k=some r):WC E X.hp false f (TV.aS X.g s.ln xs) (s.Hv X.g) (CK X.g s k r):=by
 unfold T6 at h;split at h
 case isFalse=>cases h
 rename_i hb;simp only [za0] at hb;have e1:=za3 hb.1;have e2:=zau hb.2.1;obtain ⟨k1,k2,k3⟩:=DO (g:=X.g) s rf.ntmps (fK xs 0) ([],.skip,.skip) hb.2.2;have hw:=hr _ _ _ _ _ _ h;obtain ⟨na,nt,rs,body⟩:=rf;refine Vm hf hc (by rw [dH];exact e1) e2 ?_;rw [gH];have hst:(s.enter nt (fK xs 0) ([],.skip,.skip)).st X.g=⟨⟨nt,T.kf (TV.aS X.g s.ln xs) 0⟩,s.Hv X.g⟩:=by
  show (⟨DS.tm X.g _,DS.Hv X.g _⟩:ST)=_;rw [k1,k3,lE]
 dsimp only at hw;rw [hst] at hw;have fin:∀ {s':DS G} {σ:ST},s'.st X.g=σ->s'.FR X.g=(s.enter nt (fK xs 0) ([],.skip,.skip)).FR X.g->
  (match pK X.g s' rs with
  | some l=>(match s'.leave s.fr.length with | some s2=>k (yT l) s2 | none=>none)
  | none=>none)=some r->∃ l,bP rs σ=some l/\CK X.g s k r (oneOf l) σ.H:=by
  intro s' σ h1 h2 h3;split at h3
  case h_2=>cases h3
  rename_i l hl;split at h3
  case h_2=>cases h3
  rename_i s2 yG;obtain ⟨p1,p2,p3,p4⟩:=xj (g:=X.g) yG (by rw [h2,k2]);refine ⟨TV.aS X.g s'.ln l,by rw [<-h1];exact mA hX.g hl,yT l,s2,by rw [vm,p3],?_,p1,p2,h3⟩;rw [p4,<-h1];rfl
 refine hw.mono fun e σ q=>?_
 obtain ⟨s',h1,h2,h3⟩:=q
 cases e with
 | exit i=>cases h3
 | normal=>exact fin h1 h2 h3
 | ret=>exact fin h1 h2 h3
theorem Hw {E:Env} {hp:Nat->Bool} {f:Nat} {xs:List AV} {H:List Obj} {K:AV->List Obj->Prop} (hf:hp f=true\/snaps H xs=none) {n:Nat} {v:AV} {H':List Obj} (hc:kh E.fns (ak E hp n) (some f) xs H=some (v,H')) (hk:K v H'):WC E hp false f xs H K:=by
 refine ⟨n,v,H',?_,hk⟩;unfold bK;simp only [cond_false];by_cases hp':hp f=true
 ·rw [if_pos hp'];exact hc
 ·rw [if_neg hp'];rcases hf with hf | hf
  ·exact (hp' hf).elim
  ·rw [hf];exact hc
theorem HO {X:Cx G} {E:Env} {f:Nat} {xs:List (TV G)} {s s0:DS G} {nf:Nat} {o:dJ} {l:List (TV G)} {k:TV G->DS G->Option R} {r:R} (hf:X.hp f=true\/snaps (s.Hv X.g) (TV.aS X.g s.ln xs)=none)
 (e1:s0.ln=s.ln) (e2:TV.aS X.g s.ln (vals s0.sl)=TV.aS X.g s.ln xs) (e3:s0.Hv X.g=s.Hv X.g) (e4:s0.FR X.g=(s.FR X.g).take nf)
 (hc:dJ.Is E X.hp X.g f s0 o l) (h:O8 X s nf o l k=some r):WC E X.hp false f (TV.aS X.g s.ln xs) (s.Hv X.g) (CK X.g s k r):=by
 unfold O8 at h;split at h
 case isFalse=>cases h
 rename_i hb;simp only [za0] at hb;obtain ⟨y9,EC,hb3⟩:=hb;obtain ⟨n,h1,h2⟩:=hc;rw [e1,e2,e3] at h1;have yD:(⟨s.sz,s.sl,o.mem X.g l,s.fr⟩:DS G).FR X.g=s.FR X.g:=(qe (g:=X.g) hb3);refine Hw hf h1 ⟨yT (o.res X.g l),_,by rw [vm];rfl,?_,?_,yD,h⟩
 ·show (o.mem X.g l).map (TO.av X.g (kg (o.mem X.g l)) (DS.FR X.g ⟨s.sz,s.sl,o.mem X.g l,s.fr⟩))=(o.mem X.g l).map (TO.av X.g (kg (o.mem X.g l)) (DS.FR X.g ⟨0,[],o.mem X.g l,s0.fr⟩));rw [yD,h2,e4];exact (nI (g:=X.g) (n:=nf) (fun i hi=>by rw [zb5,if_pos hi]) y9).symm
 ·show (⟨s.sz,_⟩:T)=⟨s.sz,_⟩;rw [qd (g:=X.g) (ln:=DS.ln ⟨s.sz,s.sl,o.mem X.g l,s.fr⟩) (cj:=s.ln) EC]
theorem Vz {X:Cx G} {E:Env} (hX:X.Ok E) {f:Nat} {xs:List (TV G)} {s:DS G} {p:(c:eZ G)×DL G c.ts} {k:TV G->DS G->Option R} {r:R} (hf:X.hp f=true\/snaps (s.Hv X.g) (TV.aS X.g s.ln xs)=none)
 (hp:qM X.g f xs s X.CH=some p) (h:dhc X s p k=some r):WC E X.hp false f (TV.aS X.g s.ln xs) (s.Hv X.g) (CK X.g s k r):=by
 unfold dhc at h;obtain ⟨u,h1,h2⟩:=bind_some h;obtain ⟨q1,q2,q3,q4,q5,q6,_⟩:=CS hX.g hp;have hc:=hX.CH _ q1 _ _ h1;rw [q2] at hc
 cases u with
 | inl w=>exact HO hf q3 q4 q5 q6 hc h2
 | inr w=>exact HO hf q3 q4 q5 q6 hc h2
theorem xL {X:Cx G} {E:Env} (hX:X.Ok E) {rec:Rec G} (hr:nC E X.hp X.g rec) {dr:Bool} {f:Nat} {xs:List (TV G)} {a:An} {s:DS G} {k:TV G->DS G->Option R} {r:R}
 (h:CD X rec dr a s f xs k=some r):WC E X.hp dr f (TV.aS X.g s.ln xs) (s.Hv X.g) (CK X.g s k r):=by
 unfold CD at h;split at h
 case isFalse=>cases h
 rename_i hb;simp only [za0,zaW] at hb;rw [hb.1];have hs:X.hp f=true\/snaps (s.Hv X.g) (TV.aS X.g s.ln xs)=none:=by
  rcases (zat _ _).mp hb.2 with h | h
  ·exact .inl h
  ·exact .inr (Ag h)
 split at h
 ·rename_i p hp;exact Vz hX hs hp h
 ·split at h
  case h_2=>cases h
  rename_i rf hf;rw [hX.fns] at hf;exact Q5 hX hr hf hs h
theorem Q6 {X:Cx G} {E:Env} (hX:X.Ok E) {dr:Bool} {f:Nat} {xs ys:List (TV G)} {s:DS G} {p:(c:j3 G)×DL G c.ts} {k:TV G->DS G->Option R} {r:R}
 (hd:dr=true\/X.hp f=false) (hy:pE (BV s.H 6) xs=some ys) (hp:kE X.g f ys X.C=some p) (h:T7 X s xs p k=some r):WC E X.hp dr f (TV.aS X.g s.ln xs) (s.Hv X.g) (CK X.g s k r):=by
 unfold T7 at h;split at h
 case isFalse=>cases h
 rename_i hb;rw [za0] at hb;obtain ⟨v,h1,h2⟩:=bind_some h;obtain ⟨e1,e2,e3⟩:=yo hX.g (ln:=s.ln) hp;have hpt:=hX.C _ e1 _ _ h1;rw [e2,eR (cj:=s.ln) _ hb.2,e3] at hpt;have Rq:snaps (s.Hv X.g) (TV.aS X.g s.ln xs)=some (TV.aS X.g s.ln ys):=og (fun x y e=>mm hX.g 6 e) hy;have hck:CK X.g s k r (oneOf (vN X.g p.1.rs v)) (s.Hv X.g):=⟨yT (aM X.g p.1.rs v),s,by rw [vm,ig hX.g],rfl,rfl,rfl,h2⟩;rcases (zat _ _).mp hb.1 with hf | hf
 ·have e:=ND hX.g hf Rq;rw [e] at hpt;exact Hu hd (eP hX.g s.ln xs hf) hpt hck
 ·exact Qt hd Rq hpt (FY (Ah v hf)) hck
theorem Q7 {g:Ge G} {ln:Nat->Nat}:∀ {a:AV} {v:TV G},T8 a v=true->v.av g ln=a/\a.bp 0=true:=by
 intro a v h
 cases a with
 | int k n=>cases v with
  | int k' n'=>
   have h:(decide (k=k')&&decide (n=n'))=true:=h;rw [za0,decide_eq_true_eq,decide_eq_true_eq] at h;obtain ⟨rfl,rfl⟩:=h;exact ⟨rfl,rfl⟩
  | _=>cases h
 | bool b=>cases v with
  | bool b'=>
   have h:(b==b')=true:=h;rw [eq_of_beq h];exact ⟨rfl,rfl⟩
  | _=>cases h
 | _=>cases h
theorem DP {g:Ge G} {ln:Nat->Nat}:∀ {as:List AV} {xs:List (TV G)},GH as xs=true->TV.aS g ln xs=as/\AV.aT 0 as=true
 | [],[],_=>⟨rfl,rfl⟩
 | [],_::_,h=>by cases h
 | _::_,[],h=>by cases h
 | a::as,x::xs,h=>by
  have h:(T8 a x&&GH as xs)=true:=h;rw [za0] at h;obtain ⟨h1,h2⟩:=Q7 (g:=g) (ln:=ln) h.1;obtain ⟨h3,h4⟩:=DP (g:=g) (ln:=ln) h.2;exact ⟨by rw [TV.aS,h1,h3],by rw [AV.aT,h2,h4];rfl⟩
theorem DQ {g:Ge G} {ln:Nat->Nat} {f:Nat} {xs:List (TV G)} {v:AV}:∀ {K:List (Nat×List AV×AV)},GI f xs K=some v->(f,TV.aS g ln xs,v)∈K/\AV.aT 0 (TV.aS g ln xs)=true
 | [],h=>by cases h
 | p::r,h=>by
  rw [GI] at h;split at h
  ·rename_i e;rw [za0] at e;injection h with h;subst h
   obtain ⟨h1,h2⟩:=DP (g:=g) (ln:=ln) e.2;have e1:=za3 e.1;subst e1;rw [h1];exact ⟨zb4 ..,h2⟩
  ·obtain ⟨h1,h2⟩:=DQ (g:=g) (ln:=ln) h;exact ⟨zaC _ h1,h2⟩
theorem xG {X:Cx G} {E:Env} (hX:X.Ok E) {dr:Bool} {f:Nat} {xs ys:List (TV G)} {s:DS G} {k:TV G->DS G->Option R} {els:Option R} {r:R}
 (hd:dr=true\/X.hp f=false) (hy:pE (BV s.H 6) xs=some ys) (h:Cz X s f xs ys k els=some r) (he:els=some r->WC E X.hp dr f (TV.aS X.g s.ln xs) (s.Hv X.g) (CK X.g s k r)):WC E X.hp dr f (TV.aS X.g s.ln xs) (s.Hv X.g) (CK X.g s k r):=by
 unfold Cz at h;split at h
 ·rename_i v hv;obtain ⟨hm,hb⟩:=DQ (g:=X.g) (ln:=s.ln) hv;exact Hu hd hb (hX.K _ hm) ⟨uQ v,s,(vF _ _ v).symm,rfl,rfl,rfl,h⟩
 ·split at h
  ·rename_i p hp;exact Q6 hX hd hy hp h
  ·exact he h
theorem xM {X:Cx G} {E:Env} (hX:X.Ok E) {rec:Rec G} (hr:nC E X.hp X.g rec) {dr:Bool} {f:Nat} {xs:List (TV G)} {a:An} {s:DS G} {k:TV G->DS G->Option R} {r:R}
 (h:CE X rec dr a s f xs k=some r):WC E X.hp dr f (TV.aS X.g s.ln xs) (s.Hv X.g) (CK X.g s k r):=by
 unfold CE at h;split at h
 ·rename_i hb;have hd:dr=true\/X.hp f=false:=by
   rcases (zat _ _).mp hb with h | h
   ·exact .inl h
   ·exact .inr (by simpa using h)
  split at h
  ·rename_i ys hys;exact xG hX hd hys h fun h=>xL hX hr h
  ·exact xL hX hr h
 ·exact xL hX hr h
theorem VA {E:Env} {hp:Nat->Bool} {t:T} {H:List Obj} {K:T->List Obj->Prop} {d:Option Nat} {x:RX} {args:List RX} {os:List bH} {l:Nat} (hx:gq E.aJ t x= .fI l) {n:Nat} {v:AV} {H1:List Obj}
 (h:vT (ak E hp n) (.fI l::args.map (gq E.aJ t)) H=some (v,H1)) (hk:WO E hp false os (cZ t d v) H1 K):WO E hp false (⟨d,none,.gr x args⟩::os) t H K:=by
 obtain ⟨m,t',H',h2,hq⟩:=hk;refine ⟨max n m,t',H',?_,hq⟩;rw [bg];have h3:=z6 (bM (zbp n m)) h;simp only [dn,bV,RO.kind,hx,cond_false];rw [show kh E.fns (ak E hp (max n m)) none (.fI l::args.map (gq E.aJ t)) H=some (v,H1) from h3];dsimp only;rw [eo];exact kH (dr:=false) (zbd n m) h2
theorem HP {g:Ge G} {ln:Nat->Nat} (l:List (Nat×TV G)):∀ (n i:Nat),dR g ln (EU l n i)=T.kf ((List.range' i n).map fun j=>T.fj (dR g ln l) j) i
 | 0,_=>rfl
 | n+1,i=>by
  show (i,_)::dR g ln (EU l n (i+1))=_;rw [HP l n (i+1),List.range'_succ,za5,T.kf,BF]
theorem Q8 {g:Ge G} {ln:Nat->Nat} (l:List (Nat×TV G)) (n:Nat):(⟨n,dR g ln (EU l n 0)⟩:T)=T.Rs (T.toL ⟨n,dR g ln l⟩):=by
 have h1:T.toL ⟨n,dR g ln l⟩=(List.range' 0 n).map fun j=>T.fj (dR g ln l) j:=by
  unfold T.toL;rw [zbU];rfl
 rw [h1,HP];unfold T.Rs;rw [zah,List.length_range']
theorem DR {g:Ge G} {ln:Nat->Nat}:∀ (ps:List Nat) (xs:List (TV G)) (sz:Nat) (l:List (Nat×TV G)),(⟨sz,dR g ln (zx ps xs sz l)⟩:T)=qQ ps (TV.aS g ln xs) ⟨sz,dR g ln l⟩
 | [],xs,sz,l=>by cases xs<;>rfl
 | p::ps,[],sz,l=>rfl
 | p::ps,x::xs,sz,l=>by
  rw [zx,DR ps xs,TV.aS,qQ];congr 1;unfold T.put;dsimp only;split
  ·rw [BG]
  ·rfl
theorem Q9 {X:Cx G} {E:Env} (hX:X.Ok E) {rec:Rec G} (hr:nC E X.hp X.g rec) {l:Nat} {xs:List (TV G)} {a:An} {s:DS G} {k:TV G->DS G->Option R} {r:R}
 (h:T9 X rec a s l xs k=some r):∃ n v H',vT (ak E X.hp n) (.fI l::TV.aS X.g s.ln xs) (s.Hv X.g)=some (v,H')/\CK X.g s k r v H':=by
 unfold T9 at h;split at h
 case h_2=>cases h
 rename_i st fi hl;split at h
 case h_2=>cases h
 rename_i f hf;split at h
 case isFalse=>cases h
 rename_i hc;obtain ⟨rfl,hlen,hb⟩:=hc;obtain ⟨N9,Xf,ps,as,body⟩:=f;dsimp only at h hlen;obtain ⟨k1,k2,k3⟩:=DO (g:=X.g) s N9 (zx ps xs N9 (EU Xf N9 0)) ([],.skip,.skip) hb;have yD:(s.FR X.g)[fi]?=some (⟨N9,dR X.g s.ln Xf⟩,ps,as,body):=by unfold DS.FR;rw [zay,hf];rfl
 have hH:(s.Hv X.g)[l]?=some (.lp .ready (T.toL ⟨N9,dR X.g s.ln Xf⟩) ps as body):=by
  rw [bw hl];simp only [TO.av,yD]
 obtain ⟨n1,e1,σ1,W2,s1,p1,p2,p3⟩:=hr _ _ _ _ _ _ h
 cases e1 with
 | exit i=>cases p3
 | ret=>cases p3
 | normal=>
 have p3:(match sV .ready .busy s1 l with
  | some s2=>rec body (a.sub 1) s.H.length s2 ⟨_,_,_⟩
  | none=>none)=some r:=p3
 split at p3
 case h_2=>cases p3
 rename_i s2 yG;obtain ⟨q1,q2,q3⟩:=Ai (g:=X.g) yG;obtain ⟨n2,e2,σ2,hx2,s3,r1,r2,r3⟩:=hr _ _ _ _ _ _ p3;have hst:(s.enter N9 (zx ps xs N9 (EU Xf N9 0)) ([],.skip,.skip)).st X.g=⟨qQ ps (TV.aS X.g s.ln xs) (T.Rs (T.toL ⟨N9,dR X.g s.ln Xf⟩)),s.Hv X.g⟩:=by
  show (⟨DS.tm X.g _,DS.Hv X.g _⟩:ST)=_;rw [k1,k3,DR,Q8]
 rw [hst] at W2;have hm1:=bM (zbp n1 n2) _ _ _ _ W2;have hm2:=bM (zbd n1 n2) _ _ _ _ hx2;have ZJ:s2.st X.g=⟨σ1.tmps,s2.Hv X.g⟩:=by
  rw [<-p1];show (⟨DS.tm X.g _,DS.Hv X.g _⟩:ST)=⟨s1.tm X.g,_⟩;rw [q2]
 rw [ZJ] at hm2;have J8:jH .ready .busy σ1.H l=some (s2.Hv X.g):=by rw [<-p1];exact q1
 have hF3:s3.FR X.g=s.FR X.g++[(s.tm X.g,([],.skip,.skip))]:=by rw [r2,q3,p2,k2]
 have fin:∀ {y:Ls} {bb:Bool},(match sV .busy y s3 l with
  | some s2=>(match s2.leave s.fr.length with | some s3=>k (.bool bb) s3 | none=>none)
  | none=>none)=some r->∃ H2,jH .busy y σ2.H l=some H2/\CK X.g s k r (.bool bb) H2:=by
  intro y bb h3;split at h3
  case h_2=>cases h3
  rename_i s4 hs4;split at h3
  case h_2=>cases h3
  rename_i s5 hs5;obtain ⟨u1,u2,u3⟩:=Ai (g:=X.g) hs4;obtain ⟨v1,v2,v3,v4⟩:=xj (g:=X.g) hs5 (by rw [u3,hF3]);exact ⟨s4.Hv X.g,by rw [<-r1];exact u1,.bool bb,s5,rfl,v4,v1,v2,h3⟩
 have hxl:(TV.aS X.g s.ln xs).length=ps.length:=by rw [dH];exact hlen
 cases e2 with
 | normal=>
  obtain ⟨H2,w1,w2⟩:=fin r3;refine ⟨max n1 n2,_,_,?_,w2⟩;unfold vT;dsimp only;rw [hH];dsimp only;rw [if_pos hxl,gH,hm1];dsimp only;rw [J8];dsimp only;rw [hm2];dsimp only;rw [w1]
 | exit i=>
  obtain ⟨H2,w1,w2⟩:=fin r3;refine ⟨max n1 n2,_,_,?_,w2⟩;unfold vT;dsimp only;rw [hH];dsimp only;rw [if_pos hxl,gH,hm1];dsimp only;rw [J8];dsimp only;rw [hm2];dsimp only;rw [w1]
 | ret=>
  obtain ⟨H2,w1,w2⟩:=fin r3;refine ⟨max n1 n2,_,_,?_,w2⟩;unfold vT;dsimp only;rw [hH];dsimp only;rw [if_pos hxl,gH,hm1];dsimp only;rw [J8];dsimp only;rw [hm2];dsimp only;rw [w1]
theorem NF {v:TV G} {l:Nat} (h:Si v=some l):v= .raw (.fI l):=by
 cases v with
 | raw a=>cases a<;>first | (injection h with h;subst h;rfl) | cases h
 | _=>cases h
theorem Bo {v:TV G} {p:Nat×List (TV G)} (h:OQ v=some p):v= .fn p.1 p.2:=by
 cases v with
 | fn f l=>injection h with h;subst h;rfl
 | _=>cases h
theorem DT {g:Ge G} {ln:Nat->Nat}:∀ {q:List AV} {l:List (TV G)},GJ q=some l->TV.aS g ln l=q
 | [],l,h=>by injection h with h;subst h;rfl
 | x::r,l,h=>by
  unfold GJ at h;split at h
  ·rename_i e;cases e
  ·rename_i id o r' e;injection e with e1 e2
   subst e1;subst e2;split at h
   case h_2=>cases h
   rename_i m hm;injection h with h;subst h
   rw [TV.aS,DT hm];rfl
  ·cases h
theorem NG {g:Ge G} {ln:Nat->Nat} {v:TV G} {p:Nat×List (TV G)} (h:KW v=some p):v.av g ln= .b8 p.1 (TV.aS g ln p.2):=by
 unfold KW at h;split at h
 case h_2=>cases h
 split at h
 case h_2=>cases h
 split at h
 case h_2=>cases h
 rename_i l hl;injection h with h;subst h
 show AV.b8 _ _=_;rw [DT hl]
theorem LF {X:Cx G} {E:Env} (hX:X.Ok E) {rec:Rec G} (hr:nC E X.hp X.g rec) {dr:Bool} {a:An} {s:DS G} {d:Option Nat} {op:RO} {os:List bH} {k:TV G->DS G->Option R} {r:R} {Q:T->List Obj->Prop}
 (h:Xe X rec dr a s op k=some r) (hk:∀ w s',s'.tm X.g=s.tm X.g->s'.FR X.g=s.FR X.g->k w s'=some r->WO E X.hp dr os (cZ (s'.tm X.g) d (w.av X.g s'.ln)) (s'.Hv X.g) Q):
 WO E X.hp dr (⟨d,none,op⟩::os) (s.tm X.g) (s.Hv X.g) Q:=by
 have fin:∀ {v:AV} {H:List Obj},CK X.g s k r v H->WO E X.hp dr os (cZ (s.tm X.g) d v) H Q:=by
  rintro v H ⟨w,s',rfl,rfl,h1,h2,h3⟩;have:=hk w s' h1 h2 h3;rw [h1] at this;exact this
 have mono:∀ {f:Nat} {xs:List AV},WC E X.hp dr f xs (s.Hv X.g) (CK X.g s k r)->WC E X.hp dr f xs (s.Hv X.g) (fun v H'=>WO E X.hp dr os (cZ (s.tm X.g) d v) H' Q):=by
  rintro f xs ⟨n,v,H',h1,h2⟩;exact ⟨n,v,H',h1,fin h2⟩
 have rx:=DS.mQ X.g E.aJ s;have plain:∀ {op:RO},ev X.g X.gl s s.H.length op k=some r->WO E X.hp dr (⟨d,none,op⟩::os) (s.tm X.g) (s.Hv X.g) Q:=by
  intro op h;obtain ⟨h1,w,s',h2,h3,h4,h5⟩:=R9 hX.g h;rw [hX.gl] at h2;refine Qv h1 rfl (by rw [gH];exact h2) ?_;exact fin ⟨w,s',rfl,rfl,h3,h4,h5⟩
 unfold Xe at h;split at h
 ·rename_i f args;refine Qs.2 ?_;have:=xM hX hr h;rw [hX.gl,<-DS.gL] at this;exact mono this
 ·rename_i x args;split at h
  ·rename_i p hp;have e:=Bo hp;have hx:gq E.aJ (s.tm X.g) x= .fn p.1 (TV.aS X.g s.ln p.2):=by rw [rx,<-hX.gl,e];rfl
   refine (M4 hx).2 ?_;have:=xM hX hr h;rw [kC,hX.gl,<-DS.gL] at this;exact mono this
  ·split at h
   ·rename_i l hl;split at h
    ·cases h
    rename_i hd;have e:dr=false:=by simpa using hd
    subst e;have e:=NF hl;have hx:gq E.aJ (s.tm X.g) x= .fI l:=by rw [rx,<-hX.gl,e];rfl
    obtain ⟨n,v,H',h1,h2⟩:=Q9 hX hr h;rw [hX.gl,<-DS.gL] at h1;exact VA hx h1 (fin h2)
   ·split at h
    case h_2=>cases h
    rename_i p hp;have hx:gq E.aJ (s.tm X.g) x= .b8 p.1 (TV.aS X.g s.ln p.2):=by rw [rx,<-hX.gl];exact NG hp
    refine M6 hx ?_;have:=xM hX hr h;rw [kC,hX.gl,<-DS.gL] at this;exact mono this
 ·exact plain h
theorem Hi {X:Cx G} {E:Env} (hX:X.Ok E) {rec:Rec G} (hr:nC E X.hp X.g rec) {dr:Bool} {a:An} {s:DS G} {d:Option Nat} {op:RO} {os:List bH} {k:DS G->Option R} {r:R} {Q:T->List Obj->Prop}
 (h:vR X rec dr a d op s k=some r) (hk:∀ s',s'.FR X.g=s.FR X.g->k s'=some r->WO E X.hp dr os (s'.tm X.g) (s'.Hv X.g) Q):
 WO E X.hp dr (⟨d,none,op⟩::os) (s.tm X.g) (s.Hv X.g) Q:=by
 have plain:∀ {a:An},(Xe X rec dr a s op fun v s'=>k (s'.cZ d v))=some r->WO E X.hp dr (⟨d,none,op⟩::os) (s.tm X.g) (s.Hv X.g) Q:=by
  intro a h;refine LF hX hr h fun w s' h1 h2 h3=>?_
  have:=hk _ (by rw [DS.ow,h2]) h3;rw [DS.ox,DS.rz] at this;exact this
 unfold vR at h;split at h
 ·rename_i e P a;obtain ⟨w,h1,h2⟩:=bind_some h;refine LF hX hr h1 fun u s' k1 k2 k3=>?_
  obtain ⟨q1,q2⟩:=Tm.ok hX.g k3 (fun x v hm hi=>by
   obtain ⟨g1,g2⟩:=jO (g:=X.g) (Tm.srt k3).1 hm;rw [DS.ox,k1,<-g1]
   cases d with
   | none=>rfl
   | some d=>exact iR (A:=[]) x g2) (by rw [DS.ow,k2])
  have h3:=hk _ (by rw [q2,DS.ow,k2]) h2;have e1:(P.eN X.g (O9 d) s w).tm X.g=(s'.cZ d u).tm X.g:=congrArg ST.tmps q1;have e2:(P.eN X.g (O9 d) s w).Hv X.g=(s'.cZ d u).Hv X.g:=congrArg ST.H q1;rw [e1,e2,DS.ox,DS.rz] at h3;exact h3
 ·exact plain h
theorem Ja {g:Ge G} {ln:Nat->Nat} {v:TV G} (h:Ft v=true):v.av g ln= .bl []:=by
 unfold Ft at h;split at h
 ·split at h
  ·split at h
   ·rfl
   ·cases h
  ·cases h
 ·cases h
theorem tB {v:TV G} {b:Bool} (h:A1 v=some b):v= .bool b:=by
 cases v with
 | bool c=>injection h with h;subst h;rfl
 | _=>cases h
theorem vk {X:Cx G} {E:Env} (hX:X.Ok E) {rec:Rec G} (hr:nC E X.hp X.g rec) {dr:Bool} {r:R} {Q:T->List Obj->Prop}:∀ (os:List bH) {i:Nat} {a:An} {s:DS G} {k:DS G->Option R},
 qE X rec dr os i a s k=some r->(∀ s',s'.FR X.g=s.FR X.g->k s'=some r->Q (s'.tm X.g) (s'.Hv X.g))->WO E X.hp dr os (s.tm X.g) (s.Hv X.g) Q
 | [],i,a,s,k,h,hk=>Lq.2 (hk s rfl h)
 | o::os,i,a,s,k,h,hk=>by
  obtain ⟨d,gd,op⟩:=o;rw [qE] at h;have go:∀ {s1:DS G},s1.FR X.g=s.FR X.g->vR X rec dr (a.op i) d op s1 (fun s'=>qE X rec dr os (i+1) a s' k)=some r->WO E X.hp dr (⟨d,none,op⟩::os) (s1.tm X.g) (s1.Hv X.g) Q:=by
   intro s1 hF h;exact Hi hX hr h fun s' h1 h2=>vk hX hr os h2 fun s'' h3 h4=>hk s'' (by rw [h3,h1,hF]) h4
  have skip:∀ {s1:DS G},s1.FR X.g=s.FR X.g->s1.tm X.g=s.tm X.g->s1.Hv X.g=s.Hv X.g->dn (s.tm X.g) gd=some false->qE X rec dr os (i+1) a (s1.cZ d (.raw (.bl []))) k=some r->WO E X.hp dr (⟨d,gd,op⟩::os) (s.tm X.g) (s.Hv X.g) Q:=by
   intro s1 hF ht hH hw h;have:=vk hX hr os h fun s'' h3 h4=>hk s'' (by rw [h3,DS.ow,hF]) h4
   rw [DS.ox,DS.rz,ht,hH] at this;exact Qw hw this
  cases gd with
  | none=>exact go rfl h
  | some p=>
   obtain ⟨t,b⟩:=p;dsimp only at h;have aP:(s.tm X.g).get t=(s.get t).av X.g s.ln:=DS.ie X.g s t;split at h
   ·rename_i c hc;have hv:=tB hc;rw [hv] at aP;have hw:dn (s.tm X.g) (some (t,b))=some (c==b):=by
     unfold dn;dsimp only;rw [aP];rfl
    have rp:∀ {b':Bool},c=b'->(s.rep t (.bool b')).tm X.g=s.tm X.g/\(s.rep t (.bool b')).Hv X.g=s.Hv X.g/\(s.rep t (.bool b')).FR X.g=s.FR X.g:=by
     intro b' e;subst e;exact Ly (by rw [hv])
    have run:∀ {b':Bool},c=b'->(c==b)=true->vR X rec dr (a.op i) d op (s.rep t (.bool b')) (fun s'=>qE X rec dr os (i+1) a s' k)=some r->WO E X.hp dr (⟨d,some (t,b),op⟩::os) (s.tm X.g) (s.Hv X.g) Q:=by
     intro b' e1 e2 h;obtain ⟨r1,r2,r3⟩:=rp e1;rw [e2] at hw;refine (Zs hw).2 ?_;have:=go r3 h;rw [r1,r2] at this;exact this
    have no:∀ {b':Bool},c=b'->(c==b)=false->qE X rec dr os (i+1) a ((s.rep t (.bool b')).cZ d (.raw (.bl []))) k=some r->WO E X.hp dr (⟨d,some (t,b),op⟩::os) (s.tm X.g) (s.Hv X.g) Q:=by
     intro b' e1 e2 h;obtain ⟨r1,r2,r3⟩:=rp e1;rw [e2] at hw;exact skip r3 r1 r2 hw h
    cases b with
    | true=>
     simp only [if_true] at h
     cases c with
     | true=>exact run rfl rfl h
     | false=>exact no rfl rfl h
    | false=>
     simp only [za8,if_false] at h
     cases c with
     | true=>exact no rfl rfl h
     | false=>exact run rfl rfl h
   ·split at h
    case isFalse=>cases h
    rename_i h0;refine skip (s1:=s) rfl rfl rfl ?_ h;unfold dn;dsimp only;rw [aP,Ja h0]
def jn (g:Ge G) (A:List Nat) (f:{R:Type}->An->DS G->Kn G R->Option R):{R:Type}->An->DS G->Kn G R->Option R
 | R,.j e P a,s,K=>(match e with
  | true=>(jn g A f a s (⟨fun s'=>(P.coll g A s s').map .inl,fun i s'=>(K.x i s').map .inr,fun s'=>(K.r s').map .inr⟩:Kn G (DL G P.ts⊕R))).bind (Sum.elim (fun w=>K.n (P.eN g A s w)) some)
  | false=>(jn g A f a s (⟨fun s'=>P.coll g A s s',fun _ _=>none,fun _=>none⟩:Kn G (DL G P.ts))).bind fun w=>K.n (P.eN g A s w))
 | _,.z,_,_=>none
 | _,a,s,K=>f a s K
def SL (f:{R:Type}->An->DS G->Kn G R->Option R):List An->{R:Type}->DS G->Kn G R->Option R
 | [],_,_,_=>none
 | a::l,_,s,K=>f a s ⟨fun s'=>SL f l s' K,K.x,K.r⟩
def dlp (g:Ge G) (A:List Nat) (f:{R:Type}->An->DS G->Kn G R->Option R):{R:Type}->An->DS G->Kn G R->Option R
 | R,.l e i P B a,s,K=>(match P.coll g A s s with
  | some w0=>(match e with
   | true=>(iter (fun w=>f a (P.eN g A s w) (⟨fun s'=>(P.coll g A s s').map .inl,fun j s'=>bif Nat.beq j i then (B.coll g A s s').map fun v=> .inr (.inl v) else (K.x j s').map fun r=> .inr (.inr r),fun s'=>(K.r s').map fun r=> .inr (.inr r)⟩:Kn G (DL G P.ts⊕(DL G B.ts⊕R)))) w0).bind (Sum.elim (fun v=>K.x i (B.eN g A s v)) some)
   | false=>(iter (fun w=>f a (P.eN g A s w) (⟨fun s'=>(P.coll g A s s').map .inl,fun j s'=>bif Nat.beq j i then (B.coll g A s s').map .inr else none,fun _=>none⟩:Kn G (DL G P.ts⊕DL G B.ts))) w0).bind fun v=>K.x i (B.eN g A s v))
  | none=>none)
 | _,.u l,s,K=>SL f l s K
 | _,_,_,_=>none
def Sat (E:Env) (hp:Nat->Bool) (g:Ge G) (c:RC) (b:Nat) (s:DS G) (K:Kn G R) (r:R):Prop:=WP E hp c b (fun e σ=>∃ s':DS G,s'.st g=σ/\s'.FR g=s.FR g/\K.at e s'=some r) (s.st g)
theorem nD {E:Env} {hp:Nat->Bool} {g:Ge G} (hg:g.Ok) {c:RC} {b:Nat} {f:{R:Type}->An->DS G->Kn G R->Option R} (hf:∀ {R:Type} (a:An) (s:DS G) (K:Kn G R) (r:R),f a s K=some r->Sat E hp g c b s K r):
 ∀ (a:An) {R:Type} (s:DS G) (K:Kn G R) (r:R),jn g (b6 c) f a s K=some r->Sat E hp g c b s K r
 | .j e P a,R,s,K,r,h=>by
  have reach:∀ {w:DL G P.ts} {s':DS G},P.coll g (b6 c) s s'=some w->bJ (b6 c) (s.tm g) (s'.tm g)->s'.FR g=s.FR g->(P.eN g (b6 c) s w).st g=s'.st g/\(P.eN g (b6 c) s w).FR g=s.FR g:=by
   intro w s' h1 h2 h3;obtain ⟨q1,q2⟩:=Tm.ok hg h1 (fun x u hm hi=>by
    obtain ⟨g1,g2⟩:=jO (g:=g) (Tm.srt h1).1 hm;rw [<-g1];exact h2 x g2) h3
   exact ⟨q1,by rw [q2,h3]⟩
  cases e with
  | true=>
   have h:(jn g (b6 c) f a s (⟨fun s'=>(P.coll g (b6 c) s s').map .inl,fun i s'=>(K.x i s').map .inr,fun s'=>(K.r s').map .inr⟩:Kn G (DL G P.ts⊕R))).bind (Sum.elim (fun w=>K.n (P.eN g (b6 c) s w)) some)=some r:=h;obtain ⟨z,h1,h2⟩:=bind_some h;have ih:=nD hg hf a _ _ _ h1;refine (oq ih).mono ?_;rintro e σ ⟨⟨s',p1,p2,p3⟩,hk⟩;subst p1
   cases e with
   | normal=>
    obtain ⟨w,q1,q2⟩:=map_some p3;subst q2;obtain ⟨k1,k2⟩:=reach q1 (hk nofun) p2;exact ⟨_,k1,k2,h2⟩
   | exit i=>
    obtain ⟨w,q1,q2⟩:=map_some p3;subst q2;have h2:some w=some r:=h2;injection h2 with h2;subst h2
    exact ⟨s',rfl,p2,q1⟩
   | ret=>
    obtain ⟨w,q1,q2⟩:=map_some p3;subst q2;have h2:some w=some r:=h2;injection h2 with h2;subst h2
    exact ⟨s',rfl,p2,q1⟩
  | false=>
   have h:(jn g (b6 c) f a s (⟨fun s'=>P.coll g (b6 c) s s',fun _ _=>none,fun _=>none⟩:Kn G (DL G P.ts))).bind (fun w=>K.n (P.eN g (b6 c) s w))=some r:=h;obtain ⟨w,h1,h2⟩:=bind_some h;have ih:=nD hg hf a _ _ _ h1;refine (oq ih).mono ?_;rintro e σ ⟨⟨s',p1,p2,p3⟩,hk⟩;subst p1
   cases e with
   | normal=>
    obtain ⟨k1,k2⟩:=reach p3 (hk nofun) p2;exact ⟨_,k1,k2,h2⟩
   | exit i=>cases p3
   | ret=>cases p3
 | .n,R,s,K,r,h=>hf _ _ _ _ h
 | .l ..,R,s,K,r,h=>hf _ _ _ _ h
 | .s _,R,s,K,r,h=>hf _ _ _ _ h
 | .o _,R,s,K,r,h=>hf _ _ _ _ h
 | .u _,R,s,K,r,h=>hf _ _ _ _ h
 | .z,R,s,K,r,h=>by cases h
theorem xN {E:Env} {hp:Nat->Bool} {p:RC} {b:Nat} {Q:Ex->ST->Prop} {s:ST} (h:WP E hp p b (fun e s'=>match e with | .normal=>WP E hp (.loop p) b Q s' | .exit j=>Q (.exit j) s' | .ret=>Q .ret s') s):WP E hp (.loop p) b Q s:=by
 obtain ⟨n,e,s1,h1,hq⟩:=h
 cases e with
 | normal=>
  obtain ⟨n2,e2,s2,h2,hq2⟩:=hq;refine ⟨max n n2+1,e2,s2,?_,hq2⟩;rw [ak,bM (zbp n n2) _ _ _ _ h1];exact bM (zbd n n2) _ _ _ _ h2
 | exit j=>exact ⟨n+1,_,_,by rw [ak,h1],hq⟩
 | ret=>exact ⟨n+1,_,_,by rw [ak,h1],hq⟩
theorem Fu {E:Env} {hp:Nat->Bool} {g:Ge G} {c:RC} {b:Nat} {f:{R:Type}->An->DS G->Kn G R->Option R} (hf:∀ {R:Type} (a:An) (s:DS G) (K:Kn G R) (r:R),f a s K=some r->Sat E hp g c b s K r):
 ∀ (l:List An) {R:Type} {s:DS G} {K:Kn G R} {r:R},SL f l s K=some r->Sat E hp g (.loop c) b s K r
 | [],R,s,K,r,h=>by cases h
 | a::l,R,s,K,r,h=>by
  rw [SL] at h;refine xN ((hf _ _ _ _ h).mono ?_);rintro e σ ⟨s',p1,p2,p3⟩
  cases e with
  | normal=>
   have p3:SL f l s' K=some r:=p3;subst p1;refine (Fu hf l p3).mono ?_;rintro e2 σ2 ⟨s2,q1,q2,q3⟩;exact ⟨s2,q1,by rw [q2,p2],q3⟩
  | exit j=>exact ⟨s',p1,p2,p3⟩
  | ret=>exact ⟨s',p1,p2,p3⟩
theorem lR {E:Env} {hp:Nat->Bool} {p:RC} {b:Nat} {Q:Ex->ST->Prop} {σ ρ:Type} {body:σ->Option (σ⊕ρ)} (st:σ->ST) (I:σ->Prop) {z:ρ}
 (h:∀ w y,I w->body w=some y->WP E hp p b (fun e s'=>match e with
  | .normal=>∃ w',y= .inl w'/\I w'/\st w'=s'
  | .exit j=>∃ x,y= .inr x/\(x=z->Q (.exit j) s')
  | .ret=>∃ x,y= .inr x/\(x=z->Q .ret s')) (st w)):∀ (n:Nat) (w:σ),I w->ki body n w=some z->WP E hp (.loop p) b Q (st w)
 | 0,w,hI,e=>by simp [ki] at e
 | n+1,w,hI,e=>by
  rw [ki] at e;split at e
  ·cases e
  ·rename_i w' hb;refine xN ((h w _ hI hb).mono fun ex s' q=>?_)
   cases ex with
   | normal=>
    obtain ⟨w2,e1,e2,e3⟩:=q;injection e1 with e1;subst e1;subst e3
    exact lR st I h n _ e2 e
   | exit j=>obtain ⟨x,e1,_⟩:=q;cases e1
   | ret=>obtain ⟨x,e1,_⟩:=q;cases e1
  ·rename_i x hb;injection e with e;subst e
   refine xN ((h w _ hI hb).mono fun ex s' q=>?_)
   cases ex with
   | normal=>obtain ⟨w2,e1,_⟩:=q;cases e1
   | exit j=>obtain ⟨y,e1,e2⟩:=q;injection e1 with e1;exact e2 e1.symm
   | ret=>obtain ⟨y,e1,e2⟩:=q;injection e1 with e1;exact e2 e1.symm
theorem UH {E:Env} {hp:Nat->Bool} {g:Ge G} (hg:g.Ok) {c:RC} {b:Nat} {f:{R:Type}->An->DS G->Kn G R->Option R} (hf:∀ {R:Type} (a:An) (s:DS G) (K:Kn G R) (r:R),f a s K=some r->Sat E hp g c b s K r)
 {a:An} {s:DS G} {K:Kn G R} {r:R} (h:dlp g (b6 c) f a s K=some r):Sat E hp g (.loop c) b s K r:=by
 cases a with
 | l e i P B a=>
  unfold dlp at h;dsimp only at h;split at h
  case h_2=>cases h
  rename_i w0 hw0;let I:DL G P.ts->Prop:=fun w=>(P.eN g (b6 c) s w).FR g=s.FR g/\bJ (b6 c) (s.tm g) ((P.eN g (b6 c) s w).tm g)
  have hs:=(Tm.srt hw0).1;have first:(P.eN g (b6 c) s w0).st g=s.st g/\I w0:=by
   obtain ⟨q1,q2⟩:=Tm.ok hg hw0 (fun x u hm hi=>(jO (g:=g) hs hm).1) rfl;have e:(P.eN g (b6 c) s w0).tm g=s.tm g:=congrArg ST.tmps q1;exact ⟨q1,q2,by rw [e];exact bJ.refl⟩
  have next:∀ {T:Tm} {w:DL G P.ts} {v:DL G T.ts} {s':DS G},I w->T.coll g (b6 c) s s'=some v->bJ (b6 c) ((P.eN g (b6 c) s w).tm g) (s'.tm g)->s'.FR g=(P.eN g (b6 c) s w).FR g->
   (T.eN g (b6 c) s v).st g=s'.st g/\(T.eN g (b6 c) s v).FR g=s.FR g/\bJ (b6 c) (s.tm g) ((T.eN g (b6 c) s v).tm g):=by
   intro T w v s' hI h1 h2 h3;have hk:=hI.2.trans h2;obtain ⟨q1,q2⟩:=Tm.ok hg h1 (fun x u hm hi=>by
    obtain ⟨g1,g2⟩:=jO (g:=g) hs hm;rw [<-g1];exact hk x g2) (by rw [h3,hI.1])
   have e:(T.eN g (b6 c) s v).tm g=s'.tm g:=congrArg ST.tmps q1;exact ⟨q1,by rw [q2,h3,hI.1],by rw [e];exact hk⟩
  unfold Sat;rw [<-first.1]
  cases e with
  | true=>
   obtain ⟨z,h1,h2⟩:=bind_some h;refine lR (fun w=>(P.eN g (b6 c) s w).st g) I (fun w y hI hb=>?_) _ _ first.2 h1
   refine (oq (hf _ _ _ _ hb)).mono ?_;rintro ex σ ⟨⟨s',p1,p2,p3⟩,hk⟩;subst p1
   cases ex with
   | normal=>
    obtain ⟨w',q1,q2⟩:=map_some p3;obtain ⟨n1,n2,n3⟩:=next hI q1 (hk nofun) p2
    exact ⟨w',q2.symm,⟨n2,n3⟩,n1⟩
   | exit j=>
    have p3:(bif Nat.beq j i then (B.coll g (b6 c) s s').map fun v=> .inr (.inl v) else (K.x j s').map fun r=> .inr (.inr r))=some y:=p3
    cases hj:Nat.beq j i with
    | true=>
     rw [hj] at p3;obtain ⟨v,q1,q2⟩:=map_some p3;have ej:=za3 hj;subst ej;refine ⟨.inl v,q2.symm,fun e=>?_⟩;subst e;obtain ⟨n1,n2,_⟩:=next hI q1 (hk nofun) p2
     exact ⟨_,n1,n2,h2⟩
    | false=>
     rw [hj] at p3;obtain ⟨v,q1,q2⟩:=map_some p3;refine ⟨.inr v,q2.symm,fun e=>?_⟩;subst e;have h2:some v=some r:=h2;injection h2 with h2;subst h2
     exact ⟨s',rfl,by rw [p2,hI.1],q1⟩
   | ret=>
    obtain ⟨v,q1,q2⟩:=map_some p3;refine ⟨.inr v,q2.symm,fun e=>?_⟩;subst e;have h2:some v=some r:=h2;injection h2 with h2;subst h2
    exact ⟨s',rfl,by rw [p2,hI.1],q1⟩
  | false=>
   obtain ⟨z,h1,h2⟩:=bind_some h;refine lR (fun w=>(P.eN g (b6 c) s w).st g) I (fun w y hI hb=>?_) _ _ first.2 h1
   refine (oq (hf _ _ _ _ hb)).mono ?_;rintro ex σ ⟨⟨s',p1,p2,p3⟩,hk⟩;subst p1
   cases ex with
   | normal=>
    obtain ⟨w',q1,q2⟩:=map_some p3;obtain ⟨n1,n2,n3⟩:=next hI q1 (hk nofun) p2
    exact ⟨w',q2.symm,⟨n2,n3⟩,n1⟩
   | exit j=>
    have p3:(bif Nat.beq j i then (B.coll g (b6 c) s s').map .inr else none)=some y:=p3
    cases hj:Nat.beq j i with
    | true=>
     rw [hj] at p3;obtain ⟨v,q1,q2⟩:=map_some p3;have ej:=za3 hj;subst ej;refine ⟨v,q2.symm,fun e=>?_⟩;subst e;obtain ⟨n1,n2,_⟩:=next hI q1 (hk nofun) p2
     exact ⟨_,n1,n2,h2⟩
    | false=>rw [hj] at p3;cases p3
   | ret=>cases p3
 | u l=>exact Fu hf l h
 | _=>cases h
def dlg (g:Ge G) (A:List Nat) (b i:Nat) (post:List GA) (f:{R:Type}->An->DS G->Kn G R->Option R):{R:Type}->An->DS G->Kn G R->Option R
 | R,.l e _ P B a,s,K=>(match P.coll g A s s with
  | some w0=>(match e with
   | true=>(iter (fun w=>f a (P.eN g A s w) (⟨fun s'=>(P.coll g A s s').map .inl,fun j s'=>bif Nat.beq j i then (match Eo g b post s' with | some s2=>(B.coll g (A++qA post) s s2).map fun v=> .inr (.inl v) | none=>none) else (K.x j s').map fun r=> .inr (.inr r),fun s'=>(K.r s').map fun r=> .inr (.inr r)⟩:Kn G (DL G P.ts⊕(DL G B.ts⊕R)))) w0).bind (Sum.elim (fun v=>K.n (B.eN g (A++qA post) s v)) some)
   | false=>(iter (fun w=>f a (P.eN g A s w) (⟨fun s'=>(P.coll g A s s').map .inl,fun j s'=>bif Nat.beq j i then (match Eo g b post s' with | some s2=>(B.coll g (A++qA post) s s2).map .inr | none=>none) else none,fun _=>none⟩:Kn G (DL G P.ts⊕DL G B.ts))) w0).bind fun v=>K.n (B.eN g (A++qA post) s v))
  | none=>none)
 | _,.u l,s,K=>SL f l s ⟨fun _=>none,fun j s'=>bif Nat.beq j i then (match Eo g b post s' with | some s2=>K.n s2 | none=>none) else K.x j s',K.r⟩
 | _,_,_,_=>none
theorem UJ {E:Env} {hp:Nat->Bool} {g:Ge G} (hg:g.Ok) (hw:g.Wk) {c:RC} {b i:Nat} {post:List GA} {f:{R:Type}->An->DS G->Kn G R->Option R} (hf:∀ {R:Type} (a:An) (s:DS G) (K:Kn G R) (r:R),f a s K=some r->Sat E hp g c b s K r)
 {a:An} {s:DS G} {K:Kn G R} {r:R} (h:dlg g (b6 c) b i post f a s K=some r):Sat E hp g (.gh [] (.block i (.loop c)) post) b s K r:=by
 cases a with
 | l e _ P B a=>
  unfold dlg at h;dsimp only at h;split at h
  case h_2=>cases h
  rename_i w0 hw0;let I:DL G P.ts->Prop:=fun w=>(P.eN g (b6 c) s w).FR g=s.FR g/\bJ (b6 c) (s.tm g) ((P.eN g (b6 c) s w).tm g)
  have hs:=(Tm.srt hw0).1;have first:(P.eN g (b6 c) s w0).st g=s.st g/\I w0:=by
   obtain ⟨q1,q2⟩:=Tm.ok hg hw0 (fun x u hm hi=>(jO (g:=g) hs hm).1) rfl;have e:(P.eN g (b6 c) s w0).tm g=s.tm g:=congrArg ST.tmps q1;exact ⟨q1,q2,by rw [e];exact bJ.refl⟩
  have next:∀ {w:DL G P.ts} {v:DL G P.ts} {s':DS G},I w->P.coll g (b6 c) s s'=some v->bJ (b6 c) ((P.eN g (b6 c) s w).tm g) (s'.tm g)->s'.FR g=(P.eN g (b6 c) s w).FR g->
   (P.eN g (b6 c) s v).st g=s'.st g/\(P.eN g (b6 c) s v).FR g=s.FR g/\bJ (b6 c) (s.tm g) ((P.eN g (b6 c) s v).tm g):=by
   intro w v s' hI h1 h2 h3;have hk:=hI.2.trans h2;obtain ⟨q1,q2⟩:=Tm.ok hg h1 (fun x u hm hi=>by
    obtain ⟨g1,g2⟩:=jO (g:=g) hs hm;rw [<-g1];exact hk x g2) (by rw [h3,hI.1])
   have e:(P.eN g (b6 c) s v).tm g=s'.tm g:=congrArg ST.tmps q1;exact ⟨q1,by rw [q2,h3,hI.1],by rw [e];exact hk⟩
  have last:∀ {w:DL G P.ts} {v:DL G B.ts} {s' s2:DS G},I w->Eo g b post s'=some s2->B.coll g (b6 c++qA post) s s2=some v->bJ (b6 c) ((P.eN g (b6 c) s w).tm g) (s'.tm g)->s'.FR g=(P.eN g (b6 c) s w).FR g->
   cN b post (s'.st g)=some ((B.eN g (b6 c++qA post) s v).st g)/\(B.eN g (b6 c++qA post) s v).FR g=s.FR g:=by
   intro w v s' s2 hI h0 h1 h2 h3;obtain ⟨g3,g4⟩:=AZ hg hw h0;have hk:bJ (b6 c++qA post) (s.tm g) (s2.tm g):=(hI.2.trans h2).yU.trans (bJ.AN (rm g3));obtain ⟨q1,q2⟩:=Tm.ok hg h1 (fun x u hm hi=>by
    obtain ⟨g1,g2⟩:=jO (g:=g) hs hm;rw [<-g1];exact hk x g2) (by rw [g4,h3,hI.1])
   exact ⟨by rw [g3,q1],by rw [q2,g4,h3,hI.1]⟩
  unfold Sat;refine Kq.2 ?_;show WP E hp (.block i (.loop c)) b _ (s.st g);refine xk.2 ?_;rw [<-first.1]
  cases e with
  | true=>
   obtain ⟨z,h1,h2⟩:=bind_some h;refine lR (fun w=>(P.eN g (b6 c) s w).st g) I (fun w y hI hb=>?_) _ _ first.2 h1
   refine (oq (hf _ _ _ _ hb)).mono ?_;rintro ex σ ⟨⟨s',p1,p2,p3⟩,hk⟩;subst p1
   cases ex with
   | normal=>
    obtain ⟨w',q1,q2⟩:=map_some p3;obtain ⟨n1,n2,n3⟩:=next hI q1 (hk nofun) p2
    exact ⟨w',q2.symm,⟨n2,n3⟩,n1⟩
   | exit j=>
    have p3:(bif Nat.beq j i then (match Eo g b post s' with | some s2=>(B.coll g (b6 c++qA post) s s2).map fun v=> .inr (.inl v) | none=>none) else (K.x j s').map fun r=> .inr (.inr r))=some y:=p3
    cases hj:Nat.beq j i with
    | true=>
     rw [hj] at p3;have p3:(match Eo g b post s' with | some s2=>(B.coll g (b6 c++qA post) s s2).map fun v=> .inr (.inl v) | none=>none)=some y:=p3;split at p3
     case h_2=>cases p3
     rename_i s2 yG;obtain ⟨v,q1,q2⟩:=map_some p3;have ej:=za3 hj;subst ej;refine ⟨.inl v,q2.symm,fun e=>?_⟩;subst e;obtain ⟨n1,n2⟩:=last hI yG q1 (hk nofun) p2;dsimp only;rw [if_pos rfl,n1];exact ⟨_,rfl,n2,h2⟩
    | false=>
     rw [hj] at p3;obtain ⟨v,q1,q2⟩:=map_some p3;refine ⟨.inr v,q2.symm,fun e=>?_⟩;subst e;have h2:some v=some r:=h2;injection h2 with h2;subst h2
     dsimp only;rw [if_neg (by rintro rfl;rw [show Nat.beq j j=true from Nat.beq_refl j] at hj;cases hj)];exact ⟨s',rfl,by rw [p2,hI.1],q1⟩
   | ret=>
    obtain ⟨v,q1,q2⟩:=map_some p3;refine ⟨.inr v,q2.symm,fun e=>?_⟩;subst e;have h2:some v=some r:=h2;injection h2 with h2;subst h2
    exact ⟨s',rfl,by rw [p2,hI.1],q1⟩
  | false=>
   obtain ⟨z,h1,h2⟩:=bind_some h;refine lR (fun w=>(P.eN g (b6 c) s w).st g) I (fun w y hI hb=>?_) _ _ first.2 h1
   refine (oq (hf _ _ _ _ hb)).mono ?_;rintro ex σ ⟨⟨s',p1,p2,p3⟩,hk⟩;subst p1
   cases ex with
   | normal=>
    obtain ⟨w',q1,q2⟩:=map_some p3;obtain ⟨n1,n2,n3⟩:=next hI q1 (hk nofun) p2
    exact ⟨w',q2.symm,⟨n2,n3⟩,n1⟩
   | exit j=>
    have p3:(bif Nat.beq j i then (match Eo g b post s' with | some s2=>(B.coll g (b6 c++qA post) s s2).map .inr | none=>none) else none)=some y:=p3
    cases hj:Nat.beq j i with
    | true=>
     rw [hj] at p3;have p3:(match Eo g b post s' with | some s2=>(B.coll g (b6 c++qA post) s s2).map .inr | none=>none)=some y:=p3;split at p3
     case h_2=>cases p3
     rename_i s2 yG;obtain ⟨v,q1,q2⟩:=map_some p3;have ej:=za3 hj;subst ej;refine ⟨v,q2.symm,fun e=>?_⟩;subst e;obtain ⟨n1,n2⟩:=last hI yG q1 (hk nofun) p2;dsimp only;rw [if_pos rfl,n1];exact ⟨_,rfl,n2,h2⟩
    | false=>rw [hj] at p3;cases p3
   | ret=>cases p3
 | u l=>
  have h:SL f l s ⟨fun _=>none,fun j s'=>bif Nat.beq j i then (match Eo g b post s' with | some s2=>K.n s2 | none=>none) else K.x j s',K.r⟩=some r:=h;have hw1:=Fu hf l h;unfold Sat;refine Kq.2 ?_;show WP E hp (.block i (.loop c)) b _ (s.st g);refine xk.2 ?_;refine hw1.mono ?_;rintro e σ ⟨s',p1,p2,p3⟩;subst p1
  cases e with
  | normal=>cases p3
  | exit j=>
   have p3:(bif Nat.beq j i then (match Eo g b post s' with | some s2=>K.n s2 | none=>none) else K.x j s')=some r:=p3
   cases hj:Nat.beq j i with
   | true=>
    rw [hj] at p3;have p4:(match Eo g b post s' with | some s2=>K.n s2 | none=>none)=some r:=p3
    cases yG:Eo g b post s' with
    | none=>rw [yG] at p4;cases p4
    | some s2=>
     rw [yG] at p4;obtain ⟨g3,g4⟩:=AZ hg hw yG;have ej:=za3 hj;dsimp only;rw [if_pos ej,g3];exact ⟨s2,rfl,by rw [g4,p2],p4⟩
   | false=>
    rw [hj] at p3;have p3:K.x j s'=some r:=p3;have ej:¬ j=i:=Nat.ne_of_beq_eq_false hj;dsimp only;rw [if_neg ej];exact ⟨s',rfl,p2,p3⟩
  | ret=>exact ⟨s',rfl,p2,p3⟩
 | _=>cases h
end
end oZ
