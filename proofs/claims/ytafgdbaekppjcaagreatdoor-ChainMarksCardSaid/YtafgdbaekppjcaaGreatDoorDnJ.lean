/- Typed states: code, and that the machine does it. No condition. -/
import Derived.Test.YtafgdbaekppjcaaGreatDoorDnI
set_option linter.unusedSectionVars false
set_option linter.unusedVariables false
set_option linter.unusedSimpArgs false
namespace nT
open Go hiding Obj mark
open Go.Pl Go.Am Go.Am.As
set_option linter.unusedVariables false
structure Cx (G:Nat->Type) where
 g:Ge G
 gl:Nat->List AV
 fns:Nat->Option RF
 hp:Nat->Bool
 C:List (b7 G)
 CH:List (eE G)
 K:List (Nat×List AV×AV)
section
variable {G:Nat->Type} {R:Type}
def QZ (X:Cx G) (rec:Rec G) (rf:RF) (xs:List (TV G)) (a:An) (s:DS G) (k:TV G->DS G->Option R):Option R:=
 if Nat.beq xs.length rf.nargs&&(Nat.ble rf.nargs rf.ntmps&&FD s.fr.length s.H) then
  let ret:DS G->Option R:=fun s'=>match oq X.g s' rf.results with
   | some l=>(match s'.leave s.fr.length with | some s2=>k (wM l) s2 | none=>none)
   | none=>none
  rec rf.body a s.H.length (s.enter rf.ntmps (eX xs 0) ([],.skip,.skip)) ⟨ret,fun _ _=>none,ret⟩
 else none
def Mu (X:Cx G) (s:DS G) (nf:Nat) (o:dj) (l:List (TV G)) (k:TV G->DS G->Option R):Option R:=
 if FD nf (o.mem X.g l)&&(pM s.sl&&pN s.fr) then k (wM (o.res X.g l)) ⟨s.sz,s.sl,o.mem X.g l,s.fr⟩ else none
def Yu (X:Cx G) (s:DS G) (p:(c:eE G)×DL G c.ts) (k:TV G->DS G->Option R):Option R:=
 (p.1.m p.2).bind (Sum.elim (fun w=>Mu X s p.1.i.fr.length p.1.o1 (aL X.g p.1.o1.ts w) k) (fun w=>Mu X s p.1.i.fr.length p.1.o2 (aL X.g p.1.o2.ts w) k))
def AP (X:Cx G) (rec:Rec G) (dr:Bool) (a:An) (s:DS G) (f:Nat) (xs:List (TV G)) (k:TV G->DS G->Option R):Option R:=
 if !dr&&(X.hp f||zh xs) then (match pF X.g f xs s X.CH with
  | some p=>Yu X s p k
  | none=>(match X.fns f with | some rf=>QZ X rec rf xs a s k | none=>none)) else none
def Q0 (X:Cx G) (s:DS G) (xs:List (TV G)) (p:(c:b7 G)×DL G c.ts) (k:TV G->DS G->Option R):Option R:=
 if (TV.lD xs||uA p.1.rs)&&gF (p.1.vs X.g p.2) then (p.1.m p.2).bind fun r=>k (wM (aL X.g p.1.rs r)) s else none
def Q1:AV->TV G->Bool
 | .int k n,v=>(match v with | .int k' n'=>decide (k=k')&&decide (n=n') | _=>false)
 | .bool b,v=>(match v with | .bool b'=>b==b' | _=>false)
 | _,_=>false
def Ev:List AV->List (TV G)->Bool
 | [],xs=>(match xs with | []=>true | _::_=>false)
 | a::as,xs=>(match xs with | x::xs=>Q1 a x&&Ev as xs | []=>false)
def Ew (f:Nat) (xs:List (TV G)):List (Nat×List AV×AV)->Option AV
 | []=>none
 | p::r=>if Nat.beq p.1 f&&Ev p.2.1 xs then some p.2.2 else Ew f xs r
def AK (X:Cx G) (s:DS G) (f:Nat) (xs ys:List (TV G)) (k:TV G->DS G->Option R) (els:Option R):Option R:=match Ew f xs X.K with
 | some v=>k (sV v) s
 | none=>(match jP X.g f ys X.C with
  | some p=>Q0 X s xs p k
  | none=>els)
def AQ (X:Cx G) (rec:Rec G) (dr:Bool) (a:An) (s:DS G) (f:Nat) (xs:List (TV G)) (k:TV G->DS G->Option R):Option R:=
 if dr|| !X.hp f then
  (match od (z9 s.H 6) xs with
   | some ys=>AK X s f xs ys k (AP X rec dr a s f xs k)
   | none=>AP X rec dr a s f xs k)
 else AP X rec dr a s f xs k
def C2 (l:List (Nat×TV G)):Nat->Nat->List (Nat×TV G)
 | 0,_=>[]
 | n+1,i=>(i,C4 l i)::C2 l n (i+1)
def xp:List Nat->List (TV G)->Nat->List (Nat×TV G)->List (Nat×TV G)
 | p::ps,x::xs,sz,l=>xp ps xs sz (if p < sz then HB l p x else l)
 | _,_,_,l=>l
def Q2 (X:Cx G) (rec:Rec G) (a:An) (s:DS G) (l:Nat) (xs:List (TV G)) (k:TV G->DS G->Option R):Option R:=match s.H[l]? with
 | some (.lp st fi)=>(match s.fr[fi]? with
  | some f=>if st= .ready/\xs.length=f.2.2.1.length/\FD s.fr.length s.H=true then
   let back:Ls->Bool->DS G->Option R:=fun y b s'=>match rm .busy y s' l with
    | some s2=>(match s2.leave s.fr.length with | some s3=>k (.bool b) s3 | none=>none)
    | none=>none
   rec f.2.2.2.1 (a.sub 0) s.H.length (s.enter f.1 (xp f.2.2.1 xs f.1 (C2 f.2.1 f.1 0)) ([],.skip,.skip))
    ⟨fun s1=>(match rm .ready .busy s1 l with
     | some s2=>rec f.2.2.2.2 (a.sub 1) s.H.length s2 ⟨back .ready true,fun i=>back (.done (.exit i)) false,back (.done .ret) false⟩
     | none=>none),fun _ _=>none,fun _=>none⟩
   else none
  | none=>none)
 | _=>none
def Pp:TV G->Option Nat
 | .raw v=>(match v with | .eI l=>some l | _=>none)
 | _=>none
def Mh:TV G->Option (Nat×List (TV G))
 | .fn f l=>some (f,l)
 | _=>none
def Ey:List AV->Option (List (TV G))
 | []=>some []
 | .ax id 1 0 o::r=>(match Ey r with | some l=>some (.po id o::l) | none=>none)
 | _::_=>none
def Iz:TV G->Option (Nat×List (TV G))
 | .raw v=>(match v with | .bL f q=>(match Ey q with | some l=>some (f,l) | none=>none) | _=>none)
 | _=>none
def TX (X:Cx G) (rec:Rec G) (dr:Bool) (a:An) (s:DS G) (op:RO) (k:TV G->DS G->Option R):Option R:=match op with
 | .call f args=>AQ X rec dr a s f (args.map (s.rx X.gl)) k
 | .fJ x args=>(match Mh (s.rx X.gl x) with
  | some p=>AQ X rec dr a s p.1 (args.map (s.rx X.gl)++p.2) k
  | none=>(match Pp (s.rx X.gl x) with
   | some l=>if dr then none else Q2 X rec a s l (args.map (s.rx X.gl)) k
   | none=>(match Iz (s.rx X.gl x) with
    | some p=>AQ X rec dr a s p.1 (p.2++args.map (s.rx X.gl)) k
    | none=>none)))
 | op=>ev X.g X.gl s s.H.length op k
def Mv:Option Nat->List Nat
 | some d=>[d]
 | none=>[]
def tV (X:Cx G) (rec:Rec G) (dr:Bool) (a:An) (d:Option Nat) (op:RO) (s:DS G) (k:DS G->Option R):Option R:=match a with
 | .j _ P a=>(TX X rec dr a s op fun v s'=>P.coll X.g (Mv d) s (s'.cP d v)).bind fun w=>k (P.eo X.g (Mv d) s w)
 | a=>TX X rec dr a s op fun v s'=>k (s'.cP d v)
def Dp:TV G->Bool
 | .raw v=>(match v with | .bk l=>(match l with | []=>true | _::_=>false) | _=>false)
 | _=>false
def y8:TV G->Option Bool
 | .bool b=>some b
 | _=>none
def pn (X:Cx G) (rec:Rec G) (dr:Bool):List bD->Nat->An->DS G->(DS G->Option R)->Option R
 | [],_,_,s,k=>k s
 | o::os,i,a,s,k=>match o.guard with
  | none=>tV X rec dr (a.op i) o.dst o.op s fun s'=>pn X rec dr os (i+1) a s' k
  | some p=>(match y8 (s.get p.1) with
   | some c=>if p.2 then
    cond c (tV X rec dr (a.op i) o.dst o.op (s.rep p.1 (.bool true)) fun s'=>pn X rec dr os (i+1) a s' k) (pn X rec dr os (i+1) a ((s.rep p.1 (.bool false)).cP o.dst (.raw (.bk []))) k)
    else
     cond c (pn X rec dr os (i+1) a ((s.rep p.1 (.bool true)).cP o.dst (.raw (.bk []))) k) (tV X rec dr (a.op i) o.dst o.op (s.rep p.1 (.bool false)) fun s'=>pn X rec dr os (i+1) a s' k)
   | none=>if Dp (s.get p.1) then pn X rec dr os (i+1) a (s.cP o.dst (.raw (.bk []))) k else none)
def mm (E:Env) (hp:Nat->Bool) (g:Ge G) (rec:Rec G):Prop:=∀ {R:Type} (c:RC) (a:An) (b:Nat) (s:DS G) (K:Kn G R) (r:R),rec c a b s K=some r->
 WP E hp c b (fun e σ=>∃ s':DS G,s'.st g=σ/\s'.FR g=s.FR g/\K.at e s'=some r) (s.st g)
structure Cx.Ok (X:Cx G) (E:Env):Prop where
 g:X.g.Ok
 wk:X.g.Wk
 gl:X.gl=E.aI
 fns:X.fns=E.fns
 C:∀ c∈X.C,c.Ok E X.hp X.g
 CH:∀ c∈X.CH,c.Ok E X.hp X.g
 K:∀ p∈X.K,Pt E X.hp p.1 p.2.1 p.2.2
def CK (g:Ge G) (s:DS G) (k:TV G->DS G->Option R) (r:R) (v:AV) (H:List Obj):Prop:=∃ (w:TV G) (s':DS G),v=w.av g s'.ln/\s'.Hv g=H/\s'.tm g=s.tm g/\s'.FR g=s.FR g/\k w s'=some r
theorem Oa {X:Cx G} {E:Env} (hX:X.Ok E) {rec:Rec G} (hr:mm E X.hp X.g rec) {f:Nat} {rf:RF} (hf:E.fns f=some rf) {xs:List (TV G)} {a:An} {s:DS G} {k:TV G->DS G->Option R} {r:R}
 (hc:X.hp f=true\/snaps (s.Hv X.g) (TV.aR X.g s.ln xs)=none) (h:QZ X rec rf xs a s k=some r):WC E X.hp false f (TV.aR X.g s.ln xs) (s.Hv X.g) (CK X.g s k r):=by
 unfold QZ at h;split at h
 case isFalse=>cases h
 rename_i hb;simp only [Bool.and_eq_true] at hb;have e1:=Nat.eq_of_beq_eq_true hb.1;have e2:=Nat.le_of_ble_eq_true hb.2.1;obtain ⟨k1,k2,k3⟩:=BO (g:=X.g) s rf.ntmps (eX xs 0) ([],.skip,.skip) hb.2.2;have hw:=hr _ _ _ _ _ _ h;obtain ⟨na,nt,rs,body⟩:=rf;refine Ss hf hc (by rw [dh];exact e1) e2 ?_;rw [fZ];have hst:(s.enter nt (eX xs 0) ([],.skip,.skip)).st X.g=⟨⟨nt,T.jC (TV.aR X.g s.ln xs) 0⟩,s.Hv X.g⟩:=by
  show (⟨DS.tm X.g _,DS.Hv X.g _⟩:ST)=_;rw [k1,k3,kr]
 dsimp only at hw;rw [hst] at hw;have fin:∀ {s':DS G} {σ:ST},s'.st X.g=σ->s'.FR X.g=(s.enter nt (eX xs 0) ([],.skip,.skip)).FR X.g->
  (match oq X.g s' rs with
  | some l=>(match s'.leave s.fr.length with | some s2=>k (wM l) s2 | none=>none)
  | none=>none)=some r->∃ l,bQ rs σ=some l/\CK X.g s k r (oneOf l) σ.H:=by
  intro s' σ h1 h2 h3;split at h3
  case h_2=>cases h3
  rename_i l hl;split at h3
  case h_2=>cases h3
  rename_i s2 wE;obtain ⟨p1,p2,p3,p4⟩:=uW (g:=X.g) wE (by rw [h2,k2]);refine ⟨TV.aR X.g s'.ln l,by rw [<-h1];exact kY hX.g hl,wM l,s2,by rw [tC,p3],?_,p1,p2,h3⟩;rw [p4,<-h1];rfl
 refine hw.mono fun e σ q=>?_
 obtain ⟨s',h1,h2,h3⟩:=q
 cases e with
 | exit i=>cases h3
 | normal=>exact fin h1 h2 h3
 | ret=>exact fin h1 h2 h3
theorem E9 {E:Env} {hp:Nat->Bool} {f:Nat} {xs:List AV} {H:List Obj} {K:AV->List Obj->Prop} (hf:hp f=true\/snaps H xs=none) {n:Nat} {v:AV} {H':List Obj} (hc:jE E.fns (aq E hp n) (some f) xs H=some (v,H')) (hk:K v H'):WC E hp false f xs H K:=by
 refine ⟨n,v,H',?_,hk⟩;unfold bI;simp only [cond_false];by_cases hp':hp f=true
 ·rw [if_pos hp'];exact hc
 ·rw [if_neg hp'];rcases hf with hf | hf
  ·exact (hp' hf).elim
  ·rw [hf];exact hc
theorem Fv {X:Cx G} {E:Env} {f:Nat} {xs:List (TV G)} {s s0:DS G} {nf:Nat} {o:dj} {l:List (TV G)} {k:TV G->DS G->Option R} {r:R} (hf:X.hp f=true\/snaps (s.Hv X.g) (TV.aR X.g s.ln xs)=none)
 (e1:s0.ln=s.ln) (e2:TV.aR X.g s.ln (vals s0.sl)=TV.aR X.g s.ln xs) (e3:s0.Hv X.g=s.Hv X.g) (e4:s0.FR X.g=(s.FR X.g).take nf)
 (hc:dj.Is E X.hp X.g f s0 o l) (h:Mu X s nf o l k=some r):WC E X.hp false f (TV.aR X.g s.ln xs) (s.Hv X.g) (CK X.g s k r):=by
 unfold Mu at h;split at h
 case isFalse=>cases h
 rename_i hb;simp only [Bool.and_eq_true] at hb;obtain ⟨Ag,CD,X4⟩:=hb;obtain ⟨n,h1,h2⟩:=hc;rw [e1,e2,e3] at h1;have wB:(⟨s.sz,s.sl,o.mem X.g l,s.fr⟩:DS G).FR X.g=s.FR X.g:=(oM (g:=X.g) X4);refine E9 hf h1 ⟨wM (o.res X.g l),_,by rw [tC];rfl,?_,?_,wB,h⟩
 ·show (o.mem X.g l).map (TO.av X.g (jD (o.mem X.g l)) (DS.FR X.g ⟨s.sz,s.sl,o.mem X.g l,s.fr⟩))=(o.mem X.g l).map (TO.av X.g (jD (o.mem X.g l)) (DS.FR X.g ⟨0,[],o.mem X.g l,s0.fr⟩));rw [wB,h2,e4];exact (mB (g:=X.g) (n:=nf) (fun i hi=>by rw [List.getElem?_take,if_pos hi]) Ag).symm
 ·show (⟨s.sz,_⟩:T)=⟨s.sz,_⟩;rw [oL (g:=X.g) (ln:=DS.ln ⟨s.sz,s.sl,o.mem X.g l,s.fr⟩) (cj:=s.ln) CD]
theorem SL {X:Cx G} {E:Env} (hX:X.Ok E) {f:Nat} {xs:List (TV G)} {s:DS G} {p:(c:eE G)×DL G c.ts} {k:TV G->DS G->Option R} {r:R} (hf:X.hp f=true\/snaps (s.Hv X.g) (TV.aR X.g s.ln xs)=none)
 (hp:pF X.g f xs s X.CH=some p) (h:Yu X s p k=some r):WC E X.hp false f (TV.aR X.g s.ln xs) (s.Hv X.g) (CK X.g s k r):=by
 unfold Yu at h;obtain ⟨u,h1,h2⟩:=bind_some h;obtain ⟨q1,q2,q3,q4,q5,q6,_⟩:=AY hX.g hp;have hc:=hX.CH _ q1 _ _ h1;rw [q2] at hc
 cases u with
 | inl w=>exact Fv hf q3 q4 q5 q6 hc h2
 | inr w=>exact Fv hf q3 q4 q5 q6 hc h2
theorem vt {X:Cx G} {E:Env} (hX:X.Ok E) {rec:Rec G} (hr:mm E X.hp X.g rec) {dr:Bool} {f:Nat} {xs:List (TV G)} {a:An} {s:DS G} {k:TV G->DS G->Option R} {r:R}
 (h:AP X rec dr a s f xs k=some r):WC E X.hp dr f (TV.aR X.g s.ln xs) (s.Hv X.g) (CK X.g s k r):=by
 unfold AP at h;split at h
 case isFalse=>cases h
 rename_i hb;simp only [Bool.and_eq_true,Bool.not_eq_true'] at hb;rw [hb.1];have hs:X.hp f=true\/snaps (s.Hv X.g) (TV.aR X.g s.ln xs)=none:=by
  rcases (Bool.or_eq_true _ _).mp hb.2 with h | h
  ·exact .inl h
  ·exact .inr (ye h)
 split at h
 ·rename_i p hp;exact SL hX hs hp h
 ·split at h
  case h_2=>cases h
  rename_i rf hf;rw [hX.fns] at hf;exact Oa hX hr hf hs h
theorem Ob {X:Cx G} {E:Env} (hX:X.Ok E) {dr:Bool} {f:Nat} {xs ys:List (TV G)} {s:DS G} {p:(c:b7 G)×DL G c.ts} {k:TV G->DS G->Option R} {r:R}
 (hd:dr=true\/X.hp f=false) (hy:od (z9 s.H 6) xs=some ys) (hp:jP X.g f ys X.C=some p) (h:Q0 X s xs p k=some r):WC E X.hp dr f (TV.aR X.g s.ln xs) (s.Hv X.g) (CK X.g s k r):=by
 unfold Q0 at h;split at h
 case isFalse=>cases h
 rename_i hb;rw [Bool.and_eq_true] at hb;obtain ⟨v,h1,h2⟩:=bind_some h;obtain ⟨e1,e2,e3⟩:=vZ hX.g (ln:=s.ln) hp;have Xm:=hX.C _ e1 _ _ h1;rw [e2,eu (cj:=s.ln) _ hb.2,e3] at Xm;have TT:snaps (s.Hv X.g) (TV.aR X.g s.ln xs)=some (TV.aR X.g s.ln ys):=m0 (fun x y e=>kS hX.g 6 e) hy;have hck:CK X.g s k r (oneOf (tR X.g p.1.rs v)) (s.Hv X.g):=⟨wM (aL X.g p.1.rs v),s,by rw [tC,gH hX.g],rfl,rfl,rfl,h2⟩;rcases (Bool.or_eq_true _ _).mp hb.1 with hf | hf
 ·have e:=Ld hX.g hf TT;rw [e] at Xm;exact E8 hd (er hX.g s.ln xs hf) Xm hck
 ·exact Nw hd TT Xm (DR (yf v hf)) hck
theorem Oc {g:Ge G} {ln:Nat->Nat}:∀ {a:AV} {v:TV G},Q1 a v=true->v.av g ln=a/\a.bA 0=true:=by
 intro a v h
 cases a with
 | int k n=>cases v with
  | int k' n'=>
   have h:(decide (k=k')&&decide (n=n'))=true:=h;rw [Bool.and_eq_true,decide_eq_true_eq,decide_eq_true_eq] at h;obtain ⟨rfl,rfl⟩:=h;exact ⟨rfl,rfl⟩
  | _=>cases h
 | bool b=>cases v with
  | bool b'=>
   have h:(b==b')=true:=h;rw [eq_of_beq h];exact ⟨rfl,rfl⟩
  | _=>cases h
 | _=>cases h
theorem BP {g:Ge G} {ln:Nat->Nat}:∀ {as:List AV} {xs:List (TV G)},Ev as xs=true->TV.aR g ln xs=as/\AV.aS 0 as=true
 | [],[],_=>⟨rfl,rfl⟩
 | [],_::_,h=>by cases h
 | _::_,[],h=>by cases h
 | a::as,x::xs,h=>by
  have h:(Q1 a x&&Ev as xs)=true:=h;rw [Bool.and_eq_true] at h;obtain ⟨h1,h2⟩:=Oc (g:=g) (ln:=ln) h.1;obtain ⟨h3,h4⟩:=BP (g:=g) (ln:=ln) h.2;exact ⟨by rw [TV.aR,h1,h3],by rw [AV.aS,h2,h4];rfl⟩
theorem BQ {g:Ge G} {ln:Nat->Nat} {f:Nat} {xs:List (TV G)} {v:AV}:∀ {K:List (Nat×List AV×AV)},Ew f xs K=some v->(f,TV.aR g ln xs,v)∈K/\AV.aS 0 (TV.aR g ln xs)=true
 | [],h=>by cases h
 | p::r,h=>by
  rw [Ew] at h;split at h
  ·rename_i e;rw [Bool.and_eq_true] at e;injection h with h;subst h
   obtain ⟨h1,h2⟩:=BP (g:=g) (ln:=ln) e.2;have e1:=Nat.eq_of_beq_eq_true e.1;subst e1;rw [h1];exact ⟨List.mem_cons_self ..,h2⟩
  ·obtain ⟨h1,h2⟩:=BQ (g:=g) (ln:=ln) h;exact ⟨List.mem_cons_of_mem _ h1,h2⟩
theorem vi {X:Cx G} {E:Env} (hX:X.Ok E) {dr:Bool} {f:Nat} {xs ys:List (TV G)} {s:DS G} {k:TV G->DS G->Option R} {els:Option R} {r:R}
 (hd:dr=true\/X.hp f=false) (hy:od (z9 s.H 6) xs=some ys) (h:AK X s f xs ys k els=some r) (he:els=some r->WC E X.hp dr f (TV.aR X.g s.ln xs) (s.Hv X.g) (CK X.g s k r)):WC E X.hp dr f (TV.aR X.g s.ln xs) (s.Hv X.g) (CK X.g s k r):=by
 unfold AK at h;split at h
 ·rename_i v hv;obtain ⟨hm,hb⟩:=BQ (g:=X.g) (ln:=s.ln) hv;exact E8 hd hb (hX.K _ hm) ⟨sV v,s,(tL _ _ v).symm,rfl,rfl,rfl,h⟩
 ·split at h
  ·rename_i p hp;exact Ob hX hd hy hp h
  ·exact he h
theorem vu {X:Cx G} {E:Env} (hX:X.Ok E) {rec:Rec G} (hr:mm E X.hp X.g rec) {dr:Bool} {f:Nat} {xs:List (TV G)} {a:An} {s:DS G} {k:TV G->DS G->Option R} {r:R}
 (h:AQ X rec dr a s f xs k=some r):WC E X.hp dr f (TV.aR X.g s.ln xs) (s.Hv X.g) (CK X.g s k r):=by
 unfold AQ at h;split at h
 ·rename_i hb;have hd:dr=true\/X.hp f=false:=by
   rcases (Bool.or_eq_true _ _).mp hb with h | h
   ·exact .inl h
   ·exact .inr (by simpa using h)
  split at h
  ·rename_i ys hys;exact vi hX hd hys h fun h=>vt hX hr h
  ·exact vt hX hr h
 ·exact vt hX hr h
theorem SM {E:Env} {hp:Nat->Bool} {t:T} {H:List Obj} {K:T->List Obj->Prop} {d:Option Nat} {x:RX} {args:List RX} {os:List bD} {l:Nat} (hx:fI E.aI t x= .eI l) {n:Nat} {v:AV} {H1:List Obj}
 (h:tX (aq E hp n) (.eI l::args.map (fI E.aI t)) H=some (v,H1)) (hk:WO E hp false os (cP t d v) H1 K):WO E hp false (⟨d,none,.fJ x args⟩::os) t H K:=by
 obtain ⟨m,t',H',h2,hq⟩:=hk;refine ⟨max n m,t',H',?_,hq⟩;rw [aZ];have h3:=xX (bK (Nat.le_max_left n m)) h;simp only [c6,bY,RO.kind,hx,cond_false];rw [show jE E.fns (aq E hp (max n m)) none (.eI l::args.map (fI E.aI t)) H=some (v,H1) from h3];dsimp only;rw [dH];exact jS (dr:=false) (Nat.le_max_right n m) h2
theorem Fw {g:Ge G} {ln:Nat->Nat} (l:List (Nat×TV G)):∀ (n i:Nat),dx g ln (C2 l n i)=T.jC ((List.range' i n).map fun j=>T.eK (dx g ln l) j) i
 | 0,_=>rfl
 | n+1,i=>by
  show (i,_)::dx g ln (C2 l n (i+1))=_;rw [Fw l n (i+1),List.range'_succ,List.map_cons,T.jC,zS]
theorem Od {g:Ge G} {ln:Nat->Nat} (l:List (Nat×TV G)) (n:Nat):(⟨n,dx g ln (C2 l n 0)⟩:T)=T.OB (T.toL ⟨n,dx g ln l⟩):=by
 have h1:T.toL ⟨n,dx g ln l⟩=(List.range' 0 n).map fun j=>T.eK (dx g ln l) j:=by
  unfold T.toL;rw [List.range_eq_range'];rfl
 rw [h1,Fw];unfold T.OB;rw [List.length_map,List.length_range']
theorem BR {g:Ge G} {ln:Nat->Nat}:∀ (ps:List Nat) (xs:List (TV G)) (sz:Nat) (l:List (Nat×TV G)),(⟨sz,dx g ln (xp ps xs sz l)⟩:T)=pJ ps (TV.aR g ln xs) ⟨sz,dx g ln l⟩
 | [],xs,sz,l=>by cases xs<;>rfl
 | p::ps,[],sz,l=>rfl
 | p::ps,x::xs,sz,l=>by
  rw [xp,BR ps xs,TV.aR,pJ];congr 1;unfold T.put;dsimp only;split
  ·rw [zT]
  ·rfl
theorem Oe {X:Cx G} {E:Env} (hX:X.Ok E) {rec:Rec G} (hr:mm E X.hp X.g rec) {l:Nat} {xs:List (TV G)} {a:An} {s:DS G} {k:TV G->DS G->Option R} {r:R}
 (h:Q2 X rec a s l xs k=some r):∃ n v H',tX (aq E X.hp n) (.eI l::TV.aR X.g s.ln xs) (s.Hv X.g)=some (v,H')/\CK X.g s k r v H':=by
 unfold Q2 at h;split at h
 case h_2=>cases h
 rename_i st fi hl;split at h
 case h_2=>cases h
 rename_i f hf;split at h
 case isFalse=>cases h
 rename_i hc;obtain ⟨rfl,hlen,hb⟩:=hc;obtain ⟨LF,TY,ps,as,body⟩:=f;dsimp only at h hlen;obtain ⟨k1,k2,k3⟩:=BO (g:=X.g) s LF (xp ps xs LF (C2 TY LF 0)) ([],.skip,.skip) hb;have wB:(s.FR X.g)[fi]?=some (⟨LF,dx X.g s.ln TY⟩,ps,as,body):=by unfold DS.FR;rw [List.getElem?_map,hf];rfl
 have hH:(s.Hv X.g)[l]?=some (.lp .ready (T.toL ⟨LF,dx X.g s.ln TY⟩) ps as body):=by
  rw [bp hl];simp only [TO.av,wB]
 obtain ⟨n1,e1,σ1,hx1,s1,p1,p2,p3⟩:=hr _ _ _ _ _ _ h
 cases e1 with
 | exit i=>cases p3
 | ret=>cases p3
 | normal=>
 have p3:(match rm .ready .busy s1 l with
  | some s2=>rec body (a.sub 1) s.H.length s2 ⟨_,_,_⟩
  | none=>none)=some r:=p3
 split at p3
 case h_2=>cases p3
 rename_i s2 wE;obtain ⟨q1,q2,q3⟩:=yg (g:=X.g) wE;obtain ⟨n2,e2,σ2,hx2,s3,r1,r2,r3⟩:=hr _ _ _ _ _ _ p3;have hst:(s.enter LF (xp ps xs LF (C2 TY LF 0)) ([],.skip,.skip)).st X.g=⟨pJ ps (TV.aR X.g s.ln xs) (T.OB (T.toL ⟨LF,dx X.g s.ln TY⟩)),s.Hv X.g⟩:=by
  show (⟨DS.tm X.g _,DS.Hv X.g _⟩:ST)=_;rw [k1,k3,BR,Od]
 rw [hst] at hx1;have Yv:=bK (Nat.le_max_left n1 n2) _ _ _ _ hx1;have hm2:=bK (Nat.le_max_right n1 n2) _ _ _ _ hx2;have Wp:s2.st X.g=⟨σ1.tmps,s2.Hv X.g⟩:=by
  rw [<-p1];show (⟨DS.tm X.g _,DS.Hv X.g _⟩:ST)=⟨s1.tm X.g,_⟩;rw [q2]
 rw [Wp] at hm2;have HC:iZ .ready .busy σ1.H l=some (s2.Hv X.g):=by rw [<-p1];exact q1
 have hF3:s3.FR X.g=s.FR X.g++[(s.tm X.g,([],.skip,.skip))]:=by rw [r2,q3,p2,k2]
 have fin:∀ {y:Ls} {bb:Bool},(match rm .busy y s3 l with
  | some s2=>(match s2.leave s.fr.length with | some s3=>k (.bool bb) s3 | none=>none)
  | none=>none)=some r->∃ H2,iZ .busy y σ2.H l=some H2/\CK X.g s k r (.bool bb) H2:=by
  intro y bb h3;split at h3
  case h_2=>cases h3
  rename_i s4 hs4;split at h3
  case h_2=>cases h3
  rename_i s5 hs5;obtain ⟨u1,u2,u3⟩:=yg (g:=X.g) hs4;obtain ⟨v1,v2,v3,v4⟩:=uW (g:=X.g) hs5 (by rw [u3,hF3]);exact ⟨s4.Hv X.g,by rw [<-r1];exact u1,.bool bb,s5,rfl,v4,v1,v2,h3⟩
 have hxl:(TV.aR X.g s.ln xs).length=ps.length:=by rw [dh];exact hlen
 cases e2 with
 | normal=>
  obtain ⟨H2,w1,w2⟩:=fin r3;refine ⟨max n1 n2,_,_,?_,w2⟩;unfold tX;dsimp only;rw [hH];dsimp only;rw [if_pos hxl,fZ,Yv];dsimp only;rw [HC];dsimp only;rw [hm2];dsimp only;rw [w1]
 | exit i=>
  obtain ⟨H2,w1,w2⟩:=fin r3;refine ⟨max n1 n2,_,_,?_,w2⟩;unfold tX;dsimp only;rw [hH];dsimp only;rw [if_pos hxl,fZ,Yv];dsimp only;rw [HC];dsimp only;rw [hm2];dsimp only;rw [w1]
 | ret=>
  obtain ⟨H2,w1,w2⟩:=fin r3;refine ⟨max n1 n2,_,_,?_,w2⟩;unfold tX;dsimp only;rw [hH];dsimp only;rw [if_pos hxl,fZ,Yv];dsimp only;rw [HC];dsimp only;rw [hm2];dsimp only;rw [w1]
theorem Le {v:TV G} {l:Nat} (h:Pp v=some l):v= .raw (.eI l):=by
 cases v with
 | raw a=>cases a<;>first | (injection h with h;subst h;rfl) | cases h
 | _=>cases h
theorem zy {v:TV G} {p:Nat×List (TV G)} (h:Mh v=some p):v= .fn p.1 p.2:=by
 cases v with
 | fn f l=>injection h with h;subst h;rfl
 | _=>cases h
theorem BS {g:Ge G} {ln:Nat->Nat}:∀ {q:List AV} {l:List (TV G)},Ey q=some l->TV.aR g ln l=q
 | [],l,h=>by injection h with h;subst h;rfl
 | x::r,l,h=>by
  unfold Ey at h;split at h
  ·rename_i e;cases e
  ·rename_i id o r' e;injection e with e1 e2
   subst e1;subst e2;split at h
   case h_2=>cases h
   rename_i m hm;injection h with h;subst h
   rw [TV.aR,BS hm];rfl
  ·cases h
theorem Lf {g:Ge G} {ln:Nat->Nat} {v:TV G} {p:Nat×List (TV G)} (h:Iz v=some p):v.av g ln= .bL p.1 (TV.aR g ln p.2):=by
 unfold Iz at h;split at h
 case h_2=>cases h
 split at h
 case h_2=>cases h
 split at h
 case h_2=>cases h
 rename_i l hl;injection h with h;subst h
 show AV.bL _ _=_;rw [BS hl]
theorem I9 {X:Cx G} {E:Env} (hX:X.Ok E) {rec:Rec G} (hr:mm E X.hp X.g rec) {dr:Bool} {a:An} {s:DS G} {d:Option Nat} {op:RO} {os:List bD} {k:TV G->DS G->Option R} {r:R} {Q:T->List Obj->Prop}
 (h:TX X rec dr a s op k=some r) (hk:∀ w s',s'.tm X.g=s.tm X.g->s'.FR X.g=s.FR X.g->k w s'=some r->WO E X.hp dr os (cP (s'.tm X.g) d (w.av X.g s'.ln)) (s'.Hv X.g) Q):
 WO E X.hp dr (⟨d,none,op⟩::os) (s.tm X.g) (s.Hv X.g) Q:=by
 have fin:∀ {v:AV} {H:List Obj},CK X.g s k r v H->WO E X.hp dr os (cP (s.tm X.g) d v) H Q:=by
  rintro v H ⟨w,s',rfl,rfl,h1,h2,h3⟩;have:=hk w s' h1 h2 h3;rw [h1] at this;exact this
 have mono:∀ {f:Nat} {xs:List AV},WC E X.hp dr f xs (s.Hv X.g) (CK X.g s k r)->WC E X.hp dr f xs (s.Hv X.g) (fun v H'=>WO E X.hp dr os (cP (s.tm X.g) d v) H' Q):=by
  rintro f xs ⟨n,v,H',h1,h2⟩;exact ⟨n,v,H',h1,fin h2⟩
 have rx:=DS.lI X.g E.aI s;have plain:∀ {op:RO},ev X.g X.gl s s.H.length op k=some r->WO E X.hp dr (⟨d,none,op⟩::os) (s.tm X.g) (s.Hv X.g) Q:=by
  intro op h;obtain ⟨h1,w,s',h2,h3,h4,h5⟩:=Pf hX.g h;rw [hX.gl] at h2;refine Ny h1 rfl (by rw [fZ];exact h2) ?_;exact fin ⟨w,s',rfl,rfl,h3,h4,h5⟩
 unfold TX at h;split at h
 ·rename_i f args;refine Nv.2 ?_;have:=vu hX hr h;rw [hX.gl,<-DS.gf] at this;exact mono this
 ·rename_i x args;split at h
  ·rename_i p hp;have e:=zy hp;have hx:fI E.aI (s.tm X.g) x= .fn p.1 (TV.aR X.g s.ln p.2):=by rw [rx,<-hX.gl,e];rfl
   refine (KA hx).2 ?_;have:=vu hX hr h;rw [jN,hX.gl,<-DS.gf] at this;exact mono this
  ·split at h
   ·rename_i l hl;split at h
    ·cases h
    rename_i hd;have e:dr=false:=by simpa using hd
    subst e;have e:=Le hl;have hx:fI E.aI (s.tm X.g) x= .eI l:=by rw [rx,<-hX.gl,e];rfl
    obtain ⟨n,v,H',h1,h2⟩:=Oe hX hr h;rw [hX.gl,<-DS.gf] at h1;exact SM hx h1 (fin h2)
   ·split at h
    case h_2=>cases h
    rename_i p hp;have hx:fI E.aI (s.tm X.g) x= .bL p.1 (TV.aR X.g s.ln p.2):=by rw [rx,<-hX.gl];exact Lf hp
    refine KB hx ?_;have:=vu hX hr h;rw [jN,hX.gl,<-DS.gf] at this;exact mono this
 ·exact plain h
theorem E3 {X:Cx G} {E:Env} (hX:X.Ok E) {rec:Rec G} (hr:mm E X.hp X.g rec) {dr:Bool} {a:An} {s:DS G} {d:Option Nat} {op:RO} {os:List bD} {k:DS G->Option R} {r:R} {Q:T->List Obj->Prop}
 (h:tV X rec dr a d op s k=some r) (hk:∀ s',s'.FR X.g=s.FR X.g->k s'=some r->WO E X.hp dr os (s'.tm X.g) (s'.Hv X.g) Q):
 WO E X.hp dr (⟨d,none,op⟩::os) (s.tm X.g) (s.Hv X.g) Q:=by
 have plain:∀ {a:An},(TX X rec dr a s op fun v s'=>k (s'.cP d v))=some r->WO E X.hp dr (⟨d,none,op⟩::os) (s.tm X.g) (s.Hv X.g) Q:=by
  intro a h;refine I9 hX hr h fun w s' h1 h2 h3=>?_
  have:=hk _ (by rw [DS.nh,h2]) h3;rw [DS.ni,DS.pY] at this;exact this
 unfold tV at h;split at h
 ·rename_i e P a;obtain ⟨w,h1,h2⟩:=bind_some h;refine I9 hX hr h1 fun u s' k1 k2 k3=>?_
  obtain ⟨q1,q2⟩:=Tm.ok hX.g k3 (fun x v hm hi=>by
   obtain ⟨g1,g2⟩:=jh (g:=X.g) (Tm.W1 k3).1 hm;rw [DS.ni,k1,<-g1]
   cases d with
   | none=>rfl
   | some d=>exact g9 (A:=[]) x g2) (by rw [DS.nh,k2])
  have h3:=hk _ (by rw [q2,DS.nh,k2]) h2;have e1:(P.eo X.g (Mv d) s w).tm X.g=(s'.cP d u).tm X.g:=congrArg ST.tmps q1;have e2:(P.eo X.g (Mv d) s w).Hv X.g=(s'.cP d u).Hv X.g:=congrArg ST.H q1;rw [e1,e2,DS.ni,DS.pY] at h3;exact h3
 ·exact plain h
theorem Gz {g:Ge G} {ln:Nat->Nat} {v:TV G} (h:Dp v=true):v.av g ln= .bk []:=by
 unfold Dp at h;split at h
 ·split at h
  ·split at h
   ·rfl
   ·cases h
  ·cases h
 ·cases h
theorem rJ {v:TV G} {b:Bool} (h:y8 v=some b):v= .bool b:=by
 cases v with
 | bool c=>injection h with h;subst h;rfl
 | _=>cases h
theorem tA {X:Cx G} {E:Env} (hX:X.Ok E) {rec:Rec G} (hr:mm E X.hp X.g rec) {dr:Bool} {r:R} {Q:T->List Obj->Prop}:∀ (os:List bD) {i:Nat} {a:An} {s:DS G} {k:DS G->Option R},
 pn X rec dr os i a s k=some r->(∀ s',s'.FR X.g=s.FR X.g->k s'=some r->Q (s'.tm X.g) (s'.Hv X.g))->WO E X.hp dr os (s.tm X.g) (s.Hv X.g) Q
 | [],i,a,s,k,h,hk=>IU.2 (hk s rfl h)
 | o::os,i,a,s,k,h,hk=>by
  obtain ⟨d,gd,op⟩:=o;rw [pn] at h;have go:∀ {s1:DS G},s1.FR X.g=s.FR X.g->tV X rec dr (a.op i) d op s1 (fun s'=>pn X rec dr os (i+1) a s' k)=some r->WO E X.hp dr (⟨d,none,op⟩::os) (s1.tm X.g) (s1.Hv X.g) Q:=by
   intro s1 hF h;exact E3 hX hr h fun s' h1 h2=>tA hX hr os h2 fun s'' h3 h4=>hk s'' (by rw [h3,h1,hF]) h4
  have skip:∀ {s1:DS G},s1.FR X.g=s.FR X.g->s1.tm X.g=s.tm X.g->s1.Hv X.g=s.Hv X.g->c6 (s.tm X.g) gd=some false->pn X rec dr os (i+1) a (s1.cP d (.raw (.bk []))) k=some r->WO E X.hp dr (⟨d,gd,op⟩::os) (s.tm X.g) (s.Hv X.g) Q:=by
   intro s1 hF ht hH hw h;have:=tA hX hr os h fun s'' h3 h4=>hk s'' (by rw [h3,DS.nh,hF]) h4
   rw [DS.ni,DS.pY,ht,hH] at this;exact Nz hw this
  cases gd with
  | none=>exact go rfl h
  | some p=>
   obtain ⟨t,b⟩:=p;dsimp only at h;have aN:(s.tm X.g).get t=(s.get t).av X.g s.ln:=DS.gG X.g s t;split at h
   ·rename_i c hc;have hv:=rJ hc;rw [hv] at aN;have hw:c6 (s.tm X.g) (some (t,b))=some (c==b):=by
     unfold c6;dsimp only;rw [aN];rfl
    have rp:∀ {b':Bool},c=b'->(s.rep t (.bool b')).tm X.g=s.tm X.g/\(s.rep t (.bool b')).Hv X.g=s.Hv X.g/\(s.rep t (.bool b')).FR X.g=s.FR X.g:=by
     intro b' e;subst e;exact I1 (by rw [hv])
    have run:∀ {b':Bool},c=b'->(c==b)=true->tV X rec dr (a.op i) d op (s.rep t (.bool b')) (fun s'=>pn X rec dr os (i+1) a s' k)=some r->WO E X.hp dr (⟨d,some (t,b),op⟩::os) (s.tm X.g) (s.Hv X.g) Q:=by
     intro b' e1 e2 h;obtain ⟨r1,r2,r3⟩:=rp e1;rw [e2] at hw;refine (V6 hw).2 ?_;have:=go r3 h;rw [r1,r2] at this;exact this
    have no:∀ {b':Bool},c=b'->(c==b)=false->pn X rec dr os (i+1) a ((s.rep t (.bool b')).cP d (.raw (.bk []))) k=some r->WO E X.hp dr (⟨d,some (t,b),op⟩::os) (s.tm X.g) (s.Hv X.g) Q:=by
     intro b' e1 e2 h;obtain ⟨r1,r2,r3⟩:=rp e1;rw [e2] at hw;exact skip r3 r1 r2 hw h
    cases b with
    | true=>
     simp only [if_true] at h
     cases c with
     | true=>exact run rfl rfl h
     | false=>exact no rfl rfl h
    | false=>
     simp only [Bool.false_eq_true,if_false] at h
     cases c with
     | true=>exact no rfl rfl h
     | false=>exact run rfl rfl h
   ·split at h
    case isFalse=>cases h
    rename_i h0;refine skip (s1:=s) rfl rfl rfl ?_ h;unfold c6;dsimp only;rw [aN,Gz h0]
def jn (g:Ge G) (A:List Nat) (f:{R:Type}->An->DS G->Kn G R->Option R):{R:Type}->An->DS G->Kn G R->Option R
 | R,.j e P a,s,K=>(match e with
  | true=>(jn g A f a s (⟨fun s'=>(P.coll g A s s').map .inl,fun i s'=>(K.x i s').map .inr,fun s'=>(K.r s').map .inr⟩:Kn G (DL G P.ts⊕R))).bind (Sum.elim (fun w=>K.n (P.eo g A s w)) some)
  | false=>(jn g A f a s (⟨fun s'=>P.coll g A s s',fun _ _=>none,fun _=>none⟩:Kn G (DL G P.ts))).bind fun w=>K.n (P.eo g A s w))
 | _,.z,_,_=>none
 | _,a,s,K=>f a s K
def PU (f:{R:Type}->An->DS G->Kn G R->Option R):List An->{R:Type}->DS G->Kn G R->Option R
 | [],_,_,_=>none
 | a::l,_,s,K=>f a s ⟨fun s'=>PU f l s' K,K.x,K.r⟩
def XQ (g:Ge G) (A:List Nat) (f:{R:Type}->An->DS G->Kn G R->Option R):{R:Type}->An->DS G->Kn G R->Option R
 | R,.l e i P B a,s,K=>(match P.coll g A s s with
  | some w0=>(match e with
   | true=>(iter (fun w=>f a (P.eo g A s w) (⟨fun s'=>(P.coll g A s s').map .inl,fun j s'=>bif Nat.beq j i then (B.coll g A s s').map fun v=> .inr (.inl v) else (K.x j s').map fun r=> .inr (.inr r),fun s'=>(K.r s').map fun r=> .inr (.inr r)⟩:Kn G (DL G P.ts⊕(DL G B.ts⊕R)))) w0).bind (Sum.elim (fun v=>K.x i (B.eo g A s v)) some)
   | false=>(iter (fun w=>f a (P.eo g A s w) (⟨fun s'=>(P.coll g A s s').map .inl,fun j s'=>bif Nat.beq j i then (B.coll g A s s').map .inr else none,fun _=>none⟩:Kn G (DL G P.ts⊕DL G B.ts))) w0).bind fun v=>K.x i (B.eo g A s v))
  | none=>none)
 | _,.u l,s,K=>PU f l s K
 | _,_,_,_=>none
def Sat (E:Env) (hp:Nat->Bool) (g:Ge G) (c:RC) (b:Nat) (s:DS G) (K:Kn G R) (r:R):Prop:=WP E hp c b (fun e σ=>∃ s':DS G,s'.st g=σ/\s'.FR g=s.FR g/\K.at e s'=some r) (s.st g)
theorem mo {E:Env} {hp:Nat->Bool} {g:Ge G} (hg:g.Ok) {c:RC} {b:Nat} {f:{R:Type}->An->DS G->Kn G R->Option R} (hf:∀ {R:Type} (a:An) (s:DS G) (K:Kn G R) (r:R),f a s K=some r->Sat E hp g c b s K r):
 ∀ (a:An) {R:Type} (s:DS G) (K:Kn G R) (r:R),jn g (b9 c) f a s K=some r->Sat E hp g c b s K r
 | .j e P a,R,s,K,r,h=>by
  have reach:∀ {w:DL G P.ts} {s':DS G},P.coll g (b9 c) s s'=some w->bG (b9 c) (s.tm g) (s'.tm g)->s'.FR g=s.FR g->(P.eo g (b9 c) s w).st g=s'.st g/\(P.eo g (b9 c) s w).FR g=s.FR g:=by
   intro w s' h1 h2 h3;obtain ⟨q1,q2⟩:=Tm.ok hg h1 (fun x u hm hi=>by
    obtain ⟨g1,g2⟩:=jh (g:=g) (Tm.W1 h1).1 hm;rw [<-g1];exact h2 x g2) h3
   exact ⟨q1,by rw [q2,h3]⟩
  cases e with
  | true=>
   have h:(jn g (b9 c) f a s (⟨fun s'=>(P.coll g (b9 c) s s').map .inl,fun i s'=>(K.x i s').map .inr,fun s'=>(K.r s').map .inr⟩:Kn G (DL G P.ts⊕R))).bind (Sum.elim (fun w=>K.n (P.eo g (b9 c) s w)) some)=some r:=h;obtain ⟨z,h1,h2⟩:=bind_some h;have ih:=mo hg hf a _ _ _ h1;refine (ng ih).mono ?_;rintro e σ ⟨⟨s',p1,p2,p3⟩,hk⟩;subst p1
   cases e with
   | normal=>
    obtain ⟨w,q1,q2⟩:=map_some p3;subst q2;obtain ⟨k1,k2⟩:=reach q1 (hk nofun) p2;exact ⟨_,k1,k2,h2⟩
   | exit i=>
    obtain ⟨w,q1,q2⟩:=map_some p3;subst q2;have h2:some w=some r:=h2;injection h2 with h2;subst h2
    exact ⟨s',rfl,p2,q1⟩
   | ret=>
    obtain ⟨w,q1,q2⟩:=map_some p3;subst q2;have h2:some w=some r:=h2;injection h2 with h2;subst h2
    exact ⟨s',rfl,p2,q1⟩
  | false=>
   have h:(jn g (b9 c) f a s (⟨fun s'=>P.coll g (b9 c) s s',fun _ _=>none,fun _=>none⟩:Kn G (DL G P.ts))).bind (fun w=>K.n (P.eo g (b9 c) s w))=some r:=h;obtain ⟨w,h1,h2⟩:=bind_some h;have ih:=mo hg hf a _ _ _ h1;refine (ng ih).mono ?_;rintro e σ ⟨⟨s',p1,p2,p3⟩,hk⟩;subst p1
   cases e with
   | normal=>
    obtain ⟨k1,k2⟩:=reach p3 (hk nofun) p2;exact ⟨_,k1,k2,h2⟩
   | exit i=>cases p3
   | ret=>cases p3
 | .n,R,s,K,r,h=>hf _ _ _ _ h
 | .l ..,R,s,K,r,h=>hf _ _ _ _ h
 | .s _,R,s,K,r,h=>hf _ _ _ _ h
 | .o _,R,s,K,r,h=>hf _ _ _ _ h
 | .u _,R,s,K,r,h=>hf _ _ _ _ h
 | .z,R,s,K,r,h=>by cases h
theorem vv {E:Env} {hp:Nat->Bool} {p:RC} {b:Nat} {Q:Ex->ST->Prop} {s:ST} (h:WP E hp p b (fun e s'=>match e with | .normal=>WP E hp (.loop p) b Q s' | .exit j=>Q (.exit j) s' | .ret=>Q .ret s') s):WP E hp (.loop p) b Q s:=by
 obtain ⟨n,e,s1,h1,hq⟩:=h
 cases e with
 | normal=>
  obtain ⟨n2,e2,s2,h2,hq2⟩:=hq;refine ⟨max n n2+1,e2,s2,?_,hq2⟩;rw [aq,bK (Nat.le_max_left n n2) _ _ _ _ h1];exact bK (Nat.le_max_right n n2) _ _ _ _ h2
 | exit j=>exact ⟨n+1,_,_,by rw [aq,h1],hq⟩
 | ret=>exact ⟨n+1,_,_,by rw [aq,h1],hq⟩
theorem Dq {E:Env} {hp:Nat->Bool} {g:Ge G} {c:RC} {b:Nat} {f:{R:Type}->An->DS G->Kn G R->Option R} (hf:∀ {R:Type} (a:An) (s:DS G) (K:Kn G R) (r:R),f a s K=some r->Sat E hp g c b s K r):
 ∀ (l:List An) {R:Type} {s:DS G} {K:Kn G R} {r:R},PU f l s K=some r->Sat E hp g (.loop c) b s K r
 | [],R,s,K,r,h=>by cases h
 | a::l,R,s,K,r,h=>by
  rw [PU] at h;refine vv ((hf _ _ _ _ h).mono ?_);rintro e σ ⟨s',p1,p2,p3⟩
  cases e with
  | normal=>
   have p3:PU f l s' K=some r:=p3;subst p1;refine (Dq hf l p3).mono ?_;rintro e2 σ2 ⟨s2,q1,q2,q3⟩;exact ⟨s2,q1,by rw [q2,p2],q3⟩
  | exit j=>exact ⟨s',p1,p2,p3⟩
  | ret=>exact ⟨s',p1,p2,p3⟩
theorem kH {E:Env} {hp:Nat->Bool} {p:RC} {b:Nat} {Q:Ex->ST->Prop} {σ ρ:Type} {body:σ->Option (σ⊕ρ)} (st:σ->ST) (I:σ->Prop) {z:ρ}
 (h:∀ w y,I w->body w=some y->WP E hp p b (fun e s'=>match e with
  | .normal=>∃ w',y= .inl w'/\I w'/\st w'=s'
  | .exit j=>∃ x,y= .inr x/\(x=z->Q (.exit j) s')
  | .ret=>∃ x,y= .inr x/\(x=z->Q .ret s')) (st w)):∀ (n:Nat) (w:σ),I w->lE body n w=some z->WP E hp (.loop p) b Q (st w)
 | 0,w,hI,e=>by simp [lE] at e
 | n+1,w,hI,e=>by
  rw [lE] at e;split at e
  ·cases e
  ·rename_i w' hb;refine vv ((h w _ hI hb).mono fun ex s' q=>?_)
   cases ex with
   | normal=>
    obtain ⟨w2,e1,e2,e3⟩:=q;injection e1 with e1;subst e1;subst e3
    exact kH st I h n _ e2 e
   | exit j=>obtain ⟨x,e1,_⟩:=q;cases e1
   | ret=>obtain ⟨x,e1,_⟩:=q;cases e1
  ·rename_i x hb;injection e with e;subst e
   refine vv ((h w _ hI hb).mono fun ex s' q=>?_)
   cases ex with
   | normal=>obtain ⟨w2,e1,_⟩:=q;cases e1
   | exit j=>obtain ⟨y,e1,e2⟩:=q;injection e1 with e1;exact e2 e1.symm
   | ret=>obtain ⟨y,e1,e2⟩:=q;injection e1 with e1;exact e2 e1.symm
theorem RD {E:Env} {hp:Nat->Bool} {g:Ge G} (hg:g.Ok) {c:RC} {b:Nat} {f:{R:Type}->An->DS G->Kn G R->Option R} (hf:∀ {R:Type} (a:An) (s:DS G) (K:Kn G R) (r:R),f a s K=some r->Sat E hp g c b s K r)
 {a:An} {s:DS G} {K:Kn G R} {r:R} (h:XQ g (b9 c) f a s K=some r):Sat E hp g (.loop c) b s K r:=by
 cases a with
 | l e i P B a=>
  unfold XQ at h;dsimp only at h;split at h
  case h_2=>cases h
  rename_i w0 hw0;let I:DL G P.ts->Prop:=fun w=>(P.eo g (b9 c) s w).FR g=s.FR g/\bG (b9 c) (s.tm g) ((P.eo g (b9 c) s w).tm g)
  have hs:=(Tm.W1 hw0).1;have first:(P.eo g (b9 c) s w0).st g=s.st g/\I w0:=by
   obtain ⟨q1,q2⟩:=Tm.ok hg hw0 (fun x u hm hi=>(jh (g:=g) hs hm).1) rfl;have e:(P.eo g (b9 c) s w0).tm g=s.tm g:=congrArg ST.tmps q1;exact ⟨q1,q2,by rw [e];exact bG.refl⟩
  have next:∀ {T:Tm} {w:DL G P.ts} {v:DL G T.ts} {s':DS G},I w->T.coll g (b9 c) s s'=some v->bG (b9 c) ((P.eo g (b9 c) s w).tm g) (s'.tm g)->s'.FR g=(P.eo g (b9 c) s w).FR g->
   (T.eo g (b9 c) s v).st g=s'.st g/\(T.eo g (b9 c) s v).FR g=s.FR g/\bG (b9 c) (s.tm g) ((T.eo g (b9 c) s v).tm g):=by
   intro T w v s' hI h1 h2 h3;have hk:=hI.2.trans h2;obtain ⟨q1,q2⟩:=Tm.ok hg h1 (fun x u hm hi=>by
    obtain ⟨g1,g2⟩:=jh (g:=g) hs hm;rw [<-g1];exact hk x g2) (by rw [h3,hI.1])
   have e:(T.eo g (b9 c) s v).tm g=s'.tm g:=congrArg ST.tmps q1;exact ⟨q1,by rw [q2,h3,hI.1],by rw [e];exact hk⟩
  unfold Sat;rw [<-first.1]
  cases e with
  | true=>
   obtain ⟨z,h1,h2⟩:=bind_some h;refine kH (fun w=>(P.eo g (b9 c) s w).st g) I (fun w y hI hb=>?_) _ _ first.2 h1
   refine (ng (hf _ _ _ _ hb)).mono ?_;rintro ex σ ⟨⟨s',p1,p2,p3⟩,hk⟩;subst p1
   cases ex with
   | normal=>
    obtain ⟨w',q1,q2⟩:=map_some p3;obtain ⟨n1,n2,n3⟩:=next hI q1 (hk nofun) p2
    exact ⟨w',q2.symm,⟨n2,n3⟩,n1⟩
   | exit j=>
    have p3:(bif Nat.beq j i then (B.coll g (b9 c) s s').map fun v=> .inr (.inl v) else (K.x j s').map fun r=> .inr (.inr r))=some y:=p3
    cases hj:Nat.beq j i with
    | true=>
     rw [hj] at p3;obtain ⟨v,q1,q2⟩:=map_some p3;have ej:=Nat.eq_of_beq_eq_true hj;subst ej;refine ⟨.inl v,q2.symm,fun e=>?_⟩;subst e;obtain ⟨n1,n2,_⟩:=next hI q1 (hk nofun) p2
     exact ⟨_,n1,n2,h2⟩
    | false=>
     rw [hj] at p3;obtain ⟨v,q1,q2⟩:=map_some p3;refine ⟨.inr v,q2.symm,fun e=>?_⟩;subst e;have h2:some v=some r:=h2;injection h2 with h2;subst h2
     exact ⟨s',rfl,by rw [p2,hI.1],q1⟩
   | ret=>
    obtain ⟨v,q1,q2⟩:=map_some p3;refine ⟨.inr v,q2.symm,fun e=>?_⟩;subst e;have h2:some v=some r:=h2;injection h2 with h2;subst h2
    exact ⟨s',rfl,by rw [p2,hI.1],q1⟩
  | false=>
   obtain ⟨z,h1,h2⟩:=bind_some h;refine kH (fun w=>(P.eo g (b9 c) s w).st g) I (fun w y hI hb=>?_) _ _ first.2 h1
   refine (ng (hf _ _ _ _ hb)).mono ?_;rintro ex σ ⟨⟨s',p1,p2,p3⟩,hk⟩;subst p1
   cases ex with
   | normal=>
    obtain ⟨w',q1,q2⟩:=map_some p3;obtain ⟨n1,n2,n3⟩:=next hI q1 (hk nofun) p2
    exact ⟨w',q2.symm,⟨n2,n3⟩,n1⟩
   | exit j=>
    have p3:(bif Nat.beq j i then (B.coll g (b9 c) s s').map .inr else none)=some y:=p3
    cases hj:Nat.beq j i with
    | true=>
     rw [hj] at p3;obtain ⟨v,q1,q2⟩:=map_some p3;have ej:=Nat.eq_of_beq_eq_true hj;subst ej;refine ⟨v,q2.symm,fun e=>?_⟩;subst e;obtain ⟨n1,n2,_⟩:=next hI q1 (hk nofun) p2
     exact ⟨_,n1,n2,h2⟩
    | false=>rw [hj] at p3;cases p3
   | ret=>cases p3
 | u l=>exact Dq hf l h
 | _=>cases h
def XS (g:Ge G) (A:List Nat) (b i:Nat) (post:List GA) (f:{R:Type}->An->DS G->Kn G R->Option R):{R:Type}->An->DS G->Kn G R->Option R
 | R,.l e _ P B a,s,K=>(match P.coll g A s s with
  | some w0=>(match e with
   | true=>(iter (fun w=>f a (P.eo g A s w) (⟨fun s'=>(P.coll g A s s').map .inl,fun j s'=>bif Nat.beq j i then (match Cu g b post s' with | some s2=>(B.coll g (A++o6 post) s s2).map fun v=> .inr (.inl v) | none=>none) else (K.x j s').map fun r=> .inr (.inr r),fun s'=>(K.r s').map fun r=> .inr (.inr r)⟩:Kn G (DL G P.ts⊕(DL G B.ts⊕R)))) w0).bind (Sum.elim (fun v=>K.n (B.eo g (A++o6 post) s v)) some)
   | false=>(iter (fun w=>f a (P.eo g A s w) (⟨fun s'=>(P.coll g A s s').map .inl,fun j s'=>bif Nat.beq j i then (match Cu g b post s' with | some s2=>(B.coll g (A++o6 post) s s2).map .inr | none=>none) else none,fun _=>none⟩:Kn G (DL G P.ts⊕DL G B.ts))) w0).bind fun v=>K.n (B.eo g (A++o6 post) s v))
  | none=>none)
 | _,.u l,s,K=>PU f l s ⟨fun _=>none,fun j s'=>bif Nat.beq j i then (match Cu g b post s' with | some s2=>K.n s2 | none=>none) else K.x j s',K.r⟩
 | _,_,_,_=>none
theorem RG {E:Env} {hp:Nat->Bool} {g:Ge G} (hg:g.Ok) (hw:g.Wk) {c:RC} {b i:Nat} {post:List GA} {f:{R:Type}->An->DS G->Kn G R->Option R} (hf:∀ {R:Type} (a:An) (s:DS G) (K:Kn G R) (r:R),f a s K=some r->Sat E hp g c b s K r)
 {a:An} {s:DS G} {K:Kn G R} {r:R} (h:XS g (b9 c) b i post f a s K=some r):Sat E hp g (.gh [] (.block i (.loop c)) post) b s K r:=by
 cases a with
 | l e _ P B a=>
  unfold XS at h;dsimp only at h;split at h
  case h_2=>cases h
  rename_i w0 hw0;let I:DL G P.ts->Prop:=fun w=>(P.eo g (b9 c) s w).FR g=s.FR g/\bG (b9 c) (s.tm g) ((P.eo g (b9 c) s w).tm g)
  have hs:=(Tm.W1 hw0).1;have first:(P.eo g (b9 c) s w0).st g=s.st g/\I w0:=by
   obtain ⟨q1,q2⟩:=Tm.ok hg hw0 (fun x u hm hi=>(jh (g:=g) hs hm).1) rfl;have e:(P.eo g (b9 c) s w0).tm g=s.tm g:=congrArg ST.tmps q1;exact ⟨q1,q2,by rw [e];exact bG.refl⟩
  have next:∀ {w:DL G P.ts} {v:DL G P.ts} {s':DS G},I w->P.coll g (b9 c) s s'=some v->bG (b9 c) ((P.eo g (b9 c) s w).tm g) (s'.tm g)->s'.FR g=(P.eo g (b9 c) s w).FR g->
   (P.eo g (b9 c) s v).st g=s'.st g/\(P.eo g (b9 c) s v).FR g=s.FR g/\bG (b9 c) (s.tm g) ((P.eo g (b9 c) s v).tm g):=by
   intro w v s' hI h1 h2 h3;have hk:=hI.2.trans h2;obtain ⟨q1,q2⟩:=Tm.ok hg h1 (fun x u hm hi=>by
    obtain ⟨g1,g2⟩:=jh (g:=g) hs hm;rw [<-g1];exact hk x g2) (by rw [h3,hI.1])
   have e:(P.eo g (b9 c) s v).tm g=s'.tm g:=congrArg ST.tmps q1;exact ⟨q1,by rw [q2,h3,hI.1],by rw [e];exact hk⟩
  have last:∀ {w:DL G P.ts} {v:DL G B.ts} {s' s2:DS G},I w->Cu g b post s'=some s2->B.coll g (b9 c++o6 post) s s2=some v->bG (b9 c) ((P.eo g (b9 c) s w).tm g) (s'.tm g)->s'.FR g=(P.eo g (b9 c) s w).FR g->
   cD b post (s'.st g)=some ((B.eo g (b9 c++o6 post) s v).st g)/\(B.eo g (b9 c++o6 post) s v).FR g=s.FR g:=by
   intro w v s' s2 hI h0 h1 h2 h3;obtain ⟨g3,g4⟩:=y6 hg hw h0;have hk:bG (b9 c++o6 post) (s.tm g) (s2.tm g):=(hI.2.trans h2).wN.trans (bG.yR (pV g3));obtain ⟨q1,q2⟩:=Tm.ok hg h1 (fun x u hm hi=>by
    obtain ⟨g1,g2⟩:=jh (g:=g) hs hm;rw [<-g1];exact hk x g2) (by rw [g4,h3,hI.1])
   exact ⟨by rw [g3,q1],by rw [q2,g4,h3,hI.1]⟩
  unfold Sat;refine HU.2 ?_;show WP E hp (.block i (.loop c)) b _ (s.st g);refine uX.2 ?_;rw [<-first.1]
  cases e with
  | true=>
   obtain ⟨z,h1,h2⟩:=bind_some h;refine kH (fun w=>(P.eo g (b9 c) s w).st g) I (fun w y hI hb=>?_) _ _ first.2 h1
   refine (ng (hf _ _ _ _ hb)).mono ?_;rintro ex σ ⟨⟨s',p1,p2,p3⟩,hk⟩;subst p1
   cases ex with
   | normal=>
    obtain ⟨w',q1,q2⟩:=map_some p3;obtain ⟨n1,n2,n3⟩:=next hI q1 (hk nofun) p2
    exact ⟨w',q2.symm,⟨n2,n3⟩,n1⟩
   | exit j=>
    have p3:(bif Nat.beq j i then (match Cu g b post s' with | some s2=>(B.coll g (b9 c++o6 post) s s2).map fun v=> .inr (.inl v) | none=>none) else (K.x j s').map fun r=> .inr (.inr r))=some y:=p3
    cases hj:Nat.beq j i with
    | true=>
     rw [hj] at p3;have p3:(match Cu g b post s' with | some s2=>(B.coll g (b9 c++o6 post) s s2).map fun v=> .inr (.inl v) | none=>none)=some y:=p3;split at p3
     case h_2=>cases p3
     rename_i s2 wE;obtain ⟨v,q1,q2⟩:=map_some p3;have ej:=Nat.eq_of_beq_eq_true hj;subst ej;refine ⟨.inl v,q2.symm,fun e=>?_⟩;subst e;obtain ⟨n1,n2⟩:=last hI wE q1 (hk nofun) p2;dsimp only;rw [if_pos rfl,n1];exact ⟨_,rfl,n2,h2⟩
    | false=>
     rw [hj] at p3;obtain ⟨v,q1,q2⟩:=map_some p3;refine ⟨.inr v,q2.symm,fun e=>?_⟩;subst e;have h2:some v=some r:=h2;injection h2 with h2;subst h2
     dsimp only;rw [if_neg (by rintro rfl;rw [show Nat.beq j j=true from Nat.beq_refl j] at hj;cases hj)];exact ⟨s',rfl,by rw [p2,hI.1],q1⟩
   | ret=>
    obtain ⟨v,q1,q2⟩:=map_some p3;refine ⟨.inr v,q2.symm,fun e=>?_⟩;subst e;have h2:some v=some r:=h2;injection h2 with h2;subst h2
    exact ⟨s',rfl,by rw [p2,hI.1],q1⟩
  | false=>
   obtain ⟨z,h1,h2⟩:=bind_some h;refine kH (fun w=>(P.eo g (b9 c) s w).st g) I (fun w y hI hb=>?_) _ _ first.2 h1
   refine (ng (hf _ _ _ _ hb)).mono ?_;rintro ex σ ⟨⟨s',p1,p2,p3⟩,hk⟩;subst p1
   cases ex with
   | normal=>
    obtain ⟨w',q1,q2⟩:=map_some p3;obtain ⟨n1,n2,n3⟩:=next hI q1 (hk nofun) p2
    exact ⟨w',q2.symm,⟨n2,n3⟩,n1⟩
   | exit j=>
    have p3:(bif Nat.beq j i then (match Cu g b post s' with | some s2=>(B.coll g (b9 c++o6 post) s s2).map .inr | none=>none) else none)=some y:=p3
    cases hj:Nat.beq j i with
    | true=>
     rw [hj] at p3;have p3:(match Cu g b post s' with | some s2=>(B.coll g (b9 c++o6 post) s s2).map .inr | none=>none)=some y:=p3;split at p3
     case h_2=>cases p3
     rename_i s2 wE;obtain ⟨v,q1,q2⟩:=map_some p3;have ej:=Nat.eq_of_beq_eq_true hj;subst ej;refine ⟨v,q2.symm,fun e=>?_⟩;subst e;obtain ⟨n1,n2⟩:=last hI wE q1 (hk nofun) p2;dsimp only;rw [if_pos rfl,n1];exact ⟨_,rfl,n2,h2⟩
    | false=>rw [hj] at p3;cases p3
   | ret=>cases p3
 | u l=>
  have h:PU f l s ⟨fun _=>none,fun j s'=>bif Nat.beq j i then (match Cu g b post s' with | some s2=>K.n s2 | none=>none) else K.x j s',K.r⟩=some r:=h;have hw1:=Dq hf l h;unfold Sat;refine HU.2 ?_;show WP E hp (.block i (.loop c)) b _ (s.st g);refine uX.2 ?_;refine hw1.mono ?_;rintro e σ ⟨s',p1,p2,p3⟩;subst p1
  cases e with
  | normal=>cases p3
  | exit j=>
   have p3:(bif Nat.beq j i then (match Cu g b post s' with | some s2=>K.n s2 | none=>none) else K.x j s')=some r:=p3
   cases hj:Nat.beq j i with
   | true=>
    rw [hj] at p3;have p4:(match Cu g b post s' with | some s2=>K.n s2 | none=>none)=some r:=p3
    cases wE:Cu g b post s' with
    | none=>rw [wE] at p4;cases p4
    | some s2=>
     rw [wE] at p4;obtain ⟨g3,g4⟩:=y6 hg hw wE;have ej:=Nat.eq_of_beq_eq_true hj;dsimp only;rw [if_pos ej,g3];exact ⟨s2,rfl,by rw [g4,p2],p4⟩
   | false=>
    rw [hj] at p3;have p3:K.x j s'=some r:=p3;have ej:¬ j=i:=Nat.ne_of_beq_eq_false hj;dsimp only;rw [if_neg ej];exact ⟨s',rfl,p2,p3⟩
  | ret=>exact ⟨s',rfl,p2,p3⟩
 | _=>cases h
end
end nT
