/- Typed states: code, and that the machine does it. No condition. -/
import Derived.Test.YtafgdbaekppjcaaGreatDoorDnI
set_option linter.unusedSectionVars false
set_option linter.unusedVariables false
set_option linter.unusedSimpArgs false
namespace oe
open Go hiding Obj mark
open Go.Pl Go.Am Go.Am.As
structure Cx (G:Nat->Type) where
 g:Ge G
 gl:Nat->List AV
 fns:Nat->Option RF
 hp:Nat->Bool
 C:List (gS G)
 CH:List (eR G)
 K:List (Nat×List AV×AV)
section
variable {G:Nat->Type} {R:Type}
def VV (X:Cx G) (rec:Rec G) (rf:RF) (xs:List (TV G)) (a:An) (s:DS G) (k:TV G->DS G->Option R):Option R:=
 if Nat.beq xs.length rf.nargs&&(Nat.ble rf.nargs rf.ntmps&&Ju s.fr.length s.H) then
  let ret:DS G->Option R:=fun s'=>match pP X.g s' rf.results with
   | some l=>(match s'.leave s.fr.length with | some s2=>k (y5 l) s2 | none=>none)
   | none=>none
  rec rf.body a s.H.length (s.enter rf.ntmps (fC xs 0) ([],.skip,.skip)) ⟨ret,fun _ _=>none,ret⟩
 else none
def Mz (X:Cx G) (s:DS G) (xs:List (TV G)) (k:TV G->DS G->Option R):Option R:=match xs with
 | [.own id]=>(match s.H[id]? with
  | some (.aQ fl t l)=>(match t,l with
   | .int .i64,l=>if fl.free then (Zi l).bind fun v=>k (.aY []) (s.gV id (.aQ fl (.int .i64) v)) else none
   | _,_=>none)
  | _=>none)
 | _=>none
def VW (X:Cx G) (s:DS G) (xs:List (TV G)) (k:TV G->DS G->Option R):Option R:=match xs with
 | [.own id]=>(match s.H[id]? with
  | some (.aQ fl t l)=>(match t,l with
   | .int .i64,l=>if fl.free then (Zj l).bind fun v=>if (s.cY id .dead).fits s.H.length (.aQ fl (.int .i64) v) then k (.own s.H.length) ((s.cY id .dead).dL s.H.length (.aQ fl (.int .i64) v)) else none else none
   | _,_=>none)
  | _=>none)
 | _=>none
def Rl (X:Cx G) (s:DS G) (nf:Nat) (o:dA) (l:List (TV G)) (k:TV G->DS G->Option R):Option R:=
 if Ju nf (o.mem X.g l)&&(rj s.sl&&rm s.fr) then k (y5 (o.res X.g l)) ⟨s.sz,s.sl,o.mem X.g l,s.fr⟩ else none
def dhc (X:Cx G) (s:DS G) (p:(c:eR G)×DL G c.ts) (k:TV G->DS G->Option R):Option R:=
 (p.1.m p.2).bind (Sum.elim (fun w=>Rl X s p.1.i.fr.length p.1.o1 (aI X.g p.1.o1.ts w) k) (fun w=>Rl X s p.1.i.fr.length p.1.o2 (aI X.g p.1.o2.ts w) k))
def Df (X:Cx G) (rec:Rec G) (dr:Bool) (a:An) (s:DS G) (f:Nat) (xs:List (TV G)) (k:TV G->DS G->Option R):Option R:=
 if !dr&&(X.hp f||BE xs) then (match qS X.g f xs s X.CH with
  | some p=>dhc X s p k
  | none=>(match X.fns f with | some rf=>if Nat.beq rf.nargs 999 then Mz X s xs k else if Nat.beq rf.nargs 998 then VW X s xs k else VV X rec rf xs a s k | none=>none)) else none
def VX (X:Cx G) (s:DS G) (xs:List (TV G)) (p:(c:gS G)×DL G c.ts) (k:TV G->DS G->Option R):Option R:=
 if (TV.mS xs||wM p.1.rs)&&ig (p.1.vs X.g p.2) then (p.1.m p.2).bind fun r=>k (y5 (aI X.g p.1.rs r)) s else none
def VY:AV->TV G->Bool
 | .int k n,v=>(match v with | .int k' n'=>decide (k=k')&&decide (n=n') | _=>false)
 | .bool b,v=>(match v with | .bool b'=>b==b' | _=>false)
 | _,_=>false
def HY:List AV->List (TV G)->Bool
 | [],xs=>(match xs with | []=>true | _::_=>false)
 | a::as,xs=>(match xs with | x::xs=>VY a x&&HY as xs | []=>false)
def HZ (f:Nat) (xs:List (TV G)):List (Nat×List AV×AV)->Option AV
 | []=>none
 | p::r=>if Nat.beq p.1 f&&HY p.2.1 xs then some p.2.2 else HZ f xs r
def Db (X:Cx G) (s:DS G) (f:Nat) (xs ys:List (TV G)) (k:TV G->DS G->Option R) (els:Option R):Option R:=match HZ f xs X.K with
 | some v=>k (uX v) s
 | none=>(match kM X.g f ys X.C with
  | some p=>VX X s xs p k
  | none=>els)
def Dg (X:Cx G) (rec:Rec G) (dr:Bool) (a:An) (s:DS G) (f:Nat) (xs:List (TV G)) (k:TV G->DS G->Option R):Option R:=
 if dr|| !X.hp f then
  (match pH (Cr s.H 6) xs with
   | some ys=>Db X s f xs ys k (Df X rec dr a s f xs k)
   | none=>Df X rec dr a s f xs k)
 else Df X rec dr a s f xs k
def FX (l:List (Nat×TV G)):Nat->Nat->List (Nat×TV G)
 | 0,_=>[]
 | n+1,i=>(i,FY l i)::FX l n (i+1)
def zI:List Nat->List (TV G)->Nat->List (Nat×TV G)->List (Nat×TV G)
 | p::ps,x::xs,sz,l=>zI ps xs sz (if p < sz then LC l p x else l)
 | _,_,_,l=>l
def VZ (X:Cx G) (rec:Rec G) (a:An) (s:DS G) (l:Nat) (xs:List (TV G)) (k:TV G->DS G->Option R):Option R:=match s.H[l]? with
 | some (.lp st fi)=>(match s.fr[fi]? with
  | some f=>if st= .ready/\xs.length=f.2.2.1.length/\Ju s.fr.length s.H=true then
   let back:Ls->Bool->DS G->Option R:=fun y b s'=>match sY .busy y s' l with
    | some s2=>(match s2.leave s.fr.length with | some s3=>k (.bool b) s3 | none=>none)
    | none=>none
   rec f.2.2.2.1 (a.sub 0) s.H.length (s.enter f.1 (zI f.2.2.1 xs f.1 (FX f.2.1 f.1 0)) ([],.skip,.skip))
    ⟨fun s1=>(match sY .ready .busy s1 l with
     | some s2=>rec f.2.2.2.2 (a.sub 1) s.H.length s2 ⟨back .ready true,fun i=>back (.done (.exit i)) false,back (.done .ret) false⟩
     | none=>none),fun _ _=>none,fun _=>none⟩
   else none
  | none=>none)
 | _=>none
def Ul:TV G->Option Nat
 | .raw v=>(match v with | .fA l=>some l | _=>none)
 | _=>none
def QY:TV G->Option (Nat×List (TV G))
 | .fn f l=>some (f,l)
 | _=>none
def H7:List AV->Option (List (TV G))
 | []=>some []
 | .aJ id 1 0 o::r=>(match H7 r with | some l=>some (.po id o::l) | none=>none)
 | _::_=>none
def MA:TV G->Option (Nat×List (TV G))
 | .raw v=>(match v with | .eD f q=>(match H7 q with | some l=>some (f,l) | none=>none) | _=>none)
 | _=>none
def Y9 (X:Cx G) (rec:Rec G) (dr:Bool) (a:An) (s:DS G) (op:RO) (k:TV G->DS G->Option R):Option R:=match op with
 | .call f args=>Dg X rec dr a s f (args.map (s.rx X.gl)) k
 | .gf x args=>(match QY (s.rx X.gl x) with
  | some p=>Dg X rec dr a s p.1 (args.map (s.rx X.gl)++p.2) k
  | none=>(match Ul (s.rx X.gl x) with
   | some l=>if dr then none else VZ X rec a s l (args.map (s.rx X.gl)) k
   | none=>(match MA (s.rx X.gl x) with
    | some p=>Dg X rec dr a s p.1 (p.2++args.map (s.rx X.gl)) k
    | none=>none)))
 | op=>ev X.g X.gl s s.H.length op k
def Rm:Option Nat->List Nat
 | some d=>[d]
 | none=>[]
def vR (X:Cx G) (rec:Rec G) (dr:Bool) (a:An) (d:Option Nat) (op:RO) (s:DS G) (k:DS G->Option R):Option R:=match a with
 | .j _ P a=>(Y9 X rec dr a s op fun v s'=>P.coll X.g (Rm d) s (s'.cS d v)).bind fun w=>k (P.eC X.g (Rm d) s w)
 | a=>Y9 X rec dr a s op fun v s'=>k (s'.cS d v)
def Gy:TV G->Bool
 | .raw v=>(match v with | .aY l=>(match l with | []=>true | _::_=>false) | _=>false)
 | _=>false
def Bt:TV G->Option Bool
 | .bool b=>some b
 | _=>none
def qM (X:Cx G) (rec:Rec G) (dr:Bool):List bH->Nat->An->DS G->(DS G->Option R)->Option R
 | [],_,_,s,k=>k s
 | o::os,i,a,s,k=>match o.guard with
  | none=>vR X rec dr (a.op i) o.dst o.op s fun s'=>qM X rec dr os (i+1) a s' k
  | some p=>(match Bt (s.get p.1) with
   | some c=>if p.2 then
    cond c (vR X rec dr (a.op i) o.dst o.op (s.rep p.1 (.bool true)) fun s'=>qM X rec dr os (i+1) a s' k) (qM X rec dr os (i+1) a ((s.rep p.1 (.bool false)).cS o.dst (.raw (.aY []))) k)
    else
     cond c (qM X rec dr os (i+1) a ((s.rep p.1 (.bool true)).cS o.dst (.raw (.aY []))) k) (vR X rec dr (a.op i) o.dst o.op (s.rep p.1 (.bool false)) fun s'=>qM X rec dr os (i+1) a s' k)
   | none=>if Gy (s.get p.1) then qM X rec dr os (i+1) a (s.cS o.dst (.raw (.aY []))) k else none)
def nD (E:Env) (hp:Nat->Bool) (g:Ge G) (rec:Rec G):Prop:=∀ {R:Type} (c:RC) (a:An) (b:Nat) (s:DS G) (K:Kn G R) (r:R),rec c a b s K=some r->
 WP E hp c b (fun e σ=>∃ s':DS G,s'.st g=σ/\s'.FR g=s.FR g/\K.at e s'=some r) (s.st g)
structure Cx.Ok (X:Cx G) (E:Env):Prop where
 g:X.g.Ok
 wk:X.g.Wk
 gl:X.gl=E.aF
 fns:X.fns=E.fns
 C:∀ c∈X.C,c.Ok E X.hp X.g
 CH:∀ c∈X.CH,c.Ok E X.hp X.g
 K:∀ p∈X.K,Pt E X.hp p.1 p.2.1 p.2.2
def CK (g:Ge G) (s:DS G) (k:TV G->DS G->Option R) (r:R) (v:AV) (H:List Obj):Prop:=∃ (w:TV G) (s':DS G),v=w.av g s'.ln/\s'.Hv g=H/\s'.tm g=s.tm g/\s'.FR g=s.FR g/\k w s'=some r
theorem Tb {X:Cx G} {E:Env} (hX:X.Ok E) {rec:Rec G} (hr:nD E X.hp X.g rec) {f:Nat} {rf:RF} (hf:E.fns f=some rf) {xs:List (TV G)} {a:An} {s:DS G} {k:TV G->DS G->Option R} {r:R}
 (hc:X.hp f=true\/snaps (s.Hv X.g) (TV.aP X.g s.ln xs)=none) (h:VV X rec rf xs a s k=some r):WC E X.hp false f (TV.aP X.g s.ln xs) (s.Hv X.g) (CK X.g s k r):=by
 unfold VV at h;split at h
 case isFalse=>cases h
 rename_i hb;simp only [za0] at hb;have e1:=za3 hb.1;have e2:=zaB hb.2.1;obtain ⟨k1,k2,k3⟩:=Et (g:=X.g) s rf.ntmps (fC xs 0) ([],.skip,.skip) hb.2.2;have hw:=hr _ _ _ _ _ _ h;obtain ⟨na,nt,rs,body⟩:=rf;refine Xv hf hc (by rw [dy];exact e1) e2 ?_;rw [fG];have hst:(s.enter nt (fC xs 0) ([],.skip,.skip)).st X.g=⟨⟨nt,T.kq (TV.aP X.g s.ln xs) 0⟩,s.Hv X.g⟩:=by
  show (⟨DS.tm X.g _,DS.Hv X.g _⟩:ST)=_;rw [k1,k3,lK]
 dsimp only at hw;rw [hst] at hw;have fin:∀ {s':DS G} {σ:ST},s'.st X.g=σ->s'.FR X.g=(s.enter nt (fC xs 0) ([],.skip,.skip)).FR X.g->
  (match pP X.g s' rs with
  | some l=>(match s'.leave s.fr.length with | some s2=>k (y5 l) s2 | none=>none)
  | none=>none)=some r->∃ l,bQ rs σ=some l/\CK X.g s k r (oneOf l) σ.H:=by
  intro s' σ h1 h2 h3;split at h3
  case h_2=>cases h3
  rename_i l hl;split at h3
  case h_2=>cases h3
  rename_i s2 yP;obtain ⟨p1,p2,p3,p4⟩:=xp (g:=X.g) yP (by rw [h2,k2]);refine ⟨TV.aP X.g s'.ln l,by rw [<-h1];exact mG hX.g hl,y5 l,s2,by rw [vo,p3],?_,p1,p2,h3⟩;rw [p4,<-h1];rfl
 refine hw.mono fun e σ q=>?_
 obtain ⟨s',h1,h2,h3⟩:=q
 cases e with
 | exit i=>cases h3
 | normal=>exact fin h1 h2 h3
 | ret=>exact fin h1 h2 h3
theorem IY {E:Env} {hp:Nat->Bool} {f:Nat} {xs:List AV} {H:List Obj} {K:AV->List Obj->Prop} (hf:hp f=true\/snaps H xs=none) {n:Nat} {v:AV} {H':List Obj} (hc:kg E.fns (ak E hp n) (some f) xs H=some (v,H')) (hk:K v H'):WC E hp false f xs H K:=by
 refine ⟨n,v,H',?_,hk⟩;unfold bJ;simp only [cond_false];by_cases hp':hp f=true
 ·rw [if_pos hp'];exact hc
 ·rw [if_neg hp'];rcases hf with hf | hf
  ·exact (hp' hf).elim
  ·rw [hf];exact hc
theorem Jj {X:Cx G} {E:Env} {f:Nat} {xs:List (TV G)} {s s0:DS G} {nf:Nat} {o:dA} {l:List (TV G)} {k:TV G->DS G->Option R} {r:R} (hf:X.hp f=true\/snaps (s.Hv X.g) (TV.aP X.g s.ln xs)=none)
 (e1:s0.ln=s.ln) (e2:TV.aP X.g s.ln (vals s0.sl)=TV.aP X.g s.ln xs) (e3:s0.Hv X.g=s.Hv X.g) (e4:s0.FR X.g=(s.FR X.g).take nf)
 (hc:dA.Is E X.hp X.g f s0 o l) (h:Rl X s nf o l k=some r):WC E X.hp false f (TV.aP X.g s.ln xs) (s.Hv X.g) (CK X.g s k r):=by
 unfold Rl at h;split at h
 case isFalse=>cases h
 rename_i hb;simp only [za0] at hb;obtain ⟨CJ,Fz,hb3⟩:=hb;obtain ⟨n,h1,h2⟩:=hc;rw [e1,e2,e3] at h1;have yM:(⟨s.sz,s.sl,o.mem X.g l,s.fr⟩:DS G).FR X.g=s.FR X.g:=(qj (g:=X.g) hb3);refine IY hf h1 ⟨y5 (o.res X.g l),_,by rw [vo];rfl,?_,?_,yM,h⟩
 ·show (o.mem X.g l).map (TO.av X.g (ju (o.mem X.g l)) (DS.FR X.g ⟨s.sz,s.sl,o.mem X.g l,s.fr⟩))=(o.mem X.g l).map (TO.av X.g (ju (o.mem X.g l)) (DS.FR X.g ⟨0,[],o.mem X.g l,s0.fr⟩));rw [yM,h2,e4];exact (nI (g:=X.g) (n:=nf) (fun i hi=>by rw [zbn,if_pos hi]) CJ).symm
 ·show (⟨s.sz,_⟩:T)=⟨s.sz,_⟩;rw [qi (g:=X.g) (ln:=DS.ln ⟨s.sz,s.sl,o.mem X.g l,s.fr⟩) (cc:=s.ln) Fz]
theorem XJ {X:Cx G} {E:Env} (hX:X.Ok E) {f:Nat} {xs:List (TV G)} {s:DS G} {p:(c:eR G)×DL G c.ts} {k:TV G->DS G->Option R} {r:R} (hf:X.hp f=true\/snaps (s.Hv X.g) (TV.aP X.g s.ln xs)=none)
 (hp:qS X.g f xs s X.CH=some p) (h:dhc X s p k=some r):WC E X.hp false f (TV.aP X.g s.ln xs) (s.Hv X.g) (CK X.g s k r):=by
 unfold dhc at h;obtain ⟨u,h1,h2⟩:=bind_some h;obtain ⟨q1,q2,q3,q4,q5,q6,_⟩:=Dq hX.g hp;have hc:=hX.CH _ q1 _ _ h1;rw [q2] at hc
 cases u with
 | inl w=>exact Jj hf q3 q4 q5 q6 hc h2
 | inr w=>exact Jj hf q3 q4 q5 q6 hc h2
theorem qy:∀ l:List Int,kV (l.map fun n=>[AV.int .i64 n])=some l
 | []=>rfl
 | x::l=>by rw [za5,kV,qy l]
theorem PW {X:Cx G} {E:Env} (hX:X.Ok E) {f:Nat} {rf:RF} (hf:E.fns f=some rf) (h9:rf.nargs=999) {xs:List (TV G)} {s:DS G} {k:TV G->DS G->Option R} {r:R}
 (hc:X.hp f=true\/snaps (s.Hv X.g) (TV.aP X.g s.ln xs)=none) (h:Mz X s xs k=some r):WC E X.hp false f (TV.aP X.g s.ln xs) (s.Hv X.g) (CK X.g s k r):=by
 unfold Mz at h;split at h
 case h_2=>cases h
 rename_i id;split at h
 case h_2=>cases h
 rename_i fl t l hid;split at h
 case h_2=>cases h
 rename_i l;split at h
 case isFalse=>cases h
 rename_i hfl;obtain ⟨v,h1,h2⟩:=bind_some h;unfold Zi at h1;split at h1
 case isFalse=>cases h1
 rename_i Lt;injection h1 with h1
 have hv:v=sorted l:=h1.symm;subst hv;have u6:s.ln id=l.length:=by unfold DS.ln ju;rw [hid];rfl
 have hlen:(TO.aQ fl (.int .i64) (sorted l):TO G).len=s.ln id:=by
  rw [u6];exact List.length_mergeSort l
 have hH:=bl (g:=X.g) hid;have hav:TO.av X.g s.ln (s.FR X.g) (.aQ fl (.int .i64) l)= .live fl 1 (l.map fun n=>[AV.int .i64 n]):=rfl;rw [hav] at hH;refine M6 (r:= .aY []) (H':=(s.gV id (.aQ fl (.int .i64) (sorted l))).Hv X.g) hc hf (by rw [h9];simp [TV.aP]) ?_ ⟨.aY [],_,rfl,rfl,Nk hlen,Cc hlen,h2⟩;unfold JL;rw [if_pos h9];show C2 [.own id (s.ln id) 0 (s.ln id)] _=_;unfold C2;simp only [hH,u6];have hml:∀ l:List Int,(l.map fun n=>[AV.int .i64 n]).length=l.length:=fun l=>zaa _
 rw [if_pos ⟨hfl,trivial,(hml l).symm,trivial,(hml l).symm,zaI (Nat.le_of_eq (hml l)) Lt⟩];rw [show kV (List.map (fun n=>[AV.int .i64 n]) l)=some l from qy l];simp only;rw [Jh hlen];rfl
theorem Tc {X:Cx G} {E:Env} (hX:X.Ok E) {f:Nat} {rf:RF} (hf:E.fns f=some rf) (h9:rf.nargs=998) {xs:List (TV G)} {s:DS G} {k:TV G->DS G->Option R} {r:R}
 (hc:X.hp f=true\/snaps (s.Hv X.g) (TV.aP X.g s.ln xs)=none) (h:VW X s xs k=some r):WC E X.hp false f (TV.aP X.g s.ln xs) (s.Hv X.g) (CK X.g s k r):=by
 unfold VW at h;split at h
 case h_2=>cases h
 rename_i id;split at h
 case h_2=>cases h
 rename_i fl t l hid;split at h
 case h_2=>cases h
 rename_i l;split at h
 case isFalse=>cases h
 rename_i hfl;obtain ⟨v,h1,h2⟩:=bind_some h;unfold Zj at h1;split at h1
 case isFalse=>cases h1
 rename_i Lt;injection h1 with h1
 have hv:v=Go.Lib.compact (α:=Int) l:=h1.symm;subst hv;split at h2
 case isFalse=>cases h2
 rename_i hfit;have u6:s.ln id=l.length:=by unfold DS.ln ju;rw [hid];rfl
 have hH:=bl (g:=X.g) hid;have hav:TO.av X.g s.ln (s.FR X.g) (.aQ fl (.int .i64) l)= .live fl 1 (l.map fun n=>[AV.int .i64 n]):=rfl;rw [hav] at hH;obtain ⟨n1,n2,n3⟩:=fq (g:=X.g) hfit;have vJ:(s.cY id .dead).H.length=s.H.length:=by simp [DS.cY]
 have X2:((s.cY id .dead).Hv X.g).length=s.H.length:=by rw [fG,vJ]
 have aeY:((s.cY id .dead).dL s.H.length (.aQ fl (.int .i64) (Go.Lib.compact (α:=Int) l))).ln s.H.length=(Go.Lib.compact (α:=Int) l).length:=by
  unfold DS.ln ju DS.dL;dsimp only;rw [if_neg (by omega),zaj (by omega)];simp [vJ];rfl
 refine M6 (r:= .own s.H.length (Go.Lib.compact (α:=Int) l).length 0 (Go.Lib.compact (α:=Int) l).length) (H':=((s.cY id .dead).dL s.H.length (.aQ fl (.int .i64) (Go.Lib.compact (α:=Int) l))).Hv X.g) hc hf (by rw [h9];simp [TV.aP]) ?_
  ⟨.own s.H.length,_,by show _=AV.own _ _ _ _;rw [aeY],rfl,by rw [n1,Nl],by rw [n2,Ce],h2⟩
 unfold JL;rw [if_neg (by rw [h9];decide),if_pos h9];show Lh [.own id (s.ln id) 0 (s.ln id)] _=_;unfold Lh;simp only [hH,u6];have hml:∀ l:List Int,(l.map fun n=>[AV.int .i64 n]).length=l.length:=fun l=>zaa _
 rw [if_pos ⟨hfl,trivial,(hml l).symm,trivial,(hml l).symm,zaI (Nat.le_of_eq (hml l)) Lt⟩];rw [show kV (List.map (fun n=>[AV.int .i64 n]) l)=some l from qy l];simp only;rw [n3];unfold putObj;rw [if_neg (by omega),Ji,fG];rfl
theorem xR {X:Cx G} {E:Env} (hX:X.Ok E) {rec:Rec G} (hr:nD E X.hp X.g rec) {dr:Bool} {f:Nat} {xs:List (TV G)} {a:An} {s:DS G} {k:TV G->DS G->Option R} {r:R}
 (h:Df X rec dr a s f xs k=some r):WC E X.hp dr f (TV.aP X.g s.ln xs) (s.Hv X.g) (CK X.g s k r):=by
 unfold Df at h;split at h
 case isFalse=>cases h
 rename_i hb;simp only [za0,zbe] at hb;rw [hb.1];have hs:X.hp f=true\/snaps (s.Hv X.g) (TV.aP X.g s.ln xs)=none:=by
  rcases (zat _ _).mp hb.2 with h | h
  ·exact .inl h
  ·exact .inr (AA h)
 split at h
 ·rename_i p hp;exact XJ hX hs hp h
 ·split at h
  case h_2=>cases h
  rename_i rf hf;rw [hX.fns] at hf;split at h
  ·rename_i h9;exact PW hX hf (za3 h9) hs h
  ·split at h
   ·rename_i h9;exact Tc hX hf (za3 h9) hs h
   ·exact Tb hX hr hf hs h
theorem Td {X:Cx G} {E:Env} (hX:X.Ok E) {dr:Bool} {f:Nat} {xs ys:List (TV G)} {s:DS G} {p:(c:gS G)×DL G c.ts} {k:TV G->DS G->Option R} {r:R}
 (hd:dr=true\/X.hp f=false) (hy:pH (Cr s.H 6) xs=some ys) (hp:kM X.g f ys X.C=some p) (h:VX X s xs p k=some r):WC E X.hp dr f (TV.aP X.g s.ln xs) (s.Hv X.g) (CK X.g s k r):=by
 unfold VX at h;split at h
 case isFalse=>cases h
 rename_i hb;rw [za0] at hb;obtain ⟨v,h1,h2⟩:=bind_some h;obtain ⟨e1,e2,e3⟩:=yz hX.g (ln:=s.ln) hp;have hpt:=hX.C _ e1 _ _ h1;rw [e2,eH (cc:=s.ln) _ hb.2,e3] at hpt;have YZ:snaps (s.Hv X.g) (TV.aP X.g s.ln xs)=some (TV.aP X.g s.ln ys):=oh (fun x y e=>mz hX.g 6 e) hy;have hck:CK X.g s k r (oneOf (vN X.g p.1.rs v)) (s.Hv X.g):=⟨y5 (aI X.g p.1.rs v),s,by rw [vo,ir hX.g],rfl,rfl,rfl,h2⟩;rcases (zat _ _).mp hb.1 with hf | hf
 ·have e:=PX hX.g hf YZ;rw [e] at hpt;exact IX hd (eG hX.g s.ln xs hf) hpt hck
 ·exact Sw hd YZ hpt (G8 (AB v hf)) hck
theorem Te {g:Ge G} {ln:Nat->Nat}:∀ {a:AV} {v:TV G},VY a v=true->v.av g ln=a/\a.bD 0=true:=by
 intro a v h
 cases a with
 | int k n=>cases v with
  | int k' n'=>
   have h:(decide (k=k')&&decide (n=n'))=true:=h;rw [za0,decide_eq_true_eq,decide_eq_true_eq] at h;obtain ⟨rfl,rfl⟩:=h;exact ⟨rfl,rfl⟩
  | _=>cases h
 | bool b=>cases v with
  | bool b'=>
   have h:(b==b')=true:=h;rw [eq_of_beq h];exact ⟨rfl,rfl⟩
  | _=>cases h
 | _=>cases h
theorem Eu {g:Ge G} {ln:Nat->Nat}:∀ {as:List AV} {xs:List (TV G)},HY as xs=true->TV.aP g ln xs=as/\AV.aR 0 as=true
 | [],[],_=>⟨rfl,rfl⟩
 | [],_::_,h=>by cases h
 | _::_,[],h=>by cases h
 | a::as,x::xs,h=>by
  have h:(VY a x&&HY as xs)=true:=h;rw [za0] at h;obtain ⟨h1,h2⟩:=Te (g:=g) (ln:=ln) h.1;obtain ⟨h3,h4⟩:=Eu (g:=g) (ln:=ln) h.2;exact ⟨by rw [TV.aP,h1,h3],by rw [AV.aR,h2,h4];rfl⟩
theorem Ev {g:Ge G} {ln:Nat->Nat} {f:Nat} {xs:List (TV G)} {v:AV}:∀ {K:List (Nat×List AV×AV)},HZ f xs K=some v->(f,TV.aP g ln xs,v)∈K/\AV.aR 0 (TV.aP g ln xs)=true
 | [],h=>by cases h
 | p::r,h=>by
  rw [HZ] at h;split at h
  ·rename_i e;rw [za0] at e;injection h with h;subst h
   obtain ⟨h1,h2⟩:=Eu (g:=g) (ln:=ln) e.2;have e1:=za3 e.1;subst e1;rw [h1];exact ⟨zaP ..,h2⟩
  ·obtain ⟨h1,h2⟩:=Ev (g:=g) (ln:=ln) h;exact ⟨zau _ h1,h2⟩
theorem xL {X:Cx G} {E:Env} (hX:X.Ok E) {dr:Bool} {f:Nat} {xs ys:List (TV G)} {s:DS G} {k:TV G->DS G->Option R} {els:Option R} {r:R}
 (hd:dr=true\/X.hp f=false) (hy:pH (Cr s.H 6) xs=some ys) (h:Db X s f xs ys k els=some r) (he:els=some r->WC E X.hp dr f (TV.aP X.g s.ln xs) (s.Hv X.g) (CK X.g s k r)):WC E X.hp dr f (TV.aP X.g s.ln xs) (s.Hv X.g) (CK X.g s k r):=by
 unfold Db at h;split at h
 ·rename_i v hv;obtain ⟨hm,hb⟩:=Ev (g:=X.g) (ln:=s.ln) hv;exact IX hd hb (hX.K _ hm) ⟨uX v,s,(vE _ _ v).symm,rfl,rfl,rfl,h⟩
 ·split at h
  ·rename_i p hp;exact Td hX hd hy hp h
  ·exact he h
theorem xS {X:Cx G} {E:Env} (hX:X.Ok E) {rec:Rec G} (hr:nD E X.hp X.g rec) {dr:Bool} {f:Nat} {xs:List (TV G)} {a:An} {s:DS G} {k:TV G->DS G->Option R} {r:R}
 (h:Dg X rec dr a s f xs k=some r):WC E X.hp dr f (TV.aP X.g s.ln xs) (s.Hv X.g) (CK X.g s k r):=by
 unfold Dg at h;split at h
 ·rename_i hb;have hd:dr=true\/X.hp f=false:=by
   rcases (zat _ _).mp hb with h | h
   ·exact .inl h
   ·exact .inr (by simpa using h)
  split at h
  ·rename_i ys hys;exact xL hX hd hys h fun h=>xR hX hr h
  ·exact xR hX hr h
 ·exact xR hX hr h
theorem XK {E:Env} {hp:Nat->Bool} {t:T} {H:List Obj} {K:T->List Obj->Prop} {d:Option Nat} {x:RX} {args:List RX} {os:List bH} {l:Nat} (hx:ga E.aF t x= .fA l) {n:Nat} {v:AV} {H1:List Obj}
 (h:vT (ak E hp n) (.fA l::args.map (ga E.aF t)) H=some (v,H1)) (hk:WO E hp false os (cS t d v) H1 K):WO E hp false (⟨d,none,.gf x args⟩::os) t H K:=by
 obtain ⟨m,t',H',h2,hq⟩:=hk;refine ⟨max n m,t',H',?_,hq⟩;rw [aZ];have h3:=Ao (bN (zby n m)) h;simp only [dh,bW,RO.kind,hx,cond_false];rw [show kg E.fns (ak E hp (max n m)) none (.fA l::args.map (ga E.aF t)) H=some (v,H1) from h3];dsimp only;rw [dU];exact kP (dr:=false) (zbs n m) h2
theorem Jk {g:Ge G} {ln:Nat->Nat} (l:List (Nat×TV G)):∀ (n i:Nat),dJ g ln (FX l n i)=T.kq ((List.range' i n).map fun j=>T.eY (dJ g ln l) j) i
 | 0,_=>rfl
 | n+1,i=>by
  show (i,_)::dJ g ln (FX l n (i+1))=_;rw [Jk l n (i+1),List.range'_succ,za5,T.kq,Cf]
theorem Tf {g:Ge G} {ln:Nat->Nat} (l:List (Nat×TV G)) (n:Nat):(⟨n,dJ g ln (FX l n 0)⟩:T)=T.Tv (T.toL ⟨n,dJ g ln l⟩):=by
 have h1:T.toL ⟨n,dJ g ln l⟩=(List.range' 0 n).map fun j=>T.eY (dJ g ln l) j:=by
  unfold T.toL;rw [zbX];rfl
 rw [h1,Jk];unfold T.Tv;rw [zaa,List.length_range']
theorem Ew {g:Ge G} {ln:Nat->Nat}:∀ (ps:List Nat) (xs:List (TV G)) (sz:Nat) (l:List (Nat×TV G)),(⟨sz,dJ g ln (zI ps xs sz l)⟩:T)=qY ps (TV.aP g ln xs) ⟨sz,dJ g ln l⟩
 | [],xs,sz,l=>by cases xs<;>rfl
 | p::ps,[],sz,l=>rfl
 | p::ps,x::xs,sz,l=>by
  rw [zI,Ew ps xs,TV.aP,qY];congr 1;unfold T.put;dsimp only;split
  ·rw [Cg]
  ·rfl
theorem Tg {X:Cx G} {E:Env} (hX:X.Ok E) {rec:Rec G} (hr:nD E X.hp X.g rec) {l:Nat} {xs:List (TV G)} {a:An} {s:DS G} {k:TV G->DS G->Option R} {r:R}
 (h:VZ X rec a s l xs k=some r):∃ n v H',vT (ak E X.hp n) (.fA l::TV.aP X.g s.ln xs) (s.Hv X.g)=some (v,H')/\CK X.g s k r v H':=by
 unfold VZ at h;split at h
 case h_2=>cases h
 rename_i st fi hl;split at h
 case h_2=>cases h
 rename_i f hf;split at h
 case isFalse=>cases h
 rename_i hc;obtain ⟨rfl,hlen,hb⟩:=hc;obtain ⟨Qw,Za,ps,as,body⟩:=f;dsimp only at h hlen;obtain ⟨k1,k2,k3⟩:=Et (g:=X.g) s Qw (zI ps xs Qw (FX Za Qw 0)) ([],.skip,.skip) hb;have yM:(s.FR X.g)[fi]?=some (⟨Qw,dJ X.g s.ln Za⟩,ps,as,body):=by unfold DS.FR;rw [zav,hf];rfl
 have hH:(s.Hv X.g)[l]?=some (.lp .ready (T.toL ⟨Qw,dJ X.g s.ln Za⟩) ps as body):=by
  rw [bl hl];simp only [TO.av,yM]
 obtain ⟨n1,e1,σ1,hx1,s1,p1,p2,p3⟩:=hr _ _ _ _ _ _ h
 cases e1 with
 | exit i=>cases p3
 | ret=>cases p3
 | normal=>
 have p3:(match sY .ready .busy s1 l with
  | some s2=>rec body (a.sub 1) s.H.length s2 ⟨_,_,_⟩
  | none=>none)=some r:=p3
 split at p3
 case h_2=>cases p3
 rename_i s2 yP;obtain ⟨q1,q2,q3⟩:=AD (g:=X.g) yP;obtain ⟨n2,e2,σ2,hx2,s3,r1,r2,r3⟩:=hr _ _ _ _ _ _ p3;have hst:(s.enter Qw (zI ps xs Qw (FX Za Qw 0)) ([],.skip,.skip)).st X.g=⟨qY ps (TV.aP X.g s.ln xs) (T.Tv (T.toL ⟨Qw,dJ X.g s.ln Za⟩)),s.Hv X.g⟩:=by
  show (⟨DS.tm X.g _,DS.Hv X.g _⟩:ST)=_;rw [k1,k3,Ew,Tf]
 rw [hst] at hx1;have YD:=bN (zby n1 n2) _ _ _ _ hx1;have hm2:=bN (zbs n1 n2) _ _ _ _ hx2;have abH:s2.st X.g=⟨σ1.tmps,s2.Hv X.g⟩:=by
  rw [<-p1];show (⟨DS.tm X.g _,DS.Hv X.g _⟩:ST)=⟨s1.tm X.g,_⟩;rw [q2]
 rw [abH] at hm2;have LD:jI .ready .busy σ1.H l=some (s2.Hv X.g):=by rw [<-p1];exact q1
 have hF3:s3.FR X.g=s.FR X.g++[(s.tm X.g,([],.skip,.skip))]:=by rw [r2,q3,p2,k2]
 have fin:∀ {y:Ls} {bb:Bool},(match sY .busy y s3 l with
  | some s2=>(match s2.leave s.fr.length with | some s3=>k (.bool bb) s3 | none=>none)
  | none=>none)=some r->∃ H2,jI .busy y σ2.H l=some H2/\CK X.g s k r (.bool bb) H2:=by
  intro y bb h3;split at h3
  case h_2=>cases h3
  rename_i s4 hs4;split at h3
  case h_2=>cases h3
  rename_i s5 hs5;obtain ⟨u1,u2,u3⟩:=AD (g:=X.g) hs4;obtain ⟨v1,v2,v3,v4⟩:=xp (g:=X.g) hs5 (by rw [u3,hF3]);exact ⟨s4.Hv X.g,by rw [<-r1];exact u1,.bool bb,s5,rfl,v4,v1,v2,h3⟩
 have hxl:(TV.aP X.g s.ln xs).length=ps.length:=by rw [dy];exact hlen
 cases e2 with
 | normal=>
  obtain ⟨H2,w1,w2⟩:=fin r3;refine ⟨max n1 n2,_,_,?_,w2⟩;unfold vT;dsimp only;rw [hH];dsimp only;rw [if_pos hxl,fG,YD];dsimp only;rw [LD];dsimp only;rw [hm2];dsimp only;rw [w1]
 | exit i=>
  obtain ⟨H2,w1,w2⟩:=fin r3;refine ⟨max n1 n2,_,_,?_,w2⟩;unfold vT;dsimp only;rw [hH];dsimp only;rw [if_pos hxl,fG,YD];dsimp only;rw [LD];dsimp only;rw [hm2];dsimp only;rw [w1]
 | ret=>
  obtain ⟨H2,w1,w2⟩:=fin r3;refine ⟨max n1 n2,_,_,?_,w2⟩;unfold vT;dsimp only;rw [hH];dsimp only;rw [if_pos hxl,fG,YD];dsimp only;rw [LD];dsimp only;rw [hm2];dsimp only;rw [w1]
theorem PY {v:TV G} {l:Nat} (h:Ul v=some l):v= .raw (.fA l):=by
 cases v with
 | raw a=>cases a<;>first | (injection h with h;subst h;rfl) | cases h
 | _=>cases h
theorem BP {v:TV G} {p:Nat×List (TV G)} (h:QY v=some p):v= .fn p.1 p.2:=by
 cases v with
 | fn f l=>injection h with h;subst h;rfl
 | _=>cases h
theorem Ey {g:Ge G} {ln:Nat->Nat}:∀ {q:List AV} {l:List (TV G)},H7 q=some l->TV.aP g ln l=q
 | [],l,h=>by injection h with h;subst h;rfl
 | x::r,l,h=>by
  unfold H7 at h;split at h
  ·rename_i e;cases e
  ·rename_i id o r' e;injection e with e1 e2
   subst e1;subst e2;split at h
   case h_2=>cases h
   rename_i m hm;injection h with h;subst h
   rw [TV.aP,Ey hm];rfl
  ·cases h
theorem PZ {g:Ge G} {ln:Nat->Nat} {v:TV G} {p:Nat×List (TV G)} (h:MA v=some p):v.av g ln= .eD p.1 (TV.aP g ln p.2):=by
 unfold MA at h;split at h
 case h_2=>cases h
 split at h
 case h_2=>cases h
 split at h
 case h_2=>cases h
 rename_i l hl;injection h with h;subst h
 show AV.eD _ _=_;rw [Ey hl]
theorem Nm {X:Cx G} {E:Env} (hX:X.Ok E) {rec:Rec G} (hr:nD E X.hp X.g rec) {dr:Bool} {a:An} {s:DS G} {d:Option Nat} {op:RO} {os:List bH} {k:TV G->DS G->Option R} {r:R} {Q:T->List Obj->Prop}
 (h:Y9 X rec dr a s op k=some r) (hk:∀ w s',s'.tm X.g=s.tm X.g->s'.FR X.g=s.FR X.g->k w s'=some r->WO E X.hp dr os (cS (s'.tm X.g) d (w.av X.g s'.ln)) (s'.Hv X.g) Q):
 WO E X.hp dr (⟨d,none,op⟩::os) (s.tm X.g) (s.Hv X.g) Q:=by
 have fin:∀ {v:AV} {H:List Obj},CK X.g s k r v H->WO E X.hp dr os (cS (s.tm X.g) d v) H Q:=by
  rintro v H ⟨w,s',rfl,rfl,h1,h2,h3⟩;have:=hk w s' h1 h2 h3;rw [h1] at this;exact this
 have mono:∀ {f:Nat} {xs:List AV},WC E X.hp dr f xs (s.Hv X.g) (CK X.g s k r)->WC E X.hp dr f xs (s.Hv X.g) (fun v H'=>WO E X.hp dr os (cS (s.tm X.g) d v) H' Q):=by
  rintro f xs ⟨n,v,H',h1,h2⟩;exact ⟨n,v,H',h1,fin h2⟩
 have rx:=DS.mX X.g E.aF s;have plain:∀ {op:RO},ev X.g X.gl s s.H.length op k=some r->WO E X.hp dr (⟨d,none,op⟩::os) (s.tm X.g) (s.Hv X.g) Q:=by
  intro op h;obtain ⟨h1,w,s',h2,h3,h4,h5⟩:=Uc hX.g h;rw [hX.gl] at h2;refine Sy h1 rfl (by rw [fG];exact h2) ?_;exact fin ⟨w,s',rfl,rfl,h3,h4,h5⟩
 unfold Y9 at h;split at h
 ·rename_i f args;refine Sv.2 ?_;have:=xS hX hr h;rw [hX.gl,<-DS.gH] at this;exact mono this
 ·rename_i x args;split at h
  ·rename_i p hp;have e:=BP hp;have hx:ga E.aF (s.tm X.g) x= .fn p.1 (TV.aP X.g s.ln p.2):=by rw [rx,<-hX.gl,e];rfl
   refine (Pe hx).2 ?_;have:=xS hX hr h;rw [kJ,hX.gl,<-DS.gH] at this;exact mono this
  ·split at h
   ·rename_i l hl;split at h
    ·cases h
    rename_i hd;have e:dr=false:=by simpa using hd
    subst e;have e:=PY hl;have hx:ga E.aF (s.tm X.g) x= .fA l:=by rw [rx,<-hX.gl,e];rfl
    obtain ⟨n,v,H',h1,h2⟩:=Tg hX hr h;rw [hX.gl,<-DS.gH] at h1;exact XK hx h1 (fin h2)
   ·split at h
    case h_2=>cases h
    rename_i p hp;have hx:ga E.aF (s.tm X.g) x= .eD p.1 (TV.aP X.g s.ln p.2):=by rw [rx,<-hX.gl];exact PZ hp
    refine Pf hx ?_;have:=xS hX hr h;rw [kJ,hX.gl,<-DS.gH] at this;exact mono this
 ·exact plain h
theorem IN {X:Cx G} {E:Env} (hX:X.Ok E) {rec:Rec G} (hr:nD E X.hp X.g rec) {dr:Bool} {a:An} {s:DS G} {d:Option Nat} {op:RO} {os:List bH} {k:DS G->Option R} {r:R} {Q:T->List Obj->Prop}
 (h:vR X rec dr a d op s k=some r) (hk:∀ s',s'.FR X.g=s.FR X.g->k s'=some r->WO E X.hp dr os (s'.tm X.g) (s'.Hv X.g) Q):
 WO E X.hp dr (⟨d,none,op⟩::os) (s.tm X.g) (s.Hv X.g) Q:=by
 have plain:∀ {a:An},(Y9 X rec dr a s op fun v s'=>k (s'.cS d v))=some r->WO E X.hp dr (⟨d,none,op⟩::os) (s.tm X.g) (s.Hv X.g) Q:=by
  intro a h;refine Nm hX hr h fun w s' h1 h2 h3=>?_
  have:=hk _ (by rw [DS.ov,h2]) h3;rw [DS.ow,DS.rI] at this;exact this
 unfold vR at h;split at h
 ·rename_i e P a;obtain ⟨w,h1,h2⟩:=bind_some h;refine Nm hX hr h1 fun u s' k1 k2 k3=>?_
  obtain ⟨q1,q2⟩:=Tm.ok hX.g k3 (fun x v hm hi=>by
   obtain ⟨g1,g2⟩:=jR (g:=X.g) (Tm.Uz k3).1 hm;rw [DS.ow,k1,<-g1]
   cases d with
   | none=>rfl
   | some d=>exact iQ (A:=[]) x g2) (by rw [DS.ov,k2])
  have h3:=hk _ (by rw [q2,DS.ov,k2]) h2;have e1:(P.eC X.g (Rm d) s w).tm X.g=(s'.cS d u).tm X.g:=congrArg ST.tmps q1;have e2:(P.eC X.g (Rm d) s w).Hv X.g=(s'.cS d u).Hv X.g:=congrArg ST.H q1;rw [e1,e2,DS.ow,DS.rI] at h3;exact h3
 ·exact plain h
theorem Kt {g:Ge G} {ln:Nat->Nat} {v:TV G} (h:Gy v=true):v.av g ln= .aY []:=by
 unfold Gy at h;split at h
 ·split at h
  ·split at h
   ·rfl
   ·cases h
  ·cases h
 ·cases h
theorem tF {v:TV G} {b:Bool} (h:Bt v=some b):v= .bool b:=by
 cases v with
 | bool c=>injection h with h;subst h;rfl
 | _=>cases h
theorem vm {X:Cx G} {E:Env} (hX:X.Ok E) {rec:Rec G} (hr:nD E X.hp X.g rec) {dr:Bool} {r:R} {Q:T->List Obj->Prop}:∀ (os:List bH) {i:Nat} {a:An} {s:DS G} {k:DS G->Option R},
 qM X rec dr os i a s k=some r->(∀ s',s'.FR X.g=s.FR X.g->k s'=some r->Q (s'.tm X.g) (s'.Hv X.g))->WO E X.hp dr os (s.tm X.g) (s.Hv X.g) Q
 | [],i,a,s,k,h,hk=>MY.2 (hk s rfl h)
 | o::os,i,a,s,k,h,hk=>by
  obtain ⟨d,gd,op⟩:=o;rw [qM] at h;have go:∀ {s1:DS G},s1.FR X.g=s.FR X.g->vR X rec dr (a.op i) d op s1 (fun s'=>qM X rec dr os (i+1) a s' k)=some r->WO E X.hp dr (⟨d,none,op⟩::os) (s1.tm X.g) (s1.Hv X.g) Q:=by
   intro s1 hF h;exact IN hX hr h fun s' h1 h2=>vm hX hr os h2 fun s'' h3 h4=>hk s'' (by rw [h3,h1,hF]) h4
  have skip:∀ {s1:DS G},s1.FR X.g=s.FR X.g->s1.tm X.g=s.tm X.g->s1.Hv X.g=s.Hv X.g->dh (s.tm X.g) gd=some false->qM X rec dr os (i+1) a (s1.cS d (.raw (.aY []))) k=some r->WO E X.hp dr (⟨d,gd,op⟩::os) (s.tm X.g) (s.Hv X.g) Q:=by
   intro s1 hF ht hH hw h;have:=vm hX hr os h fun s'' h3 h4=>hk s'' (by rw [h3,DS.ov,hF]) h4
   rw [DS.ow,DS.rI,ht,hH] at this;exact Sz hw this
  cases gd with
  | none=>exact go rfl h
  | some p=>
   obtain ⟨t,b⟩:=p;dsimp only at h;have aL:(s.tm X.g).get t=(s.get t).av X.g s.ln:=DS.ij X.g s t;split at h
   ·rename_i c hc;have hv:=tF hc;rw [hv] at aL;have hw:dh (s.tm X.g) (some (t,b))=some (c==b):=by
     unfold dh;dsimp only;rw [aL];rfl
    have rp:∀ {b':Bool},c=b'->(s.rep t (.bool b')).tm X.g=s.tm X.g/\(s.rep t (.bool b')).Hv X.g=s.Hv X.g/\(s.rep t (.bool b')).FR X.g=s.FR X.g:=by
     intro b' e;subst e;exact Nd (by rw [hv])
    have run:∀ {b':Bool},c=b'->(c==b)=true->vR X rec dr (a.op i) d op (s.rep t (.bool b')) (fun s'=>qM X rec dr os (i+1) a s' k)=some r->WO E X.hp dr (⟨d,some (t,b),op⟩::os) (s.tm X.g) (s.Hv X.g) Q:=by
     intro b' e1 e2 h;obtain ⟨r1,r2,r3⟩:=rp e1;rw [e2] at hw;refine (abo hw).2 ?_;have:=go r3 h;rw [r1,r2] at this;exact this
    have no:∀ {b':Bool},c=b'->(c==b)=false->qM X rec dr os (i+1) a ((s.rep t (.bool b')).cS d (.raw (.aY []))) k=some r->WO E X.hp dr (⟨d,some (t,b),op⟩::os) (s.tm X.g) (s.Hv X.g) Q:=by
     intro b' e1 e2 h;obtain ⟨r1,r2,r3⟩:=rp e1;rw [e2] at hw;exact skip r3 r1 r2 hw h
    cases b with
    | true=>
     simp only [if_true] at h
     cases c with
     | true=>exact run rfl rfl h
     | false=>exact no rfl rfl h
    | false=>
     simp only [za9,if_false] at h
     cases c with
     | true=>exact no rfl rfl h
     | false=>exact run rfl rfl h
   ·split at h
    case isFalse=>cases h
    rename_i h0;refine skip (s1:=s) rfl rfl rfl ?_ h;unfold dh;dsimp only;rw [aL,Kt h0]
def jn (g:Ge G) (A:List Nat) (f:{R:Type}->An->DS G->Kn G R->Option R):{R:Type}->An->DS G->Kn G R->Option R
 | R,.j e P a,s,K=>(match e with
  | true=>(jn g A f a s (⟨fun s'=>(P.coll g A s s').map .inl,fun i s'=>(K.x i s').map .inr,fun s'=>(K.r s').map .inr⟩:Kn G (DL G P.ts⊕R))).bind (Sum.elim (fun w=>K.n (P.eC g A s w)) some)
  | false=>(jn g A f a s (⟨fun s'=>P.coll g A s s',fun _ _=>none,fun _=>none⟩:Kn G (DL G P.ts))).bind fun w=>K.n (P.eC g A s w))
 | _,.z,_,_=>none
 | _,.zl n a,s,K=>if Nat.ble n s.H.length then jn g A f a s K else none
 | _,a,s,K=>f a s K
def US (f:{R:Type}->An->DS G->Kn G R->Option R):List An->{R:Type}->DS G->Kn G R->Option R
 | [],_,_,_=>none
 | a::l,_,s,K=>f a s ⟨fun s'=>US f l s' K,K.x,K.r⟩
def dlp (g:Ge G) (A:List Nat) (f:{R:Type}->An->DS G->Kn G R->Option R):{R:Type}->An->DS G->Kn G R->Option R
 | R,.l e i P B a,s,K=>(match P.coll g A s s with
  | some w0=>(match e with
   | true=>(iter (fun w=>f a (P.eC g A s w) (⟨fun s'=>(P.coll g A s s').map .inl,fun j s'=>bif Nat.beq j i then (B.coll g A s s').map fun v=> .inr (.inl v) else (K.x j s').map fun r=> .inr (.inr r),fun s'=>(K.r s').map fun r=> .inr (.inr r)⟩:Kn G (DL G P.ts⊕(DL G B.ts⊕R)))) w0).bind (Sum.elim (fun v=>K.x i (B.eC g A s v)) some)
   | false=>(iter (fun w=>f a (P.eC g A s w) (⟨fun s'=>(P.coll g A s s').map .inl,fun j s'=>bif Nat.beq j i then (B.coll g A s s').map .inr else none,fun _=>none⟩:Kn G (DL G P.ts⊕DL G B.ts))) w0).bind fun v=>K.x i (B.eC g A s v))
  | none=>none)
 | _,.u l,s,K=>US f l s K
 | _,_,_,_=>none
def Sat (E:Env) (hp:Nat->Bool) (g:Ge G) (c:RC) (b:Nat) (s:DS G) (K:Kn G R) (r:R):Prop:=WP E hp c b (fun e σ=>∃ s':DS G,s'.st g=σ/\s'.FR g=s.FR g/\K.at e s'=some r) (s.st g)
theorem mY {E:Env} {hp:Nat->Bool} {g:Ge G} (hg:g.Ok) {c:RC} {b:Nat} {f:{R:Type}->An->DS G->Kn G R->Option R} (hf:∀ {R:Type} (a:An) (s:DS G) (K:Kn G R) (r:R),f a s K=some r->Sat E hp g c b s K r):
 ∀ (a:An) {R:Type} (s:DS G) (K:Kn G R) (r:R),jn g (b6 c) f a s K=some r->Sat E hp g c b s K r
 | .j e P a,R,s,K,r,h=>by
  have reach:∀ {w:DL G P.ts} {s':DS G},P.coll g (b6 c) s s'=some w->bK (b6 c) (s.tm g) (s'.tm g)->s'.FR g=s.FR g->(P.eC g (b6 c) s w).st g=s'.st g/\(P.eC g (b6 c) s w).FR g=s.FR g:=by
   intro w s' h1 h2 h3;obtain ⟨q1,q2⟩:=Tm.ok hg h1 (fun x u hm hi=>by
    obtain ⟨g1,g2⟩:=jR (g:=g) (Tm.Uz h1).1 hm;rw [<-g1];exact h2 x g2) h3
   exact ⟨q1,by rw [q2,h3]⟩
  cases e with
  | true=>
   have h:(jn g (b6 c) f a s (⟨fun s'=>(P.coll g (b6 c) s s').map .inl,fun i s'=>(K.x i s').map .inr,fun s'=>(K.r s').map .inr⟩:Kn G (DL G P.ts⊕R))).bind (Sum.elim (fun w=>K.n (P.eC g (b6 c) s w)) some)=some r:=h;obtain ⟨z,h1,h2⟩:=bind_some h;have ih:=mY hg hf a _ _ _ h1;refine (ou ih).mono ?_;rintro e σ ⟨⟨s',p1,p2,p3⟩,hk⟩;subst p1
   cases e with
   | normal=>
    obtain ⟨w,q1,q2⟩:=map_some p3;subst q2;obtain ⟨k1,k2⟩:=reach q1 (hk nofun) p2;exact ⟨_,k1,k2,h2⟩
   | exit i=>
    obtain ⟨w,q1,q2⟩:=map_some p3;subst q2;have h2:some w=some r:=h2;injection h2 with h2;subst h2
    exact ⟨s',rfl,p2,q1⟩
   | ret=>
    obtain ⟨w,q1,q2⟩:=map_some p3;subst q2;have h2:some w=some r:=h2;injection h2 with h2;subst h2
    exact ⟨s',rfl,p2,q1⟩
  | false=>
   have h:(jn g (b6 c) f a s (⟨fun s'=>P.coll g (b6 c) s s',fun _ _=>none,fun _=>none⟩:Kn G (DL G P.ts))).bind (fun w=>K.n (P.eC g (b6 c) s w))=some r:=h;obtain ⟨w,h1,h2⟩:=bind_some h;have ih:=mY hg hf a _ _ _ h1;refine (ou ih).mono ?_;rintro e σ ⟨⟨s',p1,p2,p3⟩,hk⟩;subst p1
   cases e with
   | normal=>
    obtain ⟨k1,k2⟩:=reach p3 (hk nofun) p2;exact ⟨_,k1,k2,h2⟩
   | exit i=>cases p3
   | ret=>cases p3
 | .n,R,s,K,r,h=>hf _ _ _ _ h
 | .l ..,R,s,K,r,h=>hf _ _ _ _ h
 | .s _,R,s,K,r,h=>hf _ _ _ _ h
 | .o _,R,s,K,r,h=>hf _ _ _ _ h
 | .u _,R,s,K,r,h=>hf _ _ _ _ h
 | .z,R,s,K,r,h=>by cases h
 | .zl n a,R,s,K,r,h=>by
  rw [jn] at h;split at h
  ·exact mY hg hf a s K r h
  ·cases h
theorem xT {E:Env} {hp:Nat->Bool} {p:RC} {b:Nat} {Q:Ex->ST->Prop} {s:ST} (h:WP E hp p b (fun e s'=>match e with | .normal=>WP E hp (.loop p) b Q s' | .exit j=>Q (.exit j) s' | .ret=>Q .ret s') s):WP E hp (.loop p) b Q s:=by
 obtain ⟨n,e,s1,h1,hq⟩:=h
 cases e with
 | normal=>
  obtain ⟨n2,e2,s2,h2,hq2⟩:=hq;refine ⟨max n n2+1,e2,s2,?_,hq2⟩;rw [ak,bN (zby n n2) _ _ _ _ h1];exact bN (zbs n n2) _ _ _ _ h2
 | exit j=>exact ⟨n+1,_,_,by rw [ak,h1],hq⟩
 | ret=>exact ⟨n+1,_,_,by rw [ak,h1],hq⟩
theorem Gz {E:Env} {hp:Nat->Bool} {g:Ge G} {c:RC} {b:Nat} {f:{R:Type}->An->DS G->Kn G R->Option R} (hf:∀ {R:Type} (a:An) (s:DS G) (K:Kn G R) (r:R),f a s K=some r->Sat E hp g c b s K r):
 ∀ (l:List An) {R:Type} {s:DS G} {K:Kn G R} {r:R},US f l s K=some r->Sat E hp g (.loop c) b s K r
 | [],R,s,K,r,h=>by cases h
 | a::l,R,s,K,r,h=>by
  rw [US] at h;refine xT ((hf _ _ _ _ h).mono ?_);rintro e σ ⟨s',p1,p2,p3⟩
  cases e with
  | normal=>
   have p3:US f l s' K=some r:=p3;subst p1;refine (Gz hf l p3).mono ?_;rintro e2 σ2 ⟨s2,q1,q2,q3⟩;exact ⟨s2,q1,by rw [q2,p2],q3⟩
  | exit j=>exact ⟨s',p1,p2,p3⟩
  | ret=>exact ⟨s',p1,p2,p3⟩
theorem lZ {E:Env} {hp:Nat->Bool} {p:RC} {b:Nat} {Q:Ex->ST->Prop} {σ ρ:Type} {body:σ->Option (σ⊕ρ)} (st:σ->ST) (I:σ->Prop) {z:ρ}
 (h:∀ w y,I w->body w=some y->WP E hp p b (fun e s'=>match e with
  | .normal=>∃ w',y= .inl w'/\I w'/\st w'=s'
  | .exit j=>∃ x,y= .inr x/\(x=z->Q (.exit j) s')
  | .ret=>∃ x,y= .inr x/\(x=z->Q .ret s')) (st w)):∀ (n:Nat) (w:σ),I w->mT body n w=some z->WP E hp (.loop p) b Q (st w)
 | 0,w,hI,e=>by simp [mT] at e
 | n+1,w,hI,e=>by
  rw [mT] at e;split at e
  ·cases e
  ·rename_i w' hb;refine xT ((h w _ hI hb).mono fun ex s' q=>?_)
   cases ex with
   | normal=>
    obtain ⟨w2,e1,e2,e3⟩:=q;injection e1 with e1;subst e1;subst e3
    exact lZ st I h n _ e2 e
   | exit j=>obtain ⟨x,e1,_⟩:=q;cases e1
   | ret=>obtain ⟨x,e1,_⟩:=q;cases e1
  ·rename_i x hb;injection e with e;subst e
   refine xT ((h w _ hI hb).mono fun ex s' q=>?_)
   cases ex with
   | normal=>obtain ⟨w2,e1,_⟩:=q;cases e1
   | exit j=>obtain ⟨y,e1,e2⟩:=q;injection e1 with e1;exact e2 e1.symm
   | ret=>obtain ⟨y,e1,e2⟩:=q;injection e1 with e1;exact e2 e1.symm
theorem WB {E:Env} {hp:Nat->Bool} {g:Ge G} (hg:g.Ok) {c:RC} {b:Nat} {f:{R:Type}->An->DS G->Kn G R->Option R} (hf:∀ {R:Type} (a:An) (s:DS G) (K:Kn G R) (r:R),f a s K=some r->Sat E hp g c b s K r)
 {a:An} {s:DS G} {K:Kn G R} {r:R} (h:dlp g (b6 c) f a s K=some r):Sat E hp g (.loop c) b s K r:=by
 cases a with
 | l e i P B a=>
  unfold dlp at h;dsimp only at h;split at h
  case h_2=>cases h
  rename_i w0 hw0;let I:DL G P.ts->Prop:=fun w=>(P.eC g (b6 c) s w).FR g=s.FR g/\bK (b6 c) (s.tm g) ((P.eC g (b6 c) s w).tm g)
  have hs:=(Tm.Uz hw0).1;have first:(P.eC g (b6 c) s w0).st g=s.st g/\I w0:=by
   obtain ⟨q1,q2⟩:=Tm.ok hg hw0 (fun x u hm hi=>(jR (g:=g) hs hm).1) rfl;have e:(P.eC g (b6 c) s w0).tm g=s.tm g:=congrArg ST.tmps q1;exact ⟨q1,q2,by rw [e];exact bK.refl⟩
  have next:∀ {T:Tm} {w:DL G P.ts} {v:DL G T.ts} {s':DS G},I w->T.coll g (b6 c) s s'=some v->bK (b6 c) ((P.eC g (b6 c) s w).tm g) (s'.tm g)->s'.FR g=(P.eC g (b6 c) s w).FR g->
   (T.eC g (b6 c) s v).st g=s'.st g/\(T.eC g (b6 c) s v).FR g=s.FR g/\bK (b6 c) (s.tm g) ((T.eC g (b6 c) s v).tm g):=by
   intro T w v s' hI h1 h2 h3;have hk:=hI.2.trans h2;obtain ⟨q1,q2⟩:=Tm.ok hg h1 (fun x u hm hi=>by
    obtain ⟨g1,g2⟩:=jR (g:=g) hs hm;rw [<-g1];exact hk x g2) (by rw [h3,hI.1])
   have e:(T.eC g (b6 c) s v).tm g=s'.tm g:=congrArg ST.tmps q1;exact ⟨q1,by rw [q2,h3,hI.1],by rw [e];exact hk⟩
  unfold Sat;rw [<-first.1]
  cases e with
  | true=>
   obtain ⟨z,h1,h2⟩:=bind_some h;refine lZ (fun w=>(P.eC g (b6 c) s w).st g) I (fun w y hI hb=>?_) _ _ first.2 h1
   refine (ou (hf _ _ _ _ hb)).mono ?_;rintro ex σ ⟨⟨s',p1,p2,p3⟩,hk⟩;subst p1
   cases ex with
   | normal=>
    obtain ⟨w',q1,q2⟩:=map_some p3;obtain ⟨n1,n2,n3⟩:=next hI q1 (hk nofun) p2
    exact ⟨w',q2.symm,⟨n2,n3⟩,n1⟩
   | exit j=>
    have p3:(bif Nat.beq j i then (B.coll g (b6 c) s s').map fun v=> .inr (.inl v) else (K.x j s').map fun r=> .inr (.inr r))=some y:=p3
    cases hj:Nat.beq j i with
    | true=>
     rw [hj] at p3;obtain ⟨v,q1,q2⟩:=map_some p3;have ej:=za3 hj;subst ej;refine ⟨.inl v,q2.symm,fun e=>?_⟩;subst e;obtain ⟨n1,n2,_⟩:=next hI q1 (hk nofun) p2
     exact ⟨_,n1,n2,h2⟩
    | false=>
     rw [hj] at p3;obtain ⟨v,q1,q2⟩:=map_some p3;refine ⟨.inr v,q2.symm,fun e=>?_⟩;subst e;have h2:some v=some r:=h2;injection h2 with h2;subst h2
     exact ⟨s',rfl,by rw [p2,hI.1],q1⟩
   | ret=>
    obtain ⟨v,q1,q2⟩:=map_some p3;refine ⟨.inr v,q2.symm,fun e=>?_⟩;subst e;have h2:some v=some r:=h2;injection h2 with h2;subst h2
    exact ⟨s',rfl,by rw [p2,hI.1],q1⟩
  | false=>
   obtain ⟨z,h1,h2⟩:=bind_some h;refine lZ (fun w=>(P.eC g (b6 c) s w).st g) I (fun w y hI hb=>?_) _ _ first.2 h1
   refine (ou (hf _ _ _ _ hb)).mono ?_;rintro ex σ ⟨⟨s',p1,p2,p3⟩,hk⟩;subst p1
   cases ex with
   | normal=>
    obtain ⟨w',q1,q2⟩:=map_some p3;obtain ⟨n1,n2,n3⟩:=next hI q1 (hk nofun) p2
    exact ⟨w',q2.symm,⟨n2,n3⟩,n1⟩
   | exit j=>
    have p3:(bif Nat.beq j i then (B.coll g (b6 c) s s').map .inr else none)=some y:=p3
    cases hj:Nat.beq j i with
    | true=>
     rw [hj] at p3;obtain ⟨v,q1,q2⟩:=map_some p3;have ej:=za3 hj;subst ej;refine ⟨v,q2.symm,fun e=>?_⟩;subst e;obtain ⟨n1,n2,_⟩:=next hI q1 (hk nofun) p2
     exact ⟨_,n1,n2,h2⟩
    | false=>rw [hj] at p3;cases p3
   | ret=>cases p3
 | u l=>exact Gz hf l h
 | _=>cases h
def dlg (g:Ge G) (A:List Nat) (b i:Nat) (post:List GA) (f:{R:Type}->An->DS G->Kn G R->Option R):{R:Type}->An->DS G->Kn G R->Option R
 | R,.l e _ P B a,s,K=>(match P.coll g A s s with
  | some w0=>(match e with
   | true=>(iter (fun w=>f a (P.eC g A s w) (⟨fun s'=>(P.coll g A s s').map .inl,fun j s'=>bif Nat.beq j i then (match Fk g b post s' with | some s2=>(B.coll g (A++qE post) s s2).map fun v=> .inr (.inl v) | none=>none) else (K.x j s').map fun r=> .inr (.inr r),fun s'=>(K.r s').map fun r=> .inr (.inr r)⟩:Kn G (DL G P.ts⊕(DL G B.ts⊕R)))) w0).bind (Sum.elim (fun v=>K.n (B.eC g (A++qE post) s v)) some)
   | false=>(iter (fun w=>f a (P.eC g A s w) (⟨fun s'=>(P.coll g A s s').map .inl,fun j s'=>bif Nat.beq j i then (match Fk g b post s' with | some s2=>(B.coll g (A++qE post) s s2).map .inr | none=>none) else none,fun _=>none⟩:Kn G (DL G P.ts⊕DL G B.ts))) w0).bind fun v=>K.n (B.eC g (A++qE post) s v))
  | none=>none)
 | _,.u l,s,K=>US f l s ⟨fun _=>none,fun j s'=>bif Nat.beq j i then (match Fk g b post s' with | some s2=>K.n s2 | none=>none) else K.x j s',K.r⟩
 | _,_,_,_=>none
theorem WG {E:Env} {hp:Nat->Bool} {g:Ge G} (hg:g.Ok) (hw:g.Wk) {c:RC} {b i:Nat} {post:List GA} {f:{R:Type}->An->DS G->Kn G R->Option R} (hf:∀ {R:Type} (a:An) (s:DS G) (K:Kn G R) (r:R),f a s K=some r->Sat E hp g c b s K r)
 {a:An} {s:DS G} {K:Kn G R} {r:R} (h:dlg g (b6 c) b i post f a s K=some r):Sat E hp g (.gh [] (.block i (.loop c)) post) b s K r:=by
 cases a with
 | l e _ P B a=>
  unfold dlg at h;dsimp only at h;split at h
  case h_2=>cases h
  rename_i w0 hw0;let I:DL G P.ts->Prop:=fun w=>(P.eC g (b6 c) s w).FR g=s.FR g/\bK (b6 c) (s.tm g) ((P.eC g (b6 c) s w).tm g)
  have hs:=(Tm.Uz hw0).1;have first:(P.eC g (b6 c) s w0).st g=s.st g/\I w0:=by
   obtain ⟨q1,q2⟩:=Tm.ok hg hw0 (fun x u hm hi=>(jR (g:=g) hs hm).1) rfl;have e:(P.eC g (b6 c) s w0).tm g=s.tm g:=congrArg ST.tmps q1;exact ⟨q1,q2,by rw [e];exact bK.refl⟩
  have next:∀ {w:DL G P.ts} {v:DL G P.ts} {s':DS G},I w->P.coll g (b6 c) s s'=some v->bK (b6 c) ((P.eC g (b6 c) s w).tm g) (s'.tm g)->s'.FR g=(P.eC g (b6 c) s w).FR g->
   (P.eC g (b6 c) s v).st g=s'.st g/\(P.eC g (b6 c) s v).FR g=s.FR g/\bK (b6 c) (s.tm g) ((P.eC g (b6 c) s v).tm g):=by
   intro w v s' hI h1 h2 h3;have hk:=hI.2.trans h2;obtain ⟨q1,q2⟩:=Tm.ok hg h1 (fun x u hm hi=>by
    obtain ⟨g1,g2⟩:=jR (g:=g) hs hm;rw [<-g1];exact hk x g2) (by rw [h3,hI.1])
   have e:(P.eC g (b6 c) s v).tm g=s'.tm g:=congrArg ST.tmps q1;exact ⟨q1,by rw [q2,h3,hI.1],by rw [e];exact hk⟩
  have last:∀ {w:DL G P.ts} {v:DL G B.ts} {s' s2:DS G},I w->Fk g b post s'=some s2->B.coll g (b6 c++qE post) s s2=some v->bK (b6 c) ((P.eC g (b6 c) s w).tm g) (s'.tm g)->s'.FR g=(P.eC g (b6 c) s w).FR g->
   cF b post (s'.st g)=some ((B.eC g (b6 c++qE post) s v).st g)/\(B.eC g (b6 c++qE post) s v).FR g=s.FR g:=by
   intro w v s' s2 hI h0 h1 h2 h3;obtain ⟨g3,g4⟩:=Bq hg hw h0;have hk:bK (b6 c++qE post) (s.tm g) (s2.tm g):=(hI.2.trans h2).y7.trans (bK.Bd (rC g3));obtain ⟨q1,q2⟩:=Tm.ok hg h1 (fun x u hm hi=>by
    obtain ⟨g1,g2⟩:=jR (g:=g) hs hm;rw [<-g1];exact hk x g2) (by rw [g4,h3,hI.1])
   exact ⟨by rw [g3,q1],by rw [q2,g4,h3,hI.1]⟩
  unfold Sat;refine LX.2 ?_;show WP E hp (.block i (.loop c)) b _ (s.st g);refine xq.2 ?_;rw [<-first.1]
  cases e with
  | true=>
   obtain ⟨z,h1,h2⟩:=bind_some h;refine lZ (fun w=>(P.eC g (b6 c) s w).st g) I (fun w y hI hb=>?_) _ _ first.2 h1
   refine (ou (hf _ _ _ _ hb)).mono ?_;rintro ex σ ⟨⟨s',p1,p2,p3⟩,hk⟩;subst p1
   cases ex with
   | normal=>
    obtain ⟨w',q1,q2⟩:=map_some p3;obtain ⟨n1,n2,n3⟩:=next hI q1 (hk nofun) p2
    exact ⟨w',q2.symm,⟨n2,n3⟩,n1⟩
   | exit j=>
    have p3:(bif Nat.beq j i then (match Fk g b post s' with | some s2=>(B.coll g (b6 c++qE post) s s2).map fun v=> .inr (.inl v) | none=>none) else (K.x j s').map fun r=> .inr (.inr r))=some y:=p3
    cases hj:Nat.beq j i with
    | true=>
     rw [hj] at p3;have p3:(match Fk g b post s' with | some s2=>(B.coll g (b6 c++qE post) s s2).map fun v=> .inr (.inl v) | none=>none)=some y:=p3;split at p3
     case h_2=>cases p3
     rename_i s2 yP;obtain ⟨v,q1,q2⟩:=map_some p3;have ej:=za3 hj;subst ej;refine ⟨.inl v,q2.symm,fun e=>?_⟩;subst e;obtain ⟨n1,n2⟩:=last hI yP q1 (hk nofun) p2;dsimp only;rw [if_pos rfl,n1];exact ⟨_,rfl,n2,h2⟩
    | false=>
     rw [hj] at p3;obtain ⟨v,q1,q2⟩:=map_some p3;refine ⟨.inr v,q2.symm,fun e=>?_⟩;subst e;have h2:some v=some r:=h2;injection h2 with h2;subst h2
     dsimp only;rw [if_neg (by rintro rfl;rw [show Nat.beq j j=true from Nat.beq_refl j] at hj;cases hj)];exact ⟨s',rfl,by rw [p2,hI.1],q1⟩
   | ret=>
    obtain ⟨v,q1,q2⟩:=map_some p3;refine ⟨.inr v,q2.symm,fun e=>?_⟩;subst e;have h2:some v=some r:=h2;injection h2 with h2;subst h2
    exact ⟨s',rfl,by rw [p2,hI.1],q1⟩
  | false=>
   obtain ⟨z,h1,h2⟩:=bind_some h;refine lZ (fun w=>(P.eC g (b6 c) s w).st g) I (fun w y hI hb=>?_) _ _ first.2 h1
   refine (ou (hf _ _ _ _ hb)).mono ?_;rintro ex σ ⟨⟨s',p1,p2,p3⟩,hk⟩;subst p1
   cases ex with
   | normal=>
    obtain ⟨w',q1,q2⟩:=map_some p3;obtain ⟨n1,n2,n3⟩:=next hI q1 (hk nofun) p2
    exact ⟨w',q2.symm,⟨n2,n3⟩,n1⟩
   | exit j=>
    have p3:(bif Nat.beq j i then (match Fk g b post s' with | some s2=>(B.coll g (b6 c++qE post) s s2).map .inr | none=>none) else none)=some y:=p3
    cases hj:Nat.beq j i with
    | true=>
     rw [hj] at p3;have p3:(match Fk g b post s' with | some s2=>(B.coll g (b6 c++qE post) s s2).map .inr | none=>none)=some y:=p3;split at p3
     case h_2=>cases p3
     rename_i s2 yP;obtain ⟨v,q1,q2⟩:=map_some p3;have ej:=za3 hj;subst ej;refine ⟨v,q2.symm,fun e=>?_⟩;subst e;obtain ⟨n1,n2⟩:=last hI yP q1 (hk nofun) p2;dsimp only;rw [if_pos rfl,n1];exact ⟨_,rfl,n2,h2⟩
    | false=>rw [hj] at p3;cases p3
   | ret=>cases p3
 | u l=>
  have h:US f l s ⟨fun _=>none,fun j s'=>bif Nat.beq j i then (match Fk g b post s' with | some s2=>K.n s2 | none=>none) else K.x j s',K.r⟩=some r:=h;have hw1:=Gz hf l h;unfold Sat;refine LX.2 ?_;show WP E hp (.block i (.loop c)) b _ (s.st g);refine xq.2 ?_;refine hw1.mono ?_;rintro e σ ⟨s',p1,p2,p3⟩;subst p1
  cases e with
  | normal=>cases p3
  | exit j=>
   have p3:(bif Nat.beq j i then (match Fk g b post s' with | some s2=>K.n s2 | none=>none) else K.x j s')=some r:=p3
   cases hj:Nat.beq j i with
   | true=>
    rw [hj] at p3;have p4:(match Fk g b post s' with | some s2=>K.n s2 | none=>none)=some r:=p3
    cases yP:Fk g b post s' with
    | none=>rw [yP] at p4;cases p4
    | some s2=>
     rw [yP] at p4;obtain ⟨g3,g4⟩:=Bq hg hw yP;have ej:=za3 hj;dsimp only;rw [if_pos ej,g3];exact ⟨s2,rfl,by rw [g4,p2],p4⟩
   | false=>
    rw [hj] at p3;have p3:K.x j s'=some r:=p3;have ej:¬ j=i:=Nat.ne_of_beq_eq_false hj;dsimp only;rw [if_neg ej];exact ⟨s',rfl,p2,p3⟩
  | ret=>exact ⟨s',rfl,p2,p3⟩
 | _=>cases h
end
end oe
