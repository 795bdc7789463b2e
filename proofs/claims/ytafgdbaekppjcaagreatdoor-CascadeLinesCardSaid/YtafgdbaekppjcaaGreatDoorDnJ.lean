/- Typed states: code, and that the machine does it. No condition. -/
import Derived.Test.YtafgdbaekppjcaaGreatDoorDnI
set_option linter.unusedSectionVars false
set_option linter.unusedVariables false
set_option linter.unusedSimpArgs false
namespace Dnm
open Go hiding Obj mark
open Go.Pl Go.Am Go.Am.As
set_option linter.unusedVariables false
structure Cx (G:Nat→Type) where
 g:Ge G
 gl:Nat→List AV
 fns:Nat→Option RF
 hp:Nat→Bool
 C:List (Con G)
section
variable {G:Nat→Type} {R:Type}
def dinl (X:Cx G) (rec:Rec G) (rf:RF) (xs:List (TV G)) (a:An) (s:DS G) (k:TV G→DS G→Option R):Option R:=
 if Nat.beq xs.length rf.nargs&&(Nat.ble rf.nargs rf.ntmps&&lpB s.fr.length s.H) then
  let ret:DS G→Option R:=fun s'=>match resV X.g s' rf.results with
   | some l=>(match s'.leave s.fr.length with | some s2=>k (oneT l) s2 | none=>none)
   | none=>none
  rec rf.body a s.H.length (s.enter rf.ntmps (putsS xs 0) ([],.skip,.skip)) ⟨ret,fun _ _=>none,ret⟩
 else none
def dheap (X:Cx G) (rec:Rec G) (dr:Bool) (a:An) (s:DS G) (f:Nat) (xs:List (TV G)) (k:TV G→DS G→Option R):Option R:=
 if !dr&&(X.hp f||anyPtr xs) then (match X.fns f with | some rf=>dinl X rec rf xs a s k | none=>none) else none
def dcon (X:Cx G) (s:DS G) (xs:List (TV G)) (p:(c:Con G)×DL G c.ts) (k:TV G→DS G→Option R):Option R:=
 if (TV.frees xs||flatTs p.1.rs)&&indeps (p.1.vs X.g p.2) then (p.1.m p.2).bind fun r=>k (oneT (viewDL X.g p.1.rs r)) s else none
def dcall (X:Cx G) (rec:Rec G) (dr:Bool) (a:An) (s:DS G) (f:Nat) (xs:List (TV G)) (k:TV G→DS G→Option R):Option R:=
 if dr|| !X.hp f then
  (match pkmV (pkV s.H 6) xs with
   | some ys=>(match conFind X.g f ys X.C with
    | some p=>dcon X s xs p k
    | none=>dheap X rec dr a s f xs k)
   | none=>dheap X rec dr a s f xs k)
 else dheap X rec dr a s f xs k
def allS (l:List (Nat×TV G)):Nat→Nat→List (Nat×TV G)
 | 0,_=>[]
 | n+1,i=>(i,getS l i)::allS l n (i+1)
def putPS:List Nat→List (TV G)→Nat→List (Nat×TV G)→List (Nat×TV G)
 | p::ps,x::xs,sz,l=>putPS ps xs sz (if p < sz then putS l p x else l)
 | _,_,_,l=>l
def dyld (X:Cx G) (rec:Rec G) (a:An) (s:DS G) (l:Nat) (xs:List (TV G)) (k:TV G→DS G→Option R):Option R:=match s.H[l]? with
 | some (.lp st fi)=>(match s.fr[fi]? with
  | some f=>if st= .ready∧xs.length=f.2.2.1.length∧lpB s.fr.length s.H=true then
   let back:Ls→Bool→DS G→Option R:=fun y b s'=>match lpSetV .busy y s' l with
    | some s2=>(match s2.leave s.fr.length with | some s3=>k (.bool b) s3 | none=>none)
    | none=>none
   rec f.2.2.2.1 (a.sub 0) s.H.length (s.enter f.1 (putPS f.2.2.1 xs f.1 (allS f.2.1 f.1 0)) ([],.skip,.skip))
    ⟨fun s1=>(match lpSetV .ready .busy s1 l with
     | some s2=>rec f.2.2.2.2 (a.sub 1) s.H.length s2 ⟨back .ready true,fun i=>back (.done (.exit i)) false,back (.done .ret) false⟩
     | none=>none),fun _ _=>none,fun _=>none⟩
   else none
  | none=>none)
 | _=>none
def yldOf:TV G→Option Nat
 | .raw v=>(match v with | .yld l=>some l | _=>none)
 | _=>none
def fnOf:TV G→Option (Nat×List (TV G))
 | .fn f l=>some (f,l)
 | _=>none
def ofPos:List AV→Option (List (TV G))
 | []=>some []
 | .pown id 1 0 o::r=>(match ofPos r with | some l=>some (.po id o::l) | none=>none)
 | _::_=>none
def bndOf:TV G→Option (Nat×List (TV G))
 | .raw v=>(match v with | .bnd f q=>(match ofPos q with | some l=>some (f,l) | none=>none) | _=>none)
 | _=>none
def dop (X:Cx G) (rec:Rec G) (dr:Bool) (a:An) (s:DS G) (op:RO) (k:TV G→DS G→Option R):Option R:=match op with
 | .call f args=>dcall X rec dr a s f (args.map (s.rx X.gl)) k
 | .callv x args=>(match fnOf (s.rx X.gl x) with
  | some p=>dcall X rec dr a s p.1 (args.map (s.rx X.gl)++p.2) k
  | none=>(match yldOf (s.rx X.gl x) with
   | some l=>if dr then none else dyld X rec a s l (args.map (s.rx X.gl)) k
   | none=>(match bndOf (s.rx X.gl x) with
    | some p=>dcall X rec dr a s p.1 (p.2++args.map (s.rx X.gl)) k
    | none=>none)))
 | op=>ev X.g X.gl s s.H.length op k
def dstL:Option Nat→List Nat
 | some d=>[d]
 | none=>[]
def dop1 (X:Cx G) (rec:Rec G) (dr:Bool) (a:An) (d:Option Nat) (op:RO) (s:DS G) (k:DS G→Option R):Option R:=match a with
 | .j _ P a=>(dop X rec dr a s op fun v s'=>P.coll X.g (dstL d) s (s'.putD d v)).bind fun w=>k (P.reb X.g (dstL d) s w)
 | a=>dop X rec dr a s op fun v s'=>k (s'.putD d v)
def isTup0:TV G→Bool
 | .raw v=>(match v with | .tup l=>(match l with | []=>true | _::_=>false) | _=>false)
 | _=>false
def boolOf:TV G→Option Bool
 | .bool b=>some b
 | _=>none
def dops (X:Cx G) (rec:Rec G) (dr:Bool):List ROp→Nat→An→DS G→(DS G→Option R)→Option R
 | [],_,_,s,k=>k s
 | o::os,i,a,s,k=>match o.guard with
  | none=>dop1 X rec dr (a.op i) o.dst o.op s fun s'=>dops X rec dr os (i+1) a s' k
  | some p=>(match boolOf (s.get p.1) with
   | some c=>if p.2 then
    cond c (dop1 X rec dr (a.op i) o.dst o.op (s.rep p.1 (.bool true)) fun s'=>dops X rec dr os (i+1) a s' k) (dops X rec dr os (i+1) a ((s.rep p.1 (.bool false)).putD o.dst (.raw (.tup []))) k)
    else
     cond c (dops X rec dr os (i+1) a ((s.rep p.1 (.bool true)).putD o.dst (.raw (.tup []))) k) (dop1 X rec dr (a.op i) o.dst o.op (s.rep p.1 (.bool false)) fun s'=>dops X rec dr os (i+1) a s' k)
   | none=>if isTup0 (s.get p.1) then dops X rec dr os (i+1) a (s.putD o.dst (.raw (.tup []))) k else none)
def RecOk (E:Env) (hp:Nat→Bool) (g:Ge G) (rec:Rec G):Prop:=∀ {R:Type} (c:RC) (a:An) (b:Nat) (s:DS G) (K:Kn G R) (r:R),rec c a b s K=some r→
 WP E hp c b (fun e σ=>∃ s':DS G,s'.st g=σ∧s'.FR g=s.FR g∧K.at e s'=some r) (s.st g)
structure Cx.Ok (X:Cx G) (E:Env):Prop where
 g:X.g.Ok
 wk:X.g.Wk
 gl:X.gl=E.glob
 fns:X.fns=E.fns
 C:∀ c∈X.C,c.Ok E X.hp X.g
def CK (g:Ge G) (s:DS G) (k:TV G→DS G→Option R) (r:R) (v:AV) (H:List Obj):Prop:=∃ (w:TV G) (s':DS G),v=w.av g s'.ln∧s'.Hv g=H∧s'.tm g=s.tm g∧s'.FR g=s.FR g∧k w s'=some r
theorem dinl_ok {X:Cx G} {E:Env} (hX:X.Ok E) {rec:Rec G} (hr:RecOk E X.hp X.g rec) {f:Nat} {rf:RF} (hf:E.fns f=some rf) {xs:List (TV G)} {a:An} {s:DS G} {k:TV G→DS G→Option R} {r:R}
 (hc:X.hp f=true∨snaps (s.Hv X.g) (TV.avs X.g s.ln xs)=none) (h:dinl X rec rf xs a s k=some r):WC E X.hp false f (TV.avs X.g s.ln xs) (s.Hv X.g) (CK X.g s k r):=by
 unfold dinl at h
 split at h
 case isFalse=>cases h
 rename_i hb
 simp only [Bool.and_eq_true] at hb
 have e1:=Nat.eq_of_beq_eq_true hb.1
 have e2:=Nat.le_of_ble_eq_true hb.2.1
 obtain ⟨k1,k2,k3⟩:=enter_ok (g:=X.g) s rf.ntmps (putsS xs 0) ([],.skip,.skip) hb.2.2
 have hw:=hr _ _ _ _ _ _ h
 obtain ⟨na,nt,rs,body⟩:=rf
 refine WC_inl hf hc (by rw [avs_len];exact e1) e2 ?_
 rw [Hv_len]
 have hst:(s.enter nt (putsS xs 0) ([],.skip,.skip)).st X.g=⟨⟨nt,T.puts (TV.avs X.g s.ln xs) 0⟩,s.Hv X.g⟩:=by
  show (⟨DS.tm X.g _,DS.Hv X.g _⟩:ST)=_
  rw [k1,k3,putsS_av]
 dsimp only at hw
 rw [hst] at hw
 have fin:∀ {s':DS G} {σ:ST},s'.st X.g=σ→s'.FR X.g=(s.enter nt (putsS xs 0) ([],.skip,.skip)).FR X.g→
  (match resV X.g s' rs with
  | some l=>(match s'.leave s.fr.length with | some s2=>k (oneT l) s2 | none=>none)
  | none=>none)=some r→∃ l,resultsT rs σ=some l∧CK X.g s k r (oneOf l) σ.H:=by
  intro s' σ h1 h2 h3
  split at h3
  case h_2=>cases h3
  rename_i l hl
  split at h3
  case h_2=>cases h3
  rename_i s2 hs2
  obtain ⟨p1,p2,p3,p4⟩:=leave_ok (g:=X.g) hs2 (by rw [h2,k2])
  refine ⟨TV.avs X.g s'.ln l,by rw [←h1];exact resV_ok hX.g hl,oneT l,s2,by rw [oneT_av,p3],?_,p1,p2,h3⟩
  rw [p4,←h1];rfl
 refine hw.mono fun e σ q=>?_
 obtain ⟨s',h1,h2,h3⟩:=q
 cases e with
 | exit i=>cases h3
 | normal=>exact fin h1 h2 h3
 | ret=>exact fin h1 h2 h3
theorem dheap_ok {X:Cx G} {E:Env} (hX:X.Ok E) {rec:Rec G} (hr:RecOk E X.hp X.g rec) {dr:Bool} {f:Nat} {xs:List (TV G)} {a:An} {s:DS G} {k:TV G→DS G→Option R} {r:R}
 (h:dheap X rec dr a s f xs k=some r):WC E X.hp dr f (TV.avs X.g s.ln xs) (s.Hv X.g) (CK X.g s k r):=by
 unfold dheap at h
 split at h
 case isFalse=>cases h
 rename_i hb
 simp only [Bool.and_eq_true,Bool.not_eq_true'] at hb
 rw [hb.1]
 split at h
 case h_2=>cases h
 rename_i rf hf
 rw [hX.fns] at hf
 refine dinl_ok hX hr hf ?_ h
 rcases (Bool.or_eq_true _ _).mp hb.2 with h | h
 ·exact .inl h
 ·exact .inr (anyPtr_ok h)
theorem dcon_ok {X:Cx G} {E:Env} (hX:X.Ok E) {dr:Bool} {f:Nat} {xs ys:List (TV G)} {s:DS G} {p:(c:Con G)×DL G c.ts} {k:TV G→DS G→Option R} {r:R}
 (hd:dr=true∨X.hp f=false) (hy:pkmV (pkV s.H 6) xs=some ys) (hp:conFind X.g f ys X.C=some p) (h:dcon X s xs p k=some r):WC E X.hp dr f (TV.avs X.g s.ln xs) (s.Hv X.g) (CK X.g s k r):=by
 unfold dcon at h
 split at h
 case isFalse=>cases h
 rename_i hb
 rw [Bool.and_eq_true] at hb
 obtain ⟨v,h1,h2⟩:=bind_some h
 obtain ⟨e1,e2,e3⟩:=conFind_ok hX.g (ln:=s.ln) hp
 have hpt:=hX.C _ e1 _ _ h1
 rw [e2,indeps_av (ln':=s.ln) _ hb.2,e3] at hpt
 have hsn:snaps (s.Hv X.g) (TV.avs X.g s.ln xs)=some (TV.avs X.g s.ln ys):=pkmV_ok (fun x y e=>pkV_ok hX.g 6 e) hy
 have hck:CK X.g s k r (oneOf (vaDL X.g p.1.rs v)) (s.Hv X.g):=⟨oneT (viewDL X.g p.1.rs v),s,by rw [oneT_av,viewDL_av hX.g],rfl,rfl,rfl,h2⟩
 rcases (Bool.or_eq_true _ _).mp hb.1 with hf | hf
 ·have e:=frees_pk hX.g hf hsn
  rw [e] at hpt
  exact WC_free hd (frees_bel hX.g s.ln xs hf) hpt hck
 ·exact WC_lent hd hsn hpt (oneOf_flat (flatTs_ok v hf)) hck
theorem dcall_ok {X:Cx G} {E:Env} (hX:X.Ok E) {rec:Rec G} (hr:RecOk E X.hp X.g rec) {dr:Bool} {f:Nat} {xs:List (TV G)} {a:An} {s:DS G} {k:TV G→DS G→Option R} {r:R}
 (h:dcall X rec dr a s f xs k=some r):WC E X.hp dr f (TV.avs X.g s.ln xs) (s.Hv X.g) (CK X.g s k r):=by
 unfold dcall at h
 split at h
 ·rename_i hb
  have hd:dr=true∨X.hp f=false:=by
   rcases (Bool.or_eq_true _ _).mp hb with h | h
   ·exact .inl h
   ·exact .inr (by simpa using h)
  split at h
  ·rename_i ys hys
   split at h
   ·rename_i p hp
    exact dcon_ok hX hd hys hp h
   ·exact dheap_ok hX hr h
  ·exact dheap_ok hX hr h
 ·exact dheap_ok hX hr h
theorem WO_yld {E:Env} {hp:Nat→Bool} {t:T} {H:List Obj} {K:T→List Obj→Prop} {d:Option Nat} {x:RX} {args:List RX} {os:List ROp} {l:Nat} (hx:evT E.glob t x= .yld l) {n:Nat} {v:AV} {H1:List Obj}
 (h:rndT (execT E hp n) (.yld l::args.map (evT E.glob t)) H=some (v,H1)) (hk:WO E hp false os (putD t d v) H1 K):WO E hp false (⟨d,none,.callv x args⟩::os) t H K:=by
 obtain ⟨m,t',H',h2,hq⟩:=hk
 refine ⟨max n m,t',H',?_,hq⟩
 rw [runOpsT]
 have h3:=rndT_mono (execT_mono (Nat.le_max_left n m)) h
 simp only [wantT,evalOpe,RO.kind,hx,cond_false]
 rw [show cHT E.fns (execT E hp (max n m)) none (.yld l::args.map (evT E.glob t)) H=some (v,H1) from h3]
 dsimp only
 rw [frc_eq]
 exact runOps_mono (dr:=false) (Nat.le_max_right n m) h2
theorem allS_av {g:Ge G} {ln:Nat→Nat} (l:List (Nat×TV G)):∀ (n i:Nat),avL g ln (allS l n i)=T.puts ((List.range' i n).map fun j=>T.getL (avL g ln l) j) i
 | 0,_=>rfl
 | n+1,i=>by
  show (i,_)::avL g ln (allS l n (i+1))=_
  rw [allS_av l n (i+1),List.range'_succ,List.map_cons,T.puts,getS_av]
theorem allS_of {g:Ge G} {ln:Nat→Nat} (l:List (Nat×TV G)) (n:Nat):(⟨n,avL g ln (allS l n 0)⟩:T)=T.ofL (T.toL ⟨n,avL g ln l⟩):=by
 have h1:T.toL ⟨n,avL g ln l⟩=(List.range' 0 n).map fun j=>T.getL (avL g ln l) j:=by
  unfold T.toL;rw [List.range_eq_range'];rfl
 rw [h1,allS_av]
 unfold T.ofL
 rw [List.length_map,List.length_range']
theorem putPS_av {g:Ge G} {ln:Nat→Nat}:∀ (ps:List Nat) (xs:List (TV G)) (sz:Nat) (l:List (Nat×TV G)),(⟨sz,avL g ln (putPS ps xs sz l)⟩:T)=putPT ps (TV.avs g ln xs) ⟨sz,avL g ln l⟩
 | [],xs,sz,l=>by cases xs<;>rfl
 | p::ps,[],sz,l=>rfl
 | p::ps,x::xs,sz,l=>by
  rw [putPS,putPS_av ps xs,TV.avs,putPT]
  congr 1
  unfold T.put
  dsimp only
  split
  ·rw [putS_av]
  ·rfl
theorem dyld_ok {X:Cx G} {E:Env} (hX:X.Ok E) {rec:Rec G} (hr:RecOk E X.hp X.g rec) {l:Nat} {xs:List (TV G)} {a:An} {s:DS G} {k:TV G→DS G→Option R} {r:R}
 (h:dyld X rec a s l xs k=some r):∃ n v H',rndT (execT E X.hp n) (.yld l::TV.avs X.g s.ln xs) (s.Hv X.g)=some (v,H')∧CK X.g s k r v H':=by
 unfold dyld at h
 split at h
 case h_2=>cases h
 rename_i st fi hl
 split at h
 case h_2=>cases h
 rename_i f hf
 split at h
 case isFalse=>cases h
 rename_i hc
 obtain ⟨rfl,hlen,hb⟩:=hc
 obtain ⟨fsz,fsl,ps,as,body⟩:=f
 dsimp only at h hlen
 obtain ⟨k1,k2,k3⟩:=enter_ok (g:=X.g) s fsz (putPS ps xs fsz (allS fsl fsz 0)) ([],.skip,.skip) hb
 have hFR:(s.FR X.g)[fi]?=some (⟨fsz,avL X.g s.ln fsl⟩,ps,as,body):=by unfold DS.FR;rw [List.getElem?_map,hf];rfl
 have hH:(s.Hv X.g)[l]?=some (.lp .ready (T.toL ⟨fsz,avL X.g s.ln fsl⟩) ps as body):=by
  rw [Hv_get hl];simp only [TO.av,hFR]
 obtain ⟨n1,e1,σ1,hx1,s1,p1,p2,p3⟩:=hr _ _ _ _ _ _ h
 cases e1 with
 | exit i=>cases p3
 | ret=>cases p3
 | normal=>
 have p3:(match lpSetV .ready .busy s1 l with
  | some s2=>rec body (a.sub 1) s.H.length s2 ⟨_,_,_⟩
  | none=>none)=some r:=p3
 split at p3
 case h_2=>cases p3
 rename_i s2 hs2
 obtain ⟨q1,q2,q3⟩:=lpSetV_ok (g:=X.g) hs2
 obtain ⟨n2,e2,σ2,hx2,s3,r1,r2,r3⟩:=hr _ _ _ _ _ _ p3
 have hst:(s.enter fsz (putPS ps xs fsz (allS fsl fsz 0)) ([],.skip,.skip)).st X.g=⟨putPT ps (TV.avs X.g s.ln xs) (T.ofL (T.toL ⟨fsz,avL X.g s.ln fsl⟩)),s.Hv X.g⟩:=by
  show (⟨DS.tm X.g _,DS.Hv X.g _⟩:ST)=_
  rw [k1,k3,putPS_av,allS_of]
 rw [hst] at hx1
 have hm1:=execT_mono (Nat.le_max_left n1 n2) _ _ _ _ hx1
 have hm2:=execT_mono (Nat.le_max_right n1 n2) _ _ _ _ hx2
 have hs2st:s2.st X.g=⟨σ1.tmps,s2.Hv X.g⟩:=by
  rw [←p1];show (⟨DS.tm X.g _,DS.Hv X.g _⟩:ST)=⟨s1.tm X.g,_⟩;rw [q2]
 rw [hs2st] at hm2
 have hset:lpSet .ready .busy σ1.H l=some (s2.Hv X.g):=by rw [←p1];exact q1
 have hF3:s3.FR X.g=s.FR X.g++[(s.tm X.g,([],.skip,.skip))]:=by rw [r2,q3,p2,k2]
 have fin:∀ {y:Ls} {bb:Bool},(match lpSetV .busy y s3 l with
  | some s2=>(match s2.leave s.fr.length with | some s3=>k (.bool bb) s3 | none=>none)
  | none=>none)=some r→∃ H2,lpSet .busy y σ2.H l=some H2∧CK X.g s k r (.bool bb) H2:=by
  intro y bb h3
  split at h3
  case h_2=>cases h3
  rename_i s4 hs4
  split at h3
  case h_2=>cases h3
  rename_i s5 hs5
  obtain ⟨u1,u2,u3⟩:=lpSetV_ok (g:=X.g) hs4
  obtain ⟨v1,v2,v3,v4⟩:=leave_ok (g:=X.g) hs5 (by rw [u3,hF3])
  exact ⟨s4.Hv X.g,by rw [←r1];exact u1,.bool bb,s5,rfl,v4,v1,v2,h3⟩
 have hxl:(TV.avs X.g s.ln xs).length=ps.length:=by rw [avs_len];exact hlen
 cases e2 with
 | normal=>
  obtain ⟨H2,w1,w2⟩:=fin r3
  refine ⟨max n1 n2,_,_,?_,w2⟩
  unfold rndT
  dsimp only
  rw [hH]
  dsimp only
  rw [if_pos hxl,Hv_len,hm1]
  dsimp only
  rw [hset]
  dsimp only
  rw [hm2]
  dsimp only
  rw [w1]
 | exit i=>
  obtain ⟨H2,w1,w2⟩:=fin r3
  refine ⟨max n1 n2,_,_,?_,w2⟩
  unfold rndT
  dsimp only
  rw [hH]
  dsimp only
  rw [if_pos hxl,Hv_len,hm1]
  dsimp only
  rw [hset]
  dsimp only
  rw [hm2]
  dsimp only
  rw [w1]
 | ret=>
  obtain ⟨H2,w1,w2⟩:=fin r3
  refine ⟨max n1 n2,_,_,?_,w2⟩
  unfold rndT
  dsimp only
  rw [hH]
  dsimp only
  rw [if_pos hxl,Hv_len,hm1]
  dsimp only
  rw [hset]
  dsimp only
  rw [hm2]
  dsimp only
  rw [w1]
theorem yldOf_ok {v:TV G} {l:Nat} (h:yldOf v=some l):v= .raw (.yld l):=by
 cases v with
 | raw a=>cases a<;>first | (injection h with h;subst h;rfl) | cases h
 | _=>cases h
theorem fnOf_ok {v:TV G} {p:Nat×List (TV G)} (h:fnOf v=some p):v= .fn p.1 p.2:=by
 cases v with
 | fn f l=>injection h with h;subst h;rfl
 | _=>cases h
theorem ofPos_ok {g:Ge G} {ln:Nat→Nat}:∀ {q:List AV} {l:List (TV G)},ofPos q=some l→TV.avs g ln l=q
 | [],l,h=>by injection h with h;subst h;rfl
 | x::r,l,h=>by
  unfold ofPos at h
  split at h
  ·rename_i e;cases e
  ·rename_i id o r' e
   injection e with e1 e2
   subst e1;subst e2
   split at h
   case h_2=>cases h
   rename_i m hm
   injection h with h;subst h
   rw [TV.avs,ofPos_ok hm];rfl
  ·cases h
theorem bndOf_ok {g:Ge G} {ln:Nat→Nat} {v:TV G} {p:Nat×List (TV G)} (h:bndOf v=some p):v.av g ln= .bnd p.1 (TV.avs g ln p.2):=by
 unfold bndOf at h
 split at h
 case h_2=>cases h
 split at h
 case h_2=>cases h
 split at h
 case h_2=>cases h
 rename_i l hl
 injection h with h;subst h
 show AV.bnd _ _=_
 rw [ofPos_ok hl]
theorem dop_ok {X:Cx G} {E:Env} (hX:X.Ok E) {rec:Rec G} (hr:RecOk E X.hp X.g rec) {dr:Bool} {a:An} {s:DS G} {d:Option Nat} {op:RO} {os:List ROp} {k:TV G→DS G→Option R} {r:R} {Q:T→List Obj→Prop}
 (h:dop X rec dr a s op k=some r) (hk:∀ w s',s'.tm X.g=s.tm X.g→s'.FR X.g=s.FR X.g→k w s'=some r→WO E X.hp dr os (putD (s'.tm X.g) d (w.av X.g s'.ln)) (s'.Hv X.g) Q):
 WO E X.hp dr (⟨d,none,op⟩::os) (s.tm X.g) (s.Hv X.g) Q:=by
 have fin:∀ {v:AV} {H:List Obj},CK X.g s k r v H→WO E X.hp dr os (putD (s.tm X.g) d v) H Q:=by
  rintro v H ⟨w,s',rfl,rfl,h1,h2,h3⟩
  have:=hk w s' h1 h2 h3
  rw [h1] at this;exact this
 have mono:∀ {f:Nat} {xs:List AV},WC E X.hp dr f xs (s.Hv X.g) (CK X.g s k r)→WC E X.hp dr f xs (s.Hv X.g) (fun v H'=>WO E X.hp dr os (putD (s.tm X.g) d v) H' Q):=by
  rintro f xs ⟨n,v,H',h1,h2⟩
  exact ⟨n,v,H',h1,fin h2⟩
 have rx:=DS.rx_av X.g E.glob s
 have plain:∀ {op:RO},ev X.g X.gl s s.H.length op k=some r→WO E X.hp dr (⟨d,none,op⟩::os) (s.tm X.g) (s.Hv X.g) Q:=by
  intro op h
  obtain ⟨h1,w,s',h2,h3,h4,h5⟩:=ev_ok hX.g h
  rw [hX.gl] at h2
  refine WO_step h1 rfl (by rw [Hv_len];exact h2) ?_
  exact fin ⟨w,s',rfl,rfl,h3,h4,h5⟩
 unfold dop at h
 split at h
 ·rename_i f args
  refine WO_call.2 ?_
  have:=dcall_ok hX hr h
  rw [hX.gl,←DS.rxs_av] at this
  exact mono this
 ·rename_i x args
  split at h
  ·rename_i p hp
   have e:=fnOf_ok hp
   have hx:evT E.glob (s.tm X.g) x= .fn p.1 (TV.avs X.g s.ln p.2):=by rw [rx,←hX.gl,e];rfl
   refine (WO_callv hx).2 ?_
   have:=dcall_ok hX hr h
   rw [avs_app,hX.gl,←DS.rxs_av] at this
   exact mono this
  ·split at h
   ·rename_i l hl
    split at h
    ·cases h
    rename_i hd
    have e:dr=false:=by simpa using hd
    subst e
    have e:=yldOf_ok hl
    have hx:evT E.glob (s.tm X.g) x= .yld l:=by rw [rx,←hX.gl,e];rfl
    obtain ⟨n,v,H',h1,h2⟩:=dyld_ok hX hr h
    rw [hX.gl,←DS.rxs_av] at h1
    exact WO_yld hx h1 (fin h2)
   ·split at h
    case h_2=>cases h
    rename_i p hp
    have hx:evT E.glob (s.tm X.g) x= .bnd p.1 (TV.avs X.g s.ln p.2):=by rw [rx,←hX.gl];exact bndOf_ok hp
    refine WO_callb hx ?_
    have:=dcall_ok hX hr h
    rw [avs_app,hX.gl,←DS.rxs_av] at this
    exact mono this
 ·exact plain h
theorem dop1_ok {X:Cx G} {E:Env} (hX:X.Ok E) {rec:Rec G} (hr:RecOk E X.hp X.g rec) {dr:Bool} {a:An} {s:DS G} {d:Option Nat} {op:RO} {os:List ROp} {k:DS G→Option R} {r:R} {Q:T→List Obj→Prop}
 (h:dop1 X rec dr a d op s k=some r) (hk:∀ s',s'.FR X.g=s.FR X.g→k s'=some r→WO E X.hp dr os (s'.tm X.g) (s'.Hv X.g) Q):
 WO E X.hp dr (⟨d,none,op⟩::os) (s.tm X.g) (s.Hv X.g) Q:=by
 have plain:∀ {a:An},(dop X rec dr a s op fun v s'=>k (s'.putD d v))=some r→WO E X.hp dr (⟨d,none,op⟩::os) (s.tm X.g) (s.Hv X.g) Q:=by
  intro a h
  refine dop_ok hX hr h fun w s' h1 h2 h3=>?_
  have:=hk _ (by rw [DS.putD_FR,h2]) h3
  rw [DS.putD_tm,DS.putD_Hv] at this
  exact this
 unfold dop1 at h
 split at h
 ·rename_i e P a
  obtain ⟨w,h1,h2⟩:=bind_some h
  refine dop_ok hX hr h1 fun u s' k1 k2 k3=>?_
  obtain ⟨q1,q2⟩:=Tm.ok hX.g k3 (fun x v hm hi=>by
   obtain ⟨g1,g2⟩:=kept_get (g:=X.g) (Tm.srt k3).1 hm
   rw [DS.putD_tm,k1,←g1]
   cases d with
   | none=>rfl
   | some d=>exact keep_put (A:=[]) x g2) (by rw [DS.putD_FR,k2])
  have h3:=hk _ (by rw [q2,DS.putD_FR,k2]) h2
  have e1:(P.reb X.g (dstL d) s w).tm X.g=(s'.putD d u).tm X.g:=congrArg ST.tmps q1
  have e2:(P.reb X.g (dstL d) s w).Hv X.g=(s'.putD d u).Hv X.g:=congrArg ST.H q1
  rw [e1,e2,DS.putD_tm,DS.putD_Hv] at h3
  exact h3
 ·exact plain h
theorem isTup0_ok {g:Ge G} {ln:Nat→Nat} {v:TV G} (h:isTup0 v=true):v.av g ln= .tup []:=by
 unfold isTup0 at h
 split at h
 ·split at h
  ·split at h
   ·rfl
   ·cases h
  ·cases h
 ·cases h
theorem boolOf_ok {v:TV G} {b:Bool} (h:boolOf v=some b):v= .bool b:=by
 cases v with
 | bool c=>injection h with h;subst h;rfl
 | _=>cases h
theorem dops_ok {X:Cx G} {E:Env} (hX:X.Ok E) {rec:Rec G} (hr:RecOk E X.hp X.g rec) {dr:Bool} {r:R} {Q:T→List Obj→Prop}:∀ (os:List ROp) {i:Nat} {a:An} {s:DS G} {k:DS G→Option R},
 dops X rec dr os i a s k=some r→(∀ s',s'.FR X.g=s.FR X.g→k s'=some r→Q (s'.tm X.g) (s'.Hv X.g))→WO E X.hp dr os (s.tm X.g) (s.Hv X.g) Q
 | [],i,a,s,k,h,hk=>WO_nil.2 (hk s rfl h)
 | o::os,i,a,s,k,h,hk=>by
  obtain ⟨d,gd,op⟩:=o
  rw [dops] at h
  have go:∀ {s1:DS G},s1.FR X.g=s.FR X.g→dop1 X rec dr (a.op i) d op s1 (fun s'=>dops X rec dr os (i+1) a s' k)=some r→WO E X.hp dr (⟨d,none,op⟩::os) (s1.tm X.g) (s1.Hv X.g) Q:=by
   intro s1 hF h
   exact dop1_ok hX hr h fun s' h1 h2=>dops_ok hX hr os h2 fun s'' h3 h4=>hk s'' (by rw [h3,h1,hF]) h4
  have skip:∀ {s1:DS G},s1.FR X.g=s.FR X.g→s1.tm X.g=s.tm X.g→s1.Hv X.g=s.Hv X.g→wantT (s.tm X.g) gd=some false→dops X rec dr os (i+1) a (s1.putD d (.raw (.tup []))) k=some r→WO E X.hp dr (⟨d,gd,op⟩::os) (s.tm X.g) (s.Hv X.g) Q:=by
   intro s1 hF ht hH hw h
   have:=dops_ok hX hr os h fun s'' h3 h4=>hk s'' (by rw [h3,DS.putD_FR,hF]) h4
   rw [DS.putD_tm,DS.putD_Hv,ht,hH] at this
   exact WO_pass hw this
  cases gd with
  | none=>exact go rfl h
  | some p=>
   obtain ⟨t,b⟩:=p
   dsimp only at h
   have hget:(s.tm X.g).get t=(s.get t).av X.g s.ln:=DS.get_av X.g s t
   split at h
   ·rename_i c hc
    have hv:=boolOf_ok hc
    rw [hv] at hget
    have hw:wantT (s.tm X.g) (some (t,b))=some (c==b):=by
     unfold wantT;dsimp only;rw [hget];rfl
    have rp:∀ {b':Bool},c=b'→(s.rep t (.bool b')).tm X.g=s.tm X.g∧(s.rep t (.bool b')).Hv X.g=s.Hv X.g∧(s.rep t (.bool b')).FR X.g=s.FR X.g:=by
     intro b' e;subst e
     exact rep_ok (by rw [hv])
    have run:∀ {b':Bool},c=b'→(c==b)=true→dop1 X rec dr (a.op i) d op (s.rep t (.bool b')) (fun s'=>dops X rec dr os (i+1) a s' k)=some r→WO E X.hp dr (⟨d,some (t,b),op⟩::os) (s.tm X.g) (s.Hv X.g) Q:=by
     intro b' e1 e2 h
     obtain ⟨r1,r2,r3⟩:=rp e1
     rw [e2] at hw
     refine (WO_do hw).2 ?_
     have:=go r3 h
     rw [r1,r2] at this;exact this
    have no:∀ {b':Bool},c=b'→(c==b)=false→dops X rec dr os (i+1) a ((s.rep t (.bool b')).putD d (.raw (.tup []))) k=some r→WO E X.hp dr (⟨d,some (t,b),op⟩::os) (s.tm X.g) (s.Hv X.g) Q:=by
     intro b' e1 e2 h
     obtain ⟨r1,r2,r3⟩:=rp e1
     rw [e2] at hw
     exact skip r3 r1 r2 hw h
    cases b with
    | true=>
     simp only [if_true] at h
     cases c with
     | true=>exact run rfl rfl h
     | false=>exact no rfl rfl h
    | false=>
     simp only [Bool.false_eq_true,if_false] at h
     cases c with
     | true=>exact no rfl rfl h
     | false=>exact run rfl rfl h
   ·split at h
    case isFalse=>cases h
    rename_i h0
    refine skip (s1:=s) rfl rfl rfl ?_ h
    unfold wantT
    dsimp only
    rw [hget,isTup0_ok h0]
def jn (g:Ge G) (A:List Nat) (f:{R:Type}→An→DS G→Kn G R→Option R):{R:Type}→An→DS G→Kn G R→Option R
 | R,.j e P a,s,K=>(match e with
  | true=>(jn g A f a s (⟨fun s'=>(P.coll g A s s').map .inl,fun i s'=>(K.x i s').map .inr,fun s'=>(K.r s').map .inr⟩:Kn G (DL G P.ts⊕R))).bind (Sum.elim (fun w=>K.n (P.reb g A s w)) some)
  | false=>(jn g A f a s (⟨fun s'=>P.coll g A s s',fun _ _=>none,fun _=>none⟩:Kn G (DL G P.ts))).bind fun w=>K.n (P.reb g A s w))
 | _,a,s,K=>f a s K
def dun (f:{R:Type}→An→DS G→Kn G R→Option R):List An→{R:Type}→DS G→Kn G R→Option R
 | [],_,_,_=>none
 | a::l,_,s,K=>f a s ⟨fun s'=>dun f l s' K,K.x,K.r⟩
def dlp (g:Ge G) (A:List Nat) (f:{R:Type}→An→DS G→Kn G R→Option R):{R:Type}→An→DS G→Kn G R→Option R
 | R,.l e i P B a,s,K=>(match P.coll g A s s with
  | some w0=>(match e with
   | true=>(iter (fun w=>f a (P.reb g A s w) (⟨fun s'=>(P.coll g A s s').map .inl,fun j s'=>bif Nat.beq j i then (B.coll g A s s').map fun v=> .inr (.inl v) else (K.x j s').map fun r=> .inr (.inr r),fun s'=>(K.r s').map fun r=> .inr (.inr r)⟩:Kn G (DL G P.ts⊕(DL G B.ts⊕R)))) w0).bind (Sum.elim (fun v=>K.x i (B.reb g A s v)) some)
   | false=>(iter (fun w=>f a (P.reb g A s w) (⟨fun s'=>(P.coll g A s s').map .inl,fun j s'=>bif Nat.beq j i then (B.coll g A s s').map .inr else none,fun _=>none⟩:Kn G (DL G P.ts⊕DL G B.ts))) w0).bind fun v=>K.x i (B.reb g A s v))
  | none=>none)
 | _,.u l,s,K=>dun f l s K
 | _,_,_,_=>none
def Sat (E:Env) (hp:Nat→Bool) (g:Ge G) (c:RC) (b:Nat) (s:DS G) (K:Kn G R) (r:R):Prop:=WP E hp c b (fun e σ=>∃ s':DS G,s'.st g=σ∧s'.FR g=s.FR g∧K.at e s'=some r) (s.st g)
theorem jn_ok {E:Env} {hp:Nat→Bool} {g:Ge G} (hg:g.Ok) {c:RC} {b:Nat} {f:{R:Type}→An→DS G→Kn G R→Option R} (hf:∀ {R:Type} (a:An) (s:DS G) (K:Kn G R) (r:R),f a s K=some r→Sat E hp g c b s K r):
 ∀ (a:An) {R:Type} (s:DS G) (K:Kn G R) (r:R),jn g (asg c) f a s K=some r→Sat E hp g c b s K r
 | .j e P a,R,s,K,r,h=>by
  have reach:∀ {w:DL G P.ts} {s':DS G},P.coll g (asg c) s s'=some w→Keep (asg c) (s.tm g) (s'.tm g)→s'.FR g=s.FR g→(P.reb g (asg c) s w).st g=s'.st g∧(P.reb g (asg c) s w).FR g=s.FR g:=by
   intro w s' h1 h2 h3
   obtain ⟨q1,q2⟩:=Tm.ok hg h1 (fun x u hm hi=>by
    obtain ⟨g1,g2⟩:=kept_get (g:=g) (Tm.srt h1).1 hm
    rw [←g1];exact h2 x g2) h3
   exact ⟨q1,by rw [q2,h3]⟩
  cases e with
  | true=>
   have h:(jn g (asg c) f a s (⟨fun s'=>(P.coll g (asg c) s s').map .inl,fun i s'=>(K.x i s').map .inr,fun s'=>(K.r s').map .inr⟩:Kn G (DL G P.ts⊕R))).bind (Sum.elim (fun w=>K.n (P.reb g (asg c) s w)) some)=some r:=h
   obtain ⟨z,h1,h2⟩:=bind_some h
   have ih:=jn_ok hg hf a _ _ _ h1
   refine (WP_keep ih).mono ?_
   rintro e σ ⟨⟨s',p1,p2,p3⟩,hk⟩
   subst p1
   cases e with
   | normal=>
    obtain ⟨w,q1,q2⟩:=map_some p3
    subst q2
    obtain ⟨k1,k2⟩:=reach q1 (hk nofun) p2
    exact ⟨_,k1,k2,h2⟩
   | exit i=>
    obtain ⟨w,q1,q2⟩:=map_some p3
    subst q2
    have h2:some w=some r:=h2
    injection h2 with h2;subst h2
    exact ⟨s',rfl,p2,q1⟩
   | ret=>
    obtain ⟨w,q1,q2⟩:=map_some p3
    subst q2
    have h2:some w=some r:=h2
    injection h2 with h2;subst h2
    exact ⟨s',rfl,p2,q1⟩
  | false=>
   have h:(jn g (asg c) f a s (⟨fun s'=>P.coll g (asg c) s s',fun _ _=>none,fun _=>none⟩:Kn G (DL G P.ts))).bind (fun w=>K.n (P.reb g (asg c) s w))=some r:=h
   obtain ⟨w,h1,h2⟩:=bind_some h
   have ih:=jn_ok hg hf a _ _ _ h1
   refine (WP_keep ih).mono ?_
   rintro e σ ⟨⟨s',p1,p2,p3⟩,hk⟩
   subst p1
   cases e with
   | normal=>
    obtain ⟨k1,k2⟩:=reach p3 (hk nofun) p2
    exact ⟨_,k1,k2,h2⟩
   | exit i=>cases p3
   | ret=>cases p3
 | .n,R,s,K,r,h=>hf _ _ _ _ h
 | .l ..,R,s,K,r,h=>hf _ _ _ _ h
 | .s _,R,s,K,r,h=>hf _ _ _ _ h
 | .o _,R,s,K,r,h=>hf _ _ _ _ h
 | .u _,R,s,K,r,h=>hf _ _ _ _ h
theorem WP_loop1 {E:Env} {hp:Nat→Bool} {p:RC} {b:Nat} {Q:Ex→ST→Prop} {s:ST} (h:WP E hp p b (fun e s'=>match e with | .normal=>WP E hp (.loop p) b Q s' | .exit j=>Q (.exit j) s' | .ret=>Q .ret s') s):WP E hp (.loop p) b Q s:=by
 obtain ⟨n,e,s1,h1,hq⟩:=h
 cases e with
 | normal=>
  obtain ⟨n2,e2,s2,h2,hq2⟩:=hq
  refine ⟨max n n2+1,e2,s2,?_,hq2⟩
  rw [execT,execT_mono (Nat.le_max_left n n2) _ _ _ _ h1]
  exact execT_mono (Nat.le_max_right n n2) _ _ _ _ h2
 | exit j=>exact ⟨n+1,_,_,by rw [execT,h1],hq⟩
 | ret=>exact ⟨n+1,_,_,by rw [execT,h1],hq⟩
theorem dun_ok {E:Env} {hp:Nat→Bool} {g:Ge G} {c:RC} {b:Nat} {f:{R:Type}→An→DS G→Kn G R→Option R} (hf:∀ {R:Type} (a:An) (s:DS G) (K:Kn G R) (r:R),f a s K=some r→Sat E hp g c b s K r):
 ∀ (l:List An) {R:Type} {s:DS G} {K:Kn G R} {r:R},dun f l s K=some r→Sat E hp g (.loop c) b s K r
 | [],R,s,K,r,h=>by cases h
 | a::l,R,s,K,r,h=>by
  rw [dun] at h
  refine WP_loop1 ((hf _ _ _ _ h).mono ?_)
  rintro e σ ⟨s',p1,p2,p3⟩
  cases e with
  | normal=>
   have p3:dun f l s' K=some r:=p3
   subst p1
   refine (dun_ok hf l p3).mono ?_
   rintro e2 σ2 ⟨s2,q1,q2,q3⟩
   exact ⟨s2,q1,by rw [q2,p2],q3⟩
  | exit j=>exact ⟨s',p1,p2,p3⟩
  | ret=>exact ⟨s',p1,p2,p3⟩
theorem iterN_sat {E:Env} {hp:Nat→Bool} {p:RC} {b:Nat} {Q:Ex→ST→Prop} {σ ρ:Type} {body:σ→Option (σ⊕ρ)} (st:σ→ST) (I:σ→Prop) {z:ρ}
 (h:∀ w y,I w→body w=some y→WP E hp p b (fun e s'=>match e with
  | .normal=>∃ w',y= .inl w'∧I w'∧st w'=s'
  | .exit j=>∃ x,y= .inr x∧(x=z→Q (.exit j) s')
  | .ret=>∃ x,y= .inr x∧(x=z→Q .ret s')) (st w)):∀ (n:Nat) (w:σ),I w→iterN body n w=some z→WP E hp (.loop p) b Q (st w)
 | 0,w,hI,e=>by simp [iterN] at e
 | n+1,w,hI,e=>by
  rw [iterN] at e
  split at e
  ·cases e
  ·rename_i w' hb
   refine WP_loop1 ((h w _ hI hb).mono fun ex s' q=>?_)
   cases ex with
   | normal=>
    obtain ⟨w2,e1,e2,e3⟩:=q
    injection e1 with e1;subst e1;subst e3
    exact iterN_sat st I h n _ e2 e
   | exit j=>obtain ⟨x,e1,_⟩:=q;cases e1
   | ret=>obtain ⟨x,e1,_⟩:=q;cases e1
  ·rename_i x hb
   injection e with e;subst e
   refine WP_loop1 ((h w _ hI hb).mono fun ex s' q=>?_)
   cases ex with
   | normal=>obtain ⟨w2,e1,_⟩:=q;cases e1
   | exit j=>obtain ⟨y,e1,e2⟩:=q;injection e1 with e1;exact e2 e1.symm
   | ret=>obtain ⟨y,e1,e2⟩:=q;injection e1 with e1;exact e2 e1.symm
theorem dlp_ok {E:Env} {hp:Nat→Bool} {g:Ge G} (hg:g.Ok) {c:RC} {b:Nat} {f:{R:Type}→An→DS G→Kn G R→Option R} (hf:∀ {R:Type} (a:An) (s:DS G) (K:Kn G R) (r:R),f a s K=some r→Sat E hp g c b s K r)
 {a:An} {s:DS G} {K:Kn G R} {r:R} (h:dlp g (asg c) f a s K=some r):Sat E hp g (.loop c) b s K r:=by
 cases a with
 | l e i P B a=>
  unfold dlp at h
  dsimp only at h
  split at h
  case h_2=>cases h
  rename_i w0 hw0
  let I:DL G P.ts→Prop:=fun w=>(P.reb g (asg c) s w).FR g=s.FR g∧Keep (asg c) (s.tm g) ((P.reb g (asg c) s w).tm g)
  have hs:=(Tm.srt hw0).1
  have first:(P.reb g (asg c) s w0).st g=s.st g∧I w0:=by
   obtain ⟨q1,q2⟩:=Tm.ok hg hw0 (fun x u hm hi=>(kept_get (g:=g) hs hm).1) rfl
   have e:(P.reb g (asg c) s w0).tm g=s.tm g:=congrArg ST.tmps q1
   exact ⟨q1,q2,by rw [e];exact Keep.refl⟩
  have next:∀ {T:Tm} {w:DL G P.ts} {v:DL G T.ts} {s':DS G},I w→T.coll g (asg c) s s'=some v→Keep (asg c) ((P.reb g (asg c) s w).tm g) (s'.tm g)→s'.FR g=(P.reb g (asg c) s w).FR g→
   (T.reb g (asg c) s v).st g=s'.st g∧(T.reb g (asg c) s v).FR g=s.FR g∧Keep (asg c) (s.tm g) ((T.reb g (asg c) s v).tm g):=by
   intro T w v s' hI h1 h2 h3
   have hk:=hI.2.trans h2
   obtain ⟨q1,q2⟩:=Tm.ok hg h1 (fun x u hm hi=>by
    obtain ⟨g1,g2⟩:=kept_get (g:=g) hs hm
    rw [←g1];exact hk x g2) (by rw [h3,hI.1])
   have e:(T.reb g (asg c) s v).tm g=s'.tm g:=congrArg ST.tmps q1
   exact ⟨q1,by rw [q2,h3,hI.1],by rw [e];exact hk⟩
  unfold Sat
  rw [←first.1]
  cases e with
  | true=>
   obtain ⟨z,h1,h2⟩:=bind_some h
   refine iterN_sat (fun w=>(P.reb g (asg c) s w).st g) I (fun w y hI hb=>?_) _ _ first.2 h1
   refine (WP_keep (hf _ _ _ _ hb)).mono ?_
   rintro ex σ ⟨⟨s',p1,p2,p3⟩,hk⟩
   subst p1
   cases ex with
   | normal=>
    obtain ⟨w',q1,q2⟩:=map_some p3
    obtain ⟨n1,n2,n3⟩:=next hI q1 (hk nofun) p2
    exact ⟨w',q2.symm,⟨n2,n3⟩,n1⟩
   | exit j=>
    have p3:(bif Nat.beq j i then (B.coll g (asg c) s s').map fun v=> .inr (.inl v) else (K.x j s').map fun r=> .inr (.inr r))=some y:=p3
    cases hj:Nat.beq j i with
    | true=>
     rw [hj] at p3
     obtain ⟨v,q1,q2⟩:=map_some p3
     have ej:=Nat.eq_of_beq_eq_true hj
     subst ej
     refine ⟨.inl v,q2.symm,fun e=>?_⟩
     subst e
     obtain ⟨n1,n2,_⟩:=next hI q1 (hk nofun) p2
     exact ⟨_,n1,n2,h2⟩
    | false=>
     rw [hj] at p3
     obtain ⟨v,q1,q2⟩:=map_some p3
     refine ⟨.inr v,q2.symm,fun e=>?_⟩
     subst e
     have h2:some v=some r:=h2
     injection h2 with h2;subst h2
     exact ⟨s',rfl,by rw [p2,hI.1],q1⟩
   | ret=>
    obtain ⟨v,q1,q2⟩:=map_some p3
    refine ⟨.inr v,q2.symm,fun e=>?_⟩
    subst e
    have h2:some v=some r:=h2
    injection h2 with h2;subst h2
    exact ⟨s',rfl,by rw [p2,hI.1],q1⟩
  | false=>
   obtain ⟨z,h1,h2⟩:=bind_some h
   refine iterN_sat (fun w=>(P.reb g (asg c) s w).st g) I (fun w y hI hb=>?_) _ _ first.2 h1
   refine (WP_keep (hf _ _ _ _ hb)).mono ?_
   rintro ex σ ⟨⟨s',p1,p2,p3⟩,hk⟩
   subst p1
   cases ex with
   | normal=>
    obtain ⟨w',q1,q2⟩:=map_some p3
    obtain ⟨n1,n2,n3⟩:=next hI q1 (hk nofun) p2
    exact ⟨w',q2.symm,⟨n2,n3⟩,n1⟩
   | exit j=>
    have p3:(bif Nat.beq j i then (B.coll g (asg c) s s').map .inr else none)=some y:=p3
    cases hj:Nat.beq j i with
    | true=>
     rw [hj] at p3
     obtain ⟨v,q1,q2⟩:=map_some p3
     have ej:=Nat.eq_of_beq_eq_true hj
     subst ej
     refine ⟨v,q2.symm,fun e=>?_⟩
     subst e
     obtain ⟨n1,n2,_⟩:=next hI q1 (hk nofun) p2
     exact ⟨_,n1,n2,h2⟩
    | false=>rw [hj] at p3;cases p3
   | ret=>cases p3
 | u l=>exact dun_ok hf l h
 | _=>cases h
def dlg (g:Ge G) (A:List Nat) (b i:Nat) (post:List GA) (f:{R:Type}→An→DS G→Kn G R→Option R):{R:Type}→An→DS G→Kn G R→Option R
 | R,.l e _ P B a,s,K=>(match P.coll g A s s with
  | some w0=>(match e with
   | true=>(iter (fun w=>f a (P.reb g A s w) (⟨fun s'=>(P.coll g A s s').map .inl,fun j s'=>bif Nat.beq j i then (match ghV g b post s' with | some s2=>(B.coll g (A++gas post) s s2).map fun v=> .inr (.inl v) | none=>none) else (K.x j s').map fun r=> .inr (.inr r),fun s'=>(K.r s').map fun r=> .inr (.inr r)⟩:Kn G (DL G P.ts⊕(DL G B.ts⊕R)))) w0).bind (Sum.elim (fun v=>K.n (B.reb g (A++gas post) s v)) some)
   | false=>(iter (fun w=>f a (P.reb g A s w) (⟨fun s'=>(P.coll g A s s').map .inl,fun j s'=>bif Nat.beq j i then (match ghV g b post s' with | some s2=>(B.coll g (A++gas post) s s2).map .inr | none=>none) else none,fun _=>none⟩:Kn G (DL G P.ts⊕DL G B.ts))) w0).bind fun v=>K.n (B.reb g (A++gas post) s v))
  | none=>none)
 | _,.u l,s,K=>dun f l s ⟨fun _=>none,fun j s'=>bif Nat.beq j i then (match ghV g b post s' with | some s2=>K.n s2 | none=>none) else K.x j s',K.r⟩
 | _,_,_,_=>none
theorem dlg_ok {E:Env} {hp:Nat→Bool} {g:Ge G} (hg:g.Ok) (hw:g.Wk) {c:RC} {b i:Nat} {post:List GA} {f:{R:Type}→An→DS G→Kn G R→Option R} (hf:∀ {R:Type} (a:An) (s:DS G) (K:Kn G R) (r:R),f a s K=some r→Sat E hp g c b s K r)
 {a:An} {s:DS G} {K:Kn G R} {r:R} (h:dlg g (asg c) b i post f a s K=some r):Sat E hp g (.gh [] (.block i (.loop c)) post) b s K r:=by
 cases a with
 | l e _ P B a=>
  unfold dlg at h
  dsimp only at h
  split at h
  case h_2=>cases h
  rename_i w0 hw0
  let I:DL G P.ts→Prop:=fun w=>(P.reb g (asg c) s w).FR g=s.FR g∧Keep (asg c) (s.tm g) ((P.reb g (asg c) s w).tm g)
  have hs:=(Tm.srt hw0).1
  have first:(P.reb g (asg c) s w0).st g=s.st g∧I w0:=by
   obtain ⟨q1,q2⟩:=Tm.ok hg hw0 (fun x u hm hi=>(kept_get (g:=g) hs hm).1) rfl
   have e:(P.reb g (asg c) s w0).tm g=s.tm g:=congrArg ST.tmps q1
   exact ⟨q1,q2,by rw [e];exact Keep.refl⟩
  have next:∀ {w:DL G P.ts} {v:DL G P.ts} {s':DS G},I w→P.coll g (asg c) s s'=some v→Keep (asg c) ((P.reb g (asg c) s w).tm g) (s'.tm g)→s'.FR g=(P.reb g (asg c) s w).FR g→
   (P.reb g (asg c) s v).st g=s'.st g∧(P.reb g (asg c) s v).FR g=s.FR g∧Keep (asg c) (s.tm g) ((P.reb g (asg c) s v).tm g):=by
   intro w v s' hI h1 h2 h3
   have hk:=hI.2.trans h2
   obtain ⟨q1,q2⟩:=Tm.ok hg h1 (fun x u hm hi=>by
    obtain ⟨g1,g2⟩:=kept_get (g:=g) hs hm
    rw [←g1];exact hk x g2) (by rw [h3,hI.1])
   have e:(P.reb g (asg c) s v).tm g=s'.tm g:=congrArg ST.tmps q1
   exact ⟨q1,by rw [q2,h3,hI.1],by rw [e];exact hk⟩
  have last:∀ {w:DL G P.ts} {v:DL G B.ts} {s' s2:DS G},I w→ghV g b post s'=some s2→B.coll g (asg c++gas post) s s2=some v→Keep (asg c) ((P.reb g (asg c) s w).tm g) (s'.tm g)→s'.FR g=(P.reb g (asg c) s w).FR g→
   ghostsT b post (s'.st g)=some ((B.reb g (asg c++gas post) s v).st g)∧(B.reb g (asg c++gas post) s v).FR g=s.FR g:=by
   intro w v s' s2 hI h0 h1 h2 h3
   obtain ⟨g3,g4⟩:=ghV_ok hg hw h0
   have hk:Keep (asg c++gas post) (s.tm g) (s2.tm g):=(hI.2.trans h2).app1.trans (Keep.app2 (keep_gh g3))
   obtain ⟨q1,q2⟩:=Tm.ok hg h1 (fun x u hm hi=>by
    obtain ⟨g1,g2⟩:=kept_get (g:=g) hs hm
    rw [←g1];exact hk x g2) (by rw [g4,h3,hI.1])
   exact ⟨by rw [g3,q1],by rw [q2,g4,h3,hI.1]⟩
  unfold Sat
  refine WP_gh.2 ?_
  show WP E hp (.block i (.loop c)) b _ (s.st g)
  refine WP_block.2 ?_
  rw [←first.1]
  cases e with
  | true=>
   obtain ⟨z,h1,h2⟩:=bind_some h
   refine iterN_sat (fun w=>(P.reb g (asg c) s w).st g) I (fun w y hI hb=>?_) _ _ first.2 h1
   refine (WP_keep (hf _ _ _ _ hb)).mono ?_
   rintro ex σ ⟨⟨s',p1,p2,p3⟩,hk⟩
   subst p1
   cases ex with
   | normal=>
    obtain ⟨w',q1,q2⟩:=map_some p3
    obtain ⟨n1,n2,n3⟩:=next hI q1 (hk nofun) p2
    exact ⟨w',q2.symm,⟨n2,n3⟩,n1⟩
   | exit j=>
    have p3:(bif Nat.beq j i then (match ghV g b post s' with | some s2=>(B.coll g (asg c++gas post) s s2).map fun v=> .inr (.inl v) | none=>none) else (K.x j s').map fun r=> .inr (.inr r))=some y:=p3
    cases hj:Nat.beq j i with
    | true=>
     rw [hj] at p3
     have p3:(match ghV g b post s' with | some s2=>(B.coll g (asg c++gas post) s s2).map fun v=> .inr (.inl v) | none=>none)=some y:=p3
     split at p3
     case h_2=>cases p3
     rename_i s2 hs2
     obtain ⟨v,q1,q2⟩:=map_some p3
     have ej:=Nat.eq_of_beq_eq_true hj
     subst ej
     refine ⟨.inl v,q2.symm,fun e=>?_⟩
     subst e
     obtain ⟨n1,n2⟩:=last hI hs2 q1 (hk nofun) p2
     dsimp only
     rw [if_pos rfl,n1]
     exact ⟨_,rfl,n2,h2⟩
    | false=>
     rw [hj] at p3
     obtain ⟨v,q1,q2⟩:=map_some p3
     refine ⟨.inr v,q2.symm,fun e=>?_⟩
     subst e
     have h2:some v=some r:=h2
     injection h2 with h2;subst h2
     dsimp only
     rw [if_neg (by rintro rfl;rw [show Nat.beq j j=true from Nat.beq_refl j] at hj;cases hj)]
     exact ⟨s',rfl,by rw [p2,hI.1],q1⟩
   | ret=>
    obtain ⟨v,q1,q2⟩:=map_some p3
    refine ⟨.inr v,q2.symm,fun e=>?_⟩
    subst e
    have h2:some v=some r:=h2
    injection h2 with h2;subst h2
    exact ⟨s',rfl,by rw [p2,hI.1],q1⟩
  | false=>
   obtain ⟨z,h1,h2⟩:=bind_some h
   refine iterN_sat (fun w=>(P.reb g (asg c) s w).st g) I (fun w y hI hb=>?_) _ _ first.2 h1
   refine (WP_keep (hf _ _ _ _ hb)).mono ?_
   rintro ex σ ⟨⟨s',p1,p2,p3⟩,hk⟩
   subst p1
   cases ex with
   | normal=>
    obtain ⟨w',q1,q2⟩:=map_some p3
    obtain ⟨n1,n2,n3⟩:=next hI q1 (hk nofun) p2
    exact ⟨w',q2.symm,⟨n2,n3⟩,n1⟩
   | exit j=>
    have p3:(bif Nat.beq j i then (match ghV g b post s' with | some s2=>(B.coll g (asg c++gas post) s s2).map .inr | none=>none) else none)=some y:=p3
    cases hj:Nat.beq j i with
    | true=>
     rw [hj] at p3
     have p3:(match ghV g b post s' with | some s2=>(B.coll g (asg c++gas post) s s2).map .inr | none=>none)=some y:=p3
     split at p3
     case h_2=>cases p3
     rename_i s2 hs2
     obtain ⟨v,q1,q2⟩:=map_some p3
     have ej:=Nat.eq_of_beq_eq_true hj
     subst ej
     refine ⟨v,q2.symm,fun e=>?_⟩
     subst e
     obtain ⟨n1,n2⟩:=last hI hs2 q1 (hk nofun) p2
     dsimp only
     rw [if_pos rfl,n1]
     exact ⟨_,rfl,n2,h2⟩
    | false=>rw [hj] at p3;cases p3
   | ret=>cases p3
 | u l=>
  have h:dun f l s ⟨fun _=>none,fun j s'=>bif Nat.beq j i then (match ghV g b post s' with | some s2=>K.n s2 | none=>none) else K.x j s',K.r⟩=some r:=h
  have hw1:=dun_ok hf l h
  unfold Sat
  refine WP_gh.2 ?_
  show WP E hp (.block i (.loop c)) b _ (s.st g)
  refine WP_block.2 ?_
  refine hw1.mono ?_
  rintro e σ ⟨s',p1,p2,p3⟩
  subst p1
  cases e with
  | normal=>cases p3
  | exit j=>
   have p3:(bif Nat.beq j i then (match ghV g b post s' with | some s2=>K.n s2 | none=>none) else K.x j s')=some r:=p3
   cases hj:Nat.beq j i with
   | true=>
    rw [hj] at p3
    have p4:(match ghV g b post s' with | some s2=>K.n s2 | none=>none)=some r:=p3
    cases hs2:ghV g b post s' with
    | none=>rw [hs2] at p4;cases p4
    | some s2=>
     rw [hs2] at p4
     obtain ⟨g3,g4⟩:=ghV_ok hg hw hs2
     have ej:=Nat.eq_of_beq_eq_true hj
     dsimp only
     rw [if_pos ej,g3]
     exact ⟨s2,rfl,by rw [g4,p2],p4⟩
   | false=>
    rw [hj] at p3
    have p3:K.x j s'=some r:=p3
    have ej:¬ j=i:=Nat.ne_of_beq_eq_false hj
    dsimp only
    rw [if_neg ej]
    exact ⟨s',rfl,p2,p3⟩
  | ret=>exact ⟨s',rfl,p2,p3⟩
 | _=>cases h
end
end Dnm
