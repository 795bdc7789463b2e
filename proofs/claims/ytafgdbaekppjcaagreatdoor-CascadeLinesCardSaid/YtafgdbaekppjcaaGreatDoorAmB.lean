/- The abstract machine: how operations, code and calls are run (with fuel), and how resolved code comes of the program's. No condition. -/
import Derived.Test.YtafgdbaekppjcaaGreatDoorAmA
set_option linter.unusedSectionVars false
set_option linter.unusedVariables false
set_option linter.unusedSimpArgs false
namespace Go.Am
abbrev CI:=Nat→List AV→Option AV
abbrev CH:=Option Nat→List AV→List Obj→Option (AV×List Obj)
def doCall (hp:Nat→Bool) (cI:CI) (cH:CH) (f:Nat) (args:List AV) (H:List Obj):Option (AV×List Obj):=
 if hp f=true then cH (some f) args H else
 match snaps H args with
 | some as'=>(match cI f as' with
  | some v=>if (AV.bels 0 args||v.flat)=true then some (v,H) else none
  | none=>none)
 | none=>cH (some f) args H
def evalP (G:Nat→List AV) (t:List AV):RO→Option AV
 | .mov x=>some (x.ev G t)
 | .pick c a b=>(match c.ev G t with | .bool true=>some (a.ev G t) | .bool false=>some (b.ev G t) | _=>none)
 | .build z parts=>(match fillA z (parts.map fun (o,n,x)=>(o,n,x.ev G t)) with | some cs=>some (.agg cs) | none=>none)
 | .bin op x y=>bin op (x.ev G t) (y.ev G t)
 | .un op x=>un op (x.ev G t)
 | .eqA neg ks x y=>eqA neg ks (x.ev G t) (y.ev G t)
 | .eqB neg x y=>eqB neg (x.ev G t) (y.ev G t)
 | .eqP neg x y=>eqP neg (x.ev G t) (y.ev G t)
 | .nchk x=>nchk (x.ev G t)
 | .conv k x=>(match x.ev G t with | .int _ n=>some (.int k (k.wrap n)) | _=>none)
 | .fld off n ag x=>(match x.ev G t with | .agg cs=>part n ag cs off | _=>none)
 | .fad off x=>fad off (x.ev G t)
 | .iadA len sz x i=>iadA len sz (x.ev G t) (i.ev G t)
 | .idxA len n ag x i=>idxA len n ag (x.ev G t) (i.ev G t)
 | .idxS x i=>idxS (x.ev G t) (i.ev G t)
 | .slcS x lo hi=>slcS (x.ev G t) (lo.map (·.ev G t)) (hi.map (·.ev G t))
 | .mkf f cap=>some (.fn f (cap.map (·.ev G t)))
 | .mkb f l=>some (.bnd f (l.map (·.ev G t)))
 | .len st x=>(match lenOp st (x.ev G t) with | some n=>some (.int .i64 n) | none=>none)
 | .mn l=>(match l.map (·.ev G t) with | x::r=>foldO min2 x r | []=>none)
 | .mx l=>(match l.map (·.ev G t) with | x::r=>foldO max2 x r | []=>none)
 | .ext x i=>(match x.ev G t with | .tup vs=>vs[i]? | _=>none)
 | .i2s x=>i2s (x.ev G t)
 | .capn x=>(match x.ev G t with | .nils=>some (.int .i64 0) | _=>none)
 | _=>none
def evalR (G:Nat→List AV) (t:List AV) (H:List Obj):RO→Option AV
 | .load n ag a=>loadAt H n ag (a.ev G t)
 | .iadS sz x i=>iadS H sz (x.ev G t) (i.ev G t)
 | .slc sz x lo hi=>slc H sz (x.ev G t) (lo.map (·.ev G t)) (hi.map (·.ev G t))
 | .eqN neg x y=>eqN H neg (x.ev G t) (y.ev G t)
 | .slcA len sz x lo hi=>slcA H len sz (x.ev G t) (lo.map (·.ev G t)) (hi.map (·.ev G t))
 | _=>none
def evalW (G:Nat→List AV) (t:List AV) (H:List Obj) (pl:Nat):RO→Option (AV×List Obj)
 | .box x=>if allOne (x.ev G t).cells=true then some (.pown pl 1 0 0,putObj H pl (.live .norm (x.ev G t).cells.length [(x.ev G t).cells])) else none
 | .alloc z=>if allOne z=true then some (.pown pl 1 0 0,putObj H pl (.live .norm z.length [z])) else none
 | .bsl sz z len parts=>
  if z.length=sz∧allOne z=true∧len*sz≤2 ^ 24 then
   (match fillS sz (List.replicate len z) (parts.map fun (i,x)=>(i,x.ev G t)) with
    | some es=>some (.own pl len 0 len,putObj H pl (.live .norm sz es))
    | none=>none)
  else none
 | .store n a x=>(match storeAt H n (a.ev G t) (x.ev G t) with | some H'=>some (.tup [],H') | none=>none)
 | .mks sz z bytes l c=>
  (match l.ev G t,c.ev G t with
   | .int .i64 n,.int .i64 m=>if n=m∧0≤n∧n*bytes≤2 ^ 40∧n≤2 ^ 40∧z.length=sz∧allOne z=true then
    some (.own pl n.toNat 0 n.toNat,putObj H pl (.live .norm sz (List.replicate n.toNat z))) else none
   | _,_=>none)
 | .app sz bytes s x=>append H pl sz bytes (s.ev G t) (x.ev G t)
 | .bslr z len parts=>
  if z.length=1∧allOne z=true∧len*1≤2 ^ 24 then
   (match fillS 1 (List.replicate len z) (parts.map fun (i,x)=>(i,x.ev G t)) with
    | some es=>if AV.belss 0 es=true then some (.ro es,H) else none
    | none=>none)
  else none
 | .appn sz z bytes s n=>
  (match s.ev G t,n.ev G t with
   | .nils,.int .i64 m=>if 0 < m∧m*bytes≤2 ^ 40∧m≤2 ^ 40∧z.length=sz∧allOne z=true then
    some (.own pl m.toNat 0 m.toNat,putObj H pl (.live .norm sz (List.replicate m.toNat z))) else none
   | _,_=>none)
 | .mkm=>some (.mp pl,putObj H pl (.mp []))
 | .mset k m x v=>(match mset H k (m.ev G t) (x.ev G t) (v.ev G t) with | some H'=>some (.tup [],H') | none=>none)
 | .rng x=>(match x.ev G t with | .str s=>some (.itr pl,putObj H pl (.it s 0)) | _=>none)
 | .nxt x=>nxt H (x.ev G t)
 | .mget k z ok m x=>(match mget H k z ok (m.ev G t) (x.ev G t) with | some v=>some (v,H) | none=>none)
 | .mlen m=>(match mlen H (m.ev G t) with | some v=>some (v,H) | none=>none)
 | .b2s x=>(match b2s H (x.ev G t) with | some v=>some (v,H) | none=>none)
 | _=>none
inductive Kind where
 | pure | read | write | call
 deriving DecidableEq,Inhabited
def RO.kind:RO→Kind
 | .load .. | .eqN .. | .iadS .. | .slc .. | .slcA ..=> .read
 | .box _ | .alloc _ | .bsl .. | .store .. | .mks .. | .app .. | .appn .. | .bslr .. | .mkc .. | .appf .. | .bslf .. | .bad | .mkm | .mset .. | .rng _ | .nxt _ | .mget .. | .mlen _ | .b2s _=> .write
 | .call .. | .callv ..=> .call
 | _=> .pure
def evalOp (G:Nat→List AV) (hp:Nat→Bool) (cI:CI) (cH:CH) (pl:Nat) (x:RO) (t:List AV) (H:List Obj):Option (AV×List Obj):=
 match x.kind with
 | .pure=>(match evalP G t x with | some v=>some (v,H) | none=>none)
 | .read=>(match evalR G t H x with | some v=>some (v,H) | none=>none)
 | .write=>evalW G t H pl x
 | .call=>
  match x with
  | .call f args=>doCall hp cI cH f (args.map (·.ev G t)) H
  | .callv fx args=>(match fx.ev G t with
   | .fn f cap=>doCall hp cI cH f (args.map (·.ev G t)++cap) H
   | .bnd f l=>doCall hp cI cH f (l++args.map (·.ev G t)) H
   | .yld l=>cH none (.yld l::args.map (·.ev G t)) H
   | _=>none)
  | _=>none
def setD (t:List AV) (d:Option Nat) (v:AV):List AV:=
 match d with
 | some d=>t.set d v
 | none=>t
def want (t:List AV):Option (Nat×Bool)→Option Bool
 | none=>some true
 | some (s,b)=>match t.getD s .any with
  | .bool c=>some (c==b)
  | .tup []=>some false
  | _=>none
def runOps (G:Nat→List AV) (hp:Nat→Bool) (cI:CI) (cH:CH):List ROp→List AV→List Obj→Option (List AV×List Obj)
 | [],t,H=>some (t,H)
 | o::os,t,H=>
  match want t o.guard with
  | some true=>(match evalOp G hp cI cH H.length o.op t H with
   | some (v,H')=>runOps G hp cI cH os (setD t o.dst v) H'
   | none=>none)
  | some false=>runOps G hp cI cH os (setD t o.dst (.tup [])) H
  | none=>none
def actA (G:Nat→List AV) (hp:Nat→Bool) (cI:CI) (cH:CH) (o:ROp) (t:List AV) (H:List Obj):Option (AV×List Obj):=
 match want t o.guard with
 | some true=>evalOp G hp cI cH H.length o.op t H
 | some false=>some (.tup [],H)
 | none=>none
mutual
def AV.same:AV→AV→Bool
 | .bool a,b=>(match b with | .bool b=>a==b | _=>false)
 | .int k a,b=>(match b with | .int j b=>decide (k=j)&&decide (a=b) | _=>false)
 | .str a,b=>(match b with | .str b=>decide (a=b) | _=>false)
 | .nilp,b=>(match b with | .nilp=>true | _=>false)
 | .nils,b=>(match b with | .nils=>true | _=>false)
 | .nilf,b=>(match b with | .nilf=>true | _=>false)
 | .nili,b=>(match b with | .nili=>true | _=>false)
 | .nilm,b=>(match b with | .nilm=>true | _=>false)
 | .mp a,b=>(match b with | .mp b=>Nat.beq a b | _=>false)
 | .ro a,b=>(match b with | .ro b=>AV.samess a b | _=>false)
 | .own a c d e,b=>(match b with | .own a' c' d' e'=>Nat.beq a a'&&Nat.beq c c'&&Nat.beq d d'&&Nat.beq e e' | _=>false)
 | .pro a,b=>(match b with | .pro b=>AV.sames a b | _=>false)
 | .pown a c d e,b=>(match b with | .pown a' c' d' e'=>Nat.beq a a'&&Nat.beq c c'&&Nat.beq d d'&&Nat.beq e e' | _=>false)
 | .agg a,b=>(match b with | .agg b=>AV.sames a b | _=>false)
 | .tup a,b=>(match b with | .tup b=>AV.sames a b | _=>false)
 | .fn f a,b=>(match b with | .fn g b=>Nat.beq f g&&AV.sames a b | _=>false)
 | .bnd f a,b=>(match b with | .bnd g b=>Nat.beq f g&&AV.sames a b | _=>false)
 | _,_=>false
def AV.sames:List AV→List AV→Bool
 | [],b=>(match b with | []=>true | _=>false)
 | x::xs,b=>(match b with | y::ys=>AV.same x y&&AV.sames xs ys | _=>false)
def AV.samess:List (List AV)→List (List AV)→Bool
 | [],b=>(match b with | []=>true | _=>false)
 | x::xs,b=>(match b with | y::ys=>AV.sames x y&&AV.samess xs ys | _=>false)
end
def heapK (o:ROp):Bool:=match o.op.kind with
 | .pure | .read=>false
 | _=>true
def rdOf (G:Nat→List AV) (o:ROp) (t:List AV):List Obj→Option AV:=fun A=>match want t o.guard with
 | some true=>evalR G t A o.op
 | some false=>some (.tup [])
 | none=>none
def chkR (g:List Obj→Option AV) (v:AV) (A:List Obj):Bool:=match g A with
 | some u=>AV.same u v
 | none=>false
def bit (bf:List Nat) (i k:Nat):Bool:=(bf.getD i 0).testBit k
def runX (G:Nat→List AV) (hp:Nat→Bool) (cI:CI) (cH:CH) (bf:List Nat):List ROp→Nat→List (Nat×(List Obj→Option AV)×AV)→List (Nat×List Obj×List Obj)→List AV→List Obj→Option (List AV×List Obj)
 | [],_,_,_,t,H=>some (t,H)
 | o::os,i,rs,hs,t,H=>
  match actA G hp cI cH o t H with
  | none=>none
  | some (v,H')=>match o.op.kind with
   | .pure=>runX G hp cI cH bf os (i+1) rs hs (setD t o.dst v) H'
   | .read=>if (hs.all fun h=>bit bf i h.1||(chkR (rdOf G o t) v h.2.1&&chkR (rdOf G o t) v h.2.2))=true then
    runX G hp cI cH bf os (i+1) ((i,rdOf G o t,v)::rs) hs (setD t o.dst v) H' else none
   | _=>if (rs.all fun r=>bit bf i r.1||(chkR r.2.1 r.2.2 H&&chkR r.2.1 r.2.2 H'))=true then
    runX G hp cI cH bf os (i+1) rs ((i,H,H')::hs) (setD t o.dst v) H' else none
structure FP where
 all:Bool:=false
 r:List Nat:=[]
 w:List Nat:=[]
 deriving Inhabited
def refs:AV→List Nat
 | .own id _ _ _=>[id]
 | .pown id _ _ _=>[id]
 | .arr id _ _ _ _ _=>[id]
 | .mp id=>[id]
 | .itr id=>[id]
 | _=>[]
def fpOf (G:Nat→List AV) (t:List AV) (pl:Nat):RO→FP
 | .load _ _ a=>{ r:=refs (a.ev G t) }
 | .iadS _ x _=>{ r:=refs (x.ev G t) }
 | .slc _ x _ _=>{ r:=refs (x.ev G t) }
 | .slcA _ _ x _ _=>{ r:=refs (x.ev G t) }
 | .eqN _ x y=>{ r:=refs (x.ev G t)++refs (y.ev G t) }
 | .box _=>{ w:=[pl] }
 | .alloc _=>{ w:=[pl] }
 | .bsl ..=>{ w:=[pl] }
 | .bslf ..=>{ w:=[pl] }
 | .mks ..=>{ w:=[pl] }
 | .store _ a _=>{ w:=refs (a.ev G t) }
 | .app _ _ s x=>{ r:=refs (x.ev G t),w:=pl::refs (s.ev G t) }
 | .appf _ _ s x=>{ r:=refs (x.ev G t),w:=pl::refs (s.ev G t) }
 | .appn ..=>{ w:=[pl] }
 | .mkc _ args=>{ r:=(args.map (·.ev G t)).flatMap refs,w:=[pl] }
 | .mget _ _ _ m _=>{ r:=refs (m.ev G t) }
 | .mlen m=>{ r:=refs (m.ev G t) }
 | .b2s x=>{ r:=refs (x.ev G t) }
 | .mkm=>{ w:=[pl] }
 | .mset _ m _ _=>{ w:=refs (m.ev G t) }
 | .rng _=>{ w:=[pl] }
 | .nxt x=>{ w:=refs (x.ev G t) }
 | .call _ args=>{ r:=(args.map (·.ev G t)).flatMap refs }
 | .callv f args=>{ all:= !((f.ev G t).bel 0&&AV.bels 0 (args.map (·.ev G t))) }
 | _=>{}
def noneOf (a b:List Nat):Bool:=a.all fun x=> !(b.contains x)
def disj (a b:FP):Bool:=
 noneOf a.w b.r&&noneOf a.w b.w&&noneOf b.w a.r&&(!a.all||b.w.isEmpty)&&(!b.all||a.w.isEmpty)
def RO.isAlloc:RO→Bool
 | .box _ | .alloc _ | .bsl .. | .mks .. | .app .. | .appn .. | .mkc .. | .appf .. | .bslf .. | .mkm | .rng _=>true
 | _=>false
def plOk (H:List Obj) (pl:Nat) (x:RO):Bool:= !x.isAlloc||(match H[pl]? with | some .rsv=>true | _=>false)
def mkPut (pl:Nat) (H:List Obj) (sz:Nat):AV→Option (AV×List Obj)
 | .agg cs=>some (.pown pl 1 0 0,putObj H pl (.live .norm cs.length [cs]))
 | .nils=>some (.nils,H)
 | .ro es=>some (.own pl es.length 0 es.length,putObj H pl (.live .norm sz es))
 | _=>none
def lent1 (H:List Obj) (x:AV):Option AV:=
 if x.bel 0=true then some x else match x with
 | .own id ext off len=>(match H[id]? with
  | some (.live _ _ es)=>if AV.belss 0 ((es.drop off).take len)=true then pk 6 H (.own id ext off len) else none
  | _=>none)
 | _=>none
def lents (H:List Obj):List AV→Option (List AV)
 | []=>some []
 | x::xs=>(match lent1 H x,lents H xs with | some y,some ys=>some (y::ys) | _,_=>none)
def lentOk (H:List Obj) (as:List AV):Bool:=(lents H as).isSome
def flatM:AV→Bool
 | .agg cs=>AV.flats cs
 | .ro es=>es.all AV.flats
 | .nils=>true
 | _=>false
def mkObj (cI:CI) (f:Nat) (as:List AV) (pl:Nat) (H:List Obj):Option (AV×List Obj):=
 match lents H as with
 | some ys=>(match cI f (.pown 0 0 0 0::ys) with
  | some (.tup [.pown 0 0 sz 0,x])=>if (AV.bels 0 as||flatM x)=true then mkPut pl H sz x else none
  | _=>none)
 | none=>none
def frz1 (t:Nat) (s:St):Option St:=
 match s.tmps.getD t .any with
 | .own id ext off len=>
  (match getLive s.H id with
   | some (_,es)=>if ext=es.length∧AV.belss 0 ((es.drop off).take len)=true∧(nlAt s.H id).free=true then
    some ⟨s.tmps.set t (roOf (nlAt s.H id) es ((es.drop off).take len)),s.H.set id .dead⟩ else none
   | none=>none)
 | _=>some s
def frzRes (w:List Nat):Option (AV×List Obj)→Option (AV×List Obj)
 | some (v,H1)=>if ((refs v).all fun i=>w.contains i)=true then (match frz1 0 ⟨[v],H1⟩ with
  | some ⟨[r],H2⟩=>some (r,H2)
  | _=>none) else none
 | none=>none
def evalD (G:Nat→List AV) (cI:CI) (pl:Nat) (x:RO) (t:List AV) (H:List Obj):Option (AV×List Obj):=
 match x with
 | .mkc f args=>mkObj cI f (args.map (·.ev G t)) pl H
 | .appf sz bytes a b=>frzRes (pl::refs (a.ev G t)) (evalW G t H pl (.app sz bytes a b))
 | .bslf sz z len parts=>frzRes [pl] (evalW G t H pl (.bsl sz z len parts))
 | .call f args=>if lentOk H (args.map (·.ev G t))=true then evalOp G (fun _=>false) cI (fun _ _ _=>none) pl (.call f args) t H else none
 | x=>evalOp G (fun _=>false) cI (fun _ _ _=>none) pl x t H
def actD (G:Nat→List AV) (cI:CI) (pl:Nat) (o:ROp) (t:List AV) (H:List Obj):Option (AV×List Obj×FP):=
 match want t o.guard with
 | some true=>if plOk H pl o.op=true then
  (match evalD G cI pl o.op t H with
   | some (v,H')=>some (v,H',fpOf G t pl o.op)
   | none=>none) else none
 | some false=>some (.tup [],H,{})
 | none=>none
def runD (G:Nat→List AV) (cI:CI) (b:Nat):List (Nat×ROp)→List AV→List Obj→Option (List AV×List Obj×List FP)
 | [],t,H=>some (t,H,[])
 | (k,o)::os,t,H=>
  match actD G cI (b+k) o t H with
  | some (v,H',f)=>(match runD G cI b os (setD t o.dst v) H' with
   | some (t',H'',fs)=>some (t',H'',f::fs)
   | none=>none)
  | none=>none
def pairsDisj (fs:List FP) (ps:List (Nat×Nat)):Bool:=ps.all fun (i,j)=>disj (fs.getD i {}) (fs.getD j {})
def kills:List Nat→List AV→List AV
 | [],t=>t
 | d::ds,t=>kills ds (t.set d .any)
def AV.belp (n:Nat):List (AV×AV)→Bool
 | []=>true
 | (x,y)::r=>x.bel n&&(y.bel n&&AV.belp n r)
def Obj.bel (n:Nat):Obj→Bool
 | .live _ _ es=>AV.belss n es
 | .mp es=>AV.belp n es
 | .lp _ t _ _ _=>AV.bels n t
 | _=>true
def objsBel (n:Nat):List Obj→Bool
 | []=>true
 | o::os=>o.bel n&&objsBel n os
def wks:List Nat→St→St
 | [],s=>s
 | t::ts,s=>wks ts ⟨s.tmps.set t (s.tmps.getD t .any).wk,wkH s.H (s.tmps.getD t .any)⟩
def frzp1 (t:Nat) (s:St):Option St:=
 match s.tmps.getD t .any with
 | .pown id 1 0 0=>(match s.H[id]? with
  | some (.live .norm _ [cs])=>if AV.bels 0 cs=true then some ⟨s.tmps.set t (.pro cs),s.H.set id .dead⟩ else none
  | _=>none)
 | _=>none
def mark (f:Fl→Fl) (H:List Obj) (id:Nat):List Obj:=match H[id]? with
 | some (.live nl sz es)=>H.set id (.live (f nl) sz es)
 | _=>H
def noKid:List Obj→Bool
 | []=>true
 | .live nl _ _::r=> !nl.kid&&noKid r
 | _::r=>noKid r
def ghost1 (base:Nat) (s:St):GA→Option St
 | .sh t=>(match s.tmps.getD t .any with
  | .own id _ _ _=>(match getLive s.H id with | some (_,_::_)=>some ⟨s.tmps,mark Fl.sh s.H id⟩ | _=>some s)
  | _=>some s)
 | .res t=>(match s.tmps.getD t .any with
  | .own id _ _ _=>if noKid (s.H.drop (id+1))=true then some ⟨s.tmps,mark Fl.res s.H id⟩ else some s
  | _=>some s)
 | .wk l=>some (wks l s)
 | .kill l=>some ⟨kills l s.tmps,s.H⟩
 | .trunc n=>if Nat.blt (base+n) s.H.length&&(AV.bels (base+n) s.tmps&&objsBel (base+n) (s.H.take (base+n))) then some ⟨s.tmps,s.H.take (base+n)⟩ else some s
 | .frz t=>(match frz1 t s with | some s'=>some s' | none=>some s)
 | .frzp t=>(match frzp1 t s with | some s'=>some s' | none=>some s)
 | .prom t sz=>(match s.tmps.getD t .any with
  | .nils=>some ⟨s.tmps.set t (.own s.H.length 0 0 0),s.H++[.live .nil sz []]⟩
  | _=>some s)
 | .promf t off sz=>(match s.tmps.getD t .any with
  | .pown id ext e o=>(match loadAt s.H 1 false (.pown id ext e (o+off)) with
   | some .nils=>(match storeAt (s.H++[.live .nil sz []]) 1 (.pown id ext e (o+off)) (.own s.H.length 0 0 0) with
    | some H'=>some ⟨s.tmps,H'⟩
    | none=>none)
   | _=>some s)
  | _=>some s)
 | .frzb t off=>(match s.tmps.getD t .any with
  | .pown id ext e o=>(match loadAt s.H 1 false (.pown id ext e (o+off)) with
   | some (.own j ext' off' len')=>if j=id then none else (match frz1 0 ⟨[.own j ext' off' len'],s.H⟩ with
    | some ⟨[r],H1⟩=>(match storeAt H1 1 (.pown id ext e (o+off)) r with
     | some H'=>some ⟨s.tmps,H'⟩
     | none=>none)
    | _=>some s)
   | _=>some s)
  | _=>some s)
 | .cut t=>(match s.tmps.getD t .any with
  | .own id ext 0 len=>(match s.H[id]? with
   | some (.live .norm sz es)=>if (Nat.ble base id&&Nat.beq (id+1) s.H.length)&&(Nat.beq ext es.length&&Nat.ble len ext)&&(AV.bels id (s.tmps.set t .any)&&objsBel id (s.H.take id))&&AV.belss id es then
    some ⟨s.tmps.set t (.own id len 0 len),s.H.set id (.live .norm sz (es.take len))⟩ else none
   | _=>none)
  | _=>none)
def ghosts (base:Nat):List GA→St→Option St
 | [],s=>some s
 | g::gs,s=>match ghost1 base s g with | some s'=>ghosts base gs s' | none=>none
def resultsOf (rs:List (Sum Nat (Nat×Nat×Bool))) (s:St):Option (List AV):=
 match rs with
 | []=>some []
 | .inl t::r=>(match resultsOf r s with | some l=>some (s.tmps.getD t .any::l) | none=>none)
 | .inr (t,n,ag)::r=>(match loadAt s.H n ag (s.tmps.getD t .any),resultsOf r s with | some v,some l=>some (v::l) | _,_=>none)
def oneOf:List AV→AV
 | [v]=>v
 | l=> .tup l
def start (rf:RF) (args:List AV):List AV:=args++List.replicate (rf.ntmps - args.length) .any
abbrev EX:=RC→Nat→St→Option (Ex×St)
def mkRes (H:List Obj):AV→Option AV
 | .pown j 1 0 0=>(match H[j]? with
  | some (.live .norm _ [cs])=>if AV.bels 0 cs=true then some (.tup [.pown 0 0 0 0,.agg cs]) else none
  | _=>none)
 | .nils=>some (.tup [.pown 0 0 0 0,.nils])
 | .own j ext off len=>(match H[j]? with
  | some (.live fl sz es)=>if off=0∧ext=es.length∧len=ext then
   (match es with
    | []=>if fl= .nil then some (.tup [.pown 0 0 0 0,.nils]) else if fl= .norm then some (.tup [.pown 0 0 sz 0,.ro []]) else none
    | _::_=>if (fl= .norm∨fl= .nil)∧AV.belss 0 es=true then some (.tup [.pown 0 0 sz 0,.ro es]) else none)
   else none
  | _=>none)
 | _=>none
def cMk (ex:EX) (rf:RF) (args:List AV):Option AV:=match args with
 | .pown 0 0 0 0::as=>if as.length=rf.nargs then
  (match ex rf.body 0 ⟨start rf as,[]⟩ with
   | some (.exit _,_)=>none
   | some (_,s')=>(match resultsOf rf.results s' with
    | some [v]=>mkRes s'.H v
    | _=>none)
   | none=>none)
  else none
 | _=>none
def cIF (fns:Nat→Option RF) (ex:EX):CI:=fun f args=>match fns f with
 | some rf=>if args.length=rf.nargs then
  (match ex rf.body 0 ⟨start rf args,[]⟩ with
   | some (.exit _,_)=>none
   | some (_,s')=>(match resultsOf rf.results s' with | some l=>pack s'.H (oneOf l) | none=>none)
   | none=>none)
  else cMk ex rf args
 | none=>none
def putP:List Nat→List AV→List AV→List AV
 | p::ps,x::xs,t=>putP ps xs (t.set p x)
 | _,_,t=>t
def lpSet (x y:Ls) (H:List Obj) (l:Nat):Option (List Obj):=match H[l]? with
 | some (.lp s t ps asg body)=>if s=x then some (H.set l (.lp y t ps asg body)) else none
 | _=>none
def rnd (ex:EX) (args:List AV) (H:List Obj):Option (AV×List Obj):=match args with
 | .yld l::xs=>(match H[l]? with
  | some (.lp .ready t ps asg body)=>if xs.length=ps.length then
   (match ex asg H.length ⟨putP ps xs t,H⟩ with
    | some (.normal,s1)=>(match lpSet .ready .busy s1.H l with
     | some H1=>(match ex body H.length ⟨s1.tmps,H1⟩ with
      | some (.normal,s2)=>(match lpSet .busy .ready s2.H l with | some H2=>some (.bool true,H2) | none=>none)
      | some (e,s2)=>(match lpSet .busy (.done e) s2.H l with | some H2=>some (.bool false,H2) | none=>none)
      | none=>none)
     | none=>none)
    | _=>none) else none
  | _=>none)
 | _=>none
def cHF (fns:Nat→Option RF) (ex:EX):CH:=fun f args H=>match f with
 | none=>rnd ex args H
 | some f=>match fns f with
 | some rf=>if args.length=rf.nargs then
  (match ex rf.body H.length ⟨start rf args,H⟩ with
   | some (.exit _,_)=>none
   | some (_,s')=>(match resultsOf rf.results s' with | some l=>some (oneOf l,s'.H) | none=>none)
   | none=>none)
  else none
 | none=>none
def lpEnd (H:List Obj) (l:Nat):Option Ex:=match H[l]? with
 | some (.lp .ready _ _ _ _)=>some .normal
 | some (.lp (.done e) _ _ _ _)=>some e
 | _=>none
def exec (E:Env) (hp:Nat→Bool):Nat→EX
 | 0,_,_,_=>none
 | n+1,c,base,s=>
  match c with
  | .bad=>none
  | .skip=>some (.normal,s)
  | .ret=>some (.ret,s)
  | .exit id=>some (.exit id,s)
  | .seq a b=>(match exec E hp n a base s with
   | some (.normal,s')=>exec E hp n b base s'
   | r=>r)
  | .cond x a b=>(match x.ev E.glob s.tmps with
   | .bool true=>exec E hp n a base s
   | .bool false=>exec E hp n b base s
   | _=>none)
  | .block id b=>(match exec E hp n b base s with
   | some (.exit i,s')=>if i=id then some (.normal,s') else some (.exit i,s')
   | r=>r)
  | .loop b=>(match exec E hp n b base s with
   | some (.normal,s')=>exec E hp n (.loop b) base s'
   | r=>r)
  | .reg ops=>(match runOps E.glob hp (cIF E.fns (exec E hp n)) (cHF E.fns (exec E hp n)) ops s.tmps s.H with
   | some (t,H)=>some (.normal,⟨t,H⟩)
   | none=>none)
  | .draw ops=>(match runOps E.glob (fun _=>false) (cIF E.fns (exec E hp n)) (fun _ _ _=>none) ops s.tmps s.H with
   | some (t,H)=>some (.normal,⟨t,H⟩)
   | none=>none)
  | .drawX ops bf=>(match runX E.glob hp (cIF E.fns (exec E hp n)) (cHF E.fns (exec E hp n)) bf ops 0 [] [] s.tmps s.H with
   | some (t,H)=>some (.normal,⟨t,H⟩)
   | none=>none)
  | .drawW ops k ps=>(match runD E.glob (cIF E.fns (exec E hp n)) s.H.length ops s.tmps (s.H++List.replicate k .rsv) with
   | some (t,H,fs)=>if pairsDisj fs ps=true then some (.normal,⟨t,H⟩) else none
   | none=>none)
  | .gh pre r post=>(match ghosts base pre s with
   | some s0=>(match exec E hp n r base s0 with
    | some (.normal,s')=>(match ghosts base post s' with | some s''=>some (.normal,s'') | none=>none)
    | r=>r)
   | none=>none)
  | .rfn g ps asg body=>(match g.ev E.glob s.tmps with
   | .fn f cap=>(match cHF E.fns (exec E hp n) (some f) (.yld s.H.length::cap) (s.H++[.lp .ready s.tmps ps asg body]) with
    | some (_,H')=>(match lpEnd H' s.H.length with
     | some e=>some (e,⟨s.tmps,H'.set s.H.length .dead⟩)
     | none=>none)
    | none=>none)
   | _=>none)
structure Hint where
 pre:List GA:=[]
 post:List GA:=[]
 mid:List (Nat×List GA):=[]
 deriving Inhabited
def simple:Value→AV
 | .bool b=> .bool b
 | .int k n=> .int k n
 | .string s=> .str s.data.toList
 | .pointer none=> .nilp
 | .slice none 0 0=> .nils
 | .nilFunc=> .nilf
 | .nilIface=> .nili
 | _=> .any
def ofValue:Value→AV
 | .agg cs=> .agg (cs.toList.map simple)
 | v=>simple v
def cx:Operand→RX
 | .tmp t=> .t t
 | .const v=> .c (ofValue v)
 | .global g=> .g g
 | .func f=> .c (.fn f [])
section
variable (P:Program)
def szOf (t:TypeId):Option Nat:=match P.info? t with | some i=>some i.size | none=>none
def agOf (t:TypeId):Option Bool:=match P.underlying t with
 | some (.struct _) | some (.array _ _)=>some true
 | some _=>some false
 | none=>none
def zeroOf (t:TypeId):Option (List AV):=match P.info? t with
 | some i=>(match i.zero with | some v=>some (v.cells.toList.map simple) | none=>none)
 | none=>none
def bytesOf (t:TypeId):Option Nat:=match P.info? t with | some i=>some i.bytes | none=>none
def compFields (fs:Array Field):List (Nat×Operand)→Option (List (Nat×Nat×RX))
 | []=>some []
 | (j,x)::r=>match fs[j]?,compFields fs r with
  | some f,some l=>(match szOf P f.type with | some n=>some ((f.offset,n,cx x)::l) | none=>none)
  | _,_=>none
mutual
def flatKinds:Nat→TypeId→Option (List CK)
 | 0,_=>none
 | d+1,t=>(match P.underlying t with
  | some .bool=>some [.bool]
  | some (.int k)=>some [.int k]
  | some .string=>some [.str]
  | some (.struct fs)=>if P.stoodInHeld t then none else (match fieldKinds d 0 fs.toList with | some ks=>if szOf P t=some ks.length then some ks else none | none=>none)
  | some (.array n e)=>(match flatKinds d e,szOf P e with
   | some ks,some sz=>if ks.length=sz∧szOf P t=some (n*sz) then some (List.replicate n ks).flatten else none
   | _,_=>none)
  | _=>none)
def fieldKinds:Nat→Nat→List Field→Option (List CK)
 | _,_,[]=>some []
 | 0,_,_::_=>none
 | d+1,off,f::fs=>if f.name== "_" then none else (match flatKinds d f.type,szOf P f.type with
  | some ks,some sz=>if ks.length=sz∧f.offset=off then (match fieldKinds d (off+sz) fs with | some l=>some (ks++l) | none=>none) else none
  | _,_=>none)
end
def compEq (neg:Bool) (t:TypeId) (x y:RX):RO:=
 match P.underlying t with
 | some (.int _) | some .string=> .bin (if neg then .neq else .eql) x y
 | some .bool=> .eqB neg x y
 | some (.slice _)=> .eqN neg x y
 | some (.pointer _)=> .eqP neg x y
 | some (.struct _) | some (.array _ _)=>(match flatKinds P 12 t with | some ks=>if P.eqGuardType P.depth t then .bad else .eqA neg ks x y | none=> .bad)
 | _=> .bad
def deep (P:Program) (e:TypeId):Bool:=match P.underlying e with
 | some (.slice e2)=>(match szOf P e2 with | some n=>Nat.ble 2 n | none=>false)
 | _=>false
def ckOf (t:TypeId):Option CK:=match P.underlying t with
 | some .bool=>some .bool
 | some (.int k)=>some (.int k)
 | some .string=>some .str
 | _=>none
def compOp (o:Oper):RO:=
 match o.op with
 | .move x | .assign x=> .mov (cx x)
 | .pick c a b=> .pick (cx c) (cx a) (cx b)
 | .box _ x=> .box (cx x)
 | .alloc e=>(match zeroOf P e with | some z=> .alloc z | none=> .bad)
 | .build t parts=>
  (match zeroOf P t,P.underlying t with
   | some z,some (.struct fs)=>if fs.toList.all (fun f=>(szOf P f.type).isSome) then (match compFields P fs parts.toList with | some l=> .build z l | none=> .bad) else .bad
   | some z,some (.array _ e)=>(match szOf P e with | some sz=> .build z (parts.toList.map fun (i,x)=>(i*sz,sz,cx x)) | none=> .bad)
   | _,_=> .bad)
 | .buildSlice t len parts=>
  (match P.underlying t with
   | some (.slice e)=>(match szOf P e,zeroOf P e with
    | some sz,some z=>if sz=1∧deep P e=true then .bslr z len (parts.toList.map fun (i,x)=>(i,cx x)) else .bsl sz z len (parts.toList.map fun (i,x)=>(i,cx x))
    | _,_=> .bad)
   | _=> .bad)
 | .load t a=>(match szOf P t,agOf P t with | some n,some ag=> .load n ag (cx a) | _,_=> .bad)
 | .store t a x=>(match szOf P t with | some n=> .store n (cx a) (cx x) | none=> .bad)
 | .binOp op xt x y _=>
  (match op with
   | .eql=>compEq P false xt (cx x) (cx y)
   | .neq=>compEq P true xt (cx x) (cx y)
   | op=> .bin op (cx x) (cx y))
 | .unOp op _ x=> .un op (cx x)
 | .nilCheck x=> .nchk (cx x)
 | .convert src dst x=>(match P.underlying src,P.underlying dst with
  | some _,some (.int k)=> .conv k (cx x)
  | some (.int _),some .string=> .i2s (cx x)
  | some (.slice e),some .string=>(match P.underlying e with | some (.int .u8)=> .b2s (cx x) | _=> .bad)
  | _,_=> .bad)
 | .field xt x f=>
  (match P.underlying xt with
   | some (.struct fs)=>(match fs[f]? with
    | some fd=>(match szOf P fd.type,agOf P fd.type with | some n,some ag=> .fld fd.offset n ag (cx x) | _,_=> .bad)
    | none=> .bad)
   | _=> .bad)
 | .fieldAddr s x f=>
  (match P.underlying s with
   | some (.struct fs)=>(match fs[f]? with
    | some fd=>(match szOf P fd.type with | some (_+1)=> .fad fd.offset (cx x) | _=> .bad)
    | none=> .bad)
   | _=> .bad)
 | .indexAddr t x i=>
  (match P.underlying t with
   | some (.array len e)=>(match szOf P e with | some sz=> .iadA len sz (cx x) (cx i) | none=> .bad)
   | some (.slice e)=>(match szOf P e with | some sz=> .iadS sz (cx x) (cx i) | none=> .bad)
   | _=> .bad)
 | .index xt x i=>
  (match P.underlying xt with
   | some (.array len e)=>(match szOf P e,agOf P e with | some n,some ag=> .idxA len n ag (cx x) (cx i) | _,_=> .bad)
   | some .string=> .idxS (cx x) (cx i)
   | _=> .bad)
 | .slice xt x lo hi none=>
  (match P.underlying xt with
   | some .string=> .slcS (cx x) (lo.map cx) (hi.map cx)
   | some (.slice e)=>(match szOf P e with | some sz=> .slc sz (cx x) (lo.map cx) (hi.map cx) | none=> .bad)
   | some (.array n e)=>(match szOf P e with | some sz=> .slcA n sz (cx x) (lo.map cx) (hi.map cx) | none=> .bad)
   | _=> .bad)
 | .makeMap _ none=> .mkm
 | .lookup t m x ok=>
  (match P.underlying t with
   | some (.map k e)=>(match ckOf P k,(P.info? e).bind (·.zero) with | some c,some z=> .mget c (ofValue z) ok (cx m) (cx x) | _,_=> .bad)
   | _=> .bad)
 | .mapUpdate t m x v=>
  (match P.underlying t with
   | some (.map k _)=>(match ckOf P k with | some c=> .mset c (cx m) (cx x) (cx v) | none=> .bad)
   | _=> .bad)
 | .range t x=>(match P.underlying t with | some .string=> .rng (cx x) | _=> .bad)
 | .next x true=> .nxt (cx x)
 | .makeFunc (.func f) first cap=>if first.isEmpty then .mkf f (cap.toList.map cx) else if cap.isEmpty then .mkb f (first.toList.map cx) else .bad
 | .makeSlice t l c=>
  (match P.underlying t with
   | some (.slice e)=>(match szOf P e,zeroOf P e,bytesOf P e with
    | some sz,some z,some b=> .mks sz z b (cx l) (cx c)
    | _,_,_=> .bad)
   | _=> .bad)
 | .call c=>
  (match c.callee with
   | .value (.func f)=> .call f (c.args.toList.map cx)
   | .value x=> .callv (cx x) (c.args.toList.map cx)
   | .builtin .len=>
    (match c.argTypes[0]?,c.args.toList with
     | some t,[x]=>(match P.underlying t with
      | some .string=> .len true (cx x)
      | some (.slice _)=> .len false (cx x)
      | some (.array n _)=> .mov (.c (.int .i64 n))
      | some (.map _ _)=> .mlen (cx x)
      | _=> .bad)
     | _,_=> .bad)
   | .builtin .append=>
    (match c.argTypes[0]?,c.argTypes[1]?,c.args.toList with
     | some t,some u,[s,x]=>(match P.underlying t,P.underlying u with
      | some (.slice e),some (.slice _)=>(match szOf P e,bytesOf P e,zeroOf P e with | some sz,some b,some z=>if z.length=sz then .app sz b (cx s) (cx x) else .bad | _,_,_=> .bad)
      | some (.slice e),some .string=>(match szOf P e,bytesOf P e,zeroOf P e with | some sz,some b,some z=>if z.length=sz then .app sz b (cx s) (cx x) else .bad | _,_,_=> .bad)
      | some (.slice e),some (.int _)=>(match szOf P e,bytesOf P e,zeroOf P e with | some sz,some b,some z=> .appn sz z b (cx s) (cx x) | _,_,_=> .bad)
      | _,_=> .bad)
     | _,_,_=> .bad)
   | .builtin .min=> .mn (c.args.toList.map cx)
   | .builtin .max=> .mx (c.args.toList.map cx)
   | .builtin .cap=>
    (match c.argTypes[0]?,c.args.toList with
     | some t,[x]=>(match P.underlying t with
      | some (.slice _)=> .capn (cx x)
      | _=> .bad)
     | _,_=> .bad)
   | _=> .bad)
 | .extract x i=> .ext (cx x) i
 | _=> .bad
def dstOf (ops:Array Oper) (j:Nat):Option Nat:=match ops[j]? with | some o=>o.dst | none=>none
def compOper (ops:Array Oper) (o:Oper):ROp:=
 match o.guard with
 | none=>⟨o.dst,none,compOp P o⟩
 | some (j,b)=>match dstOf ops j with
  | some d=>⟨o.dst,some (d,b),compOp P o⟩
  | none=>⟨o.dst,none,.bad⟩
def _root_.Go.Am.RO.ops:RO→List RX
 | .bad=>[]
 | .mov x=>[x]
 | .pick c a b=>[c,a,b]
 | .box x=>[x]
 | .alloc _=>[]
 | .build _ parts=>parts.map (·.2.2)
 | .bsl _ _ _ parts=>parts.map (·.2)
 | .bslf _ _ _ parts=>parts.map (·.2)
 | .bslr _ _ parts=>parts.map (·.2)
 | .load _ _ a=>[a]
 | .store _ a x=>[a,x]
 | .bin _ x y=>[x,y]
 | .un _ x=>[x]
 | .eqA _ _ x y=>[x,y]
 | .eqB _ x y=>[x,y]
 | .eqN _ x y=>[x,y]
 | .eqP _ x y=>[x,y]
 | .nchk x=>[x]
 | .conv _ x=>[x]
 | .fld _ _ _ x=>[x]
 | .fad _ x=>[x]
 | .iadS _ x i=>[x,i]
 | .iadA _ _ x i=>[x,i]
 | .idxA _ _ _ x i=>[x,i]
 | .idxS x i=>[x,i]
 | .slc _ x lo hi=>x::(lo.toList++hi.toList)
 | .slcS x lo hi=>x::(lo.toList++hi.toList)
 | .slcA _ _ x lo hi=>x::(lo.toList++hi.toList)
 | .mkf _ cap=>cap
 | .mkb _ l=>l
 | .mks _ _ _ l c=>[l,c]
 | .len _ x=>[x]
 | .app _ _ s x=>[s,x]
 | .appf _ _ s x=>[s,x]
 | .appn _ _ _ s n=>[s,n]
 | .capn x=>[x]
 | .mn l=>l
 | .mx l=>l
 | .call _ args=>args
 | .callv f args=>f::args
 | .mkc _ args=>args
 | .ext x _=>[x]
 | .mkm=>[]
 | .mget _ _ _ m x=>[m,x]
 | .mset _ m x v=>[m,x,v]
 | .mlen m=>[m]
 | .rng x=>[x]
 | .nxt x=>[x]
 | .i2s x=>[x]
 | .b2s x=>[x]
def slotOf:RX→Option Nat
 | .t n=>some n
 | _=>none
def readsOf (o:ROp):List Nat:=(match o.guard with | some (s,_)=>[s] | none=>[])++o.op.ops.filterMap slotOf
def notIn (d:Option Nat) (l:List Nat):Bool:=match d with | some d=> !(l.contains d) | none=>true
def unlike (d e:Option Nat):Bool:=match d,e with | some d,some e=>d !=e | _,_=>true
def freeKind (a b:Kind):Bool:=
 match a,b with
 | .pure,_ | _,.pure=>true
 | .write,_ | _,.write=>false
 | _,_=>true
def free (a b:ROp):Bool:=
 notIn a.dst (readsOf b)&&notIn b.dst (readsOf a)&&unlike a.dst b.dst&&freeKind a.op.kind b.op.kind
def rankOk (m:Region.Mode) (ops:Array Oper) (rank:Nat→Nat):Bool:=
 (List.range ops.size).all fun i=>match ops[i]? with
  | some o=>o.after.toList.all fun e=> !(Region.binds m e)||(e.on < ops.size&&rank e.on < rank i)
  | none=>true
def pairsOk (bf:List Nat) (rops:List ROp):Bool:=
 (List.range rops.length).all fun j=>(List.range j).all fun i=>
  (bf.getD j 0).testBit i||(match rops[i]?,rops[j]? with | some a,some b=>free a b | _,_=>false)
def posIn (i:Nat):List Nat→Nat
 | []=>0
 | x::xs=>if x=i then 0 else posIn i xs+1
def drawOk (ops:Array Oper) (rops:List ROp):Bool:=
 rankOk .any ops (fun i=>i)&&rankOk .text ops (fun i=>i)&&
  (let l:=Region.linearise .gc ops 0;rankOk .gc ops (fun i=>posIn i l))&&pairsOk (Region.before ops).toList rops
def freeP (a b:ROp):Bool:=
 notIn a.dst (readsOf b)&&notIn b.dst (readsOf a)&&unlike a.dst b.dst&&(decide (a.op.kind= .pure)||decide (b.op.kind= .pure)||(decide (a.op.kind= .read)&&decide (b.op.kind= .read)))
def pairsOkP (bf:List Nat) (rops:List ROp):Bool:=
 (List.range rops.length).all fun j=>(List.range j).all fun i=>
  (bf.getD j 0).testBit i||(match rops[i]?,rops[j]? with | some a,some b=>freeP a b | _,_=>false)
def drawOkH (ops:Array Oper) (rops:List ROp):Bool:=
 rankOk .any ops (fun i=>i)&&rankOk .text ops (fun i=>i)&&
  (let l:=Region.linearise .gc ops 0;rankOk .gc ops (fun i=>posIn i l))&&pairsOkP (Region.before ops).toList rops
def freeSlots (a b:ROp):Bool:=notIn a.dst (readsOf b)&&notIn b.dst (readsOf a)&&unlike a.dst b.dst
def pairsOkX (bf:List Nat) (rops:List ROp):Bool:=
 (List.range rops.length).all fun j=>(List.range j).all fun i=>
  bit bf j i||(match rops[i]?,rops[j]? with | some a,some b=>freeSlots a b&& !(heapK a&&heapK b) | _,_=>false)
def drawOkX (ops:Array Oper) (rops:List ROp):Bool:=
 rankOk .any ops (fun i=>i)&&rankOk .text ops (fun i=>i)&&
  (let l:=Region.linearise .gc ops 0;rankOk .gc ops (fun i=>posIn i l))&&((List.range rops.length).all fun i=>Nat.blt ((Region.before ops).toList.getD i 0) (2 ^ i))&&pairsOkX (Region.before ops).toList rops
def dynPairs (bf:List Nat) (rops:List ROp):List (Nat×Nat):=
 ((List.range rops.length).map fun j=>(List.range j).filterMap fun i=>
   if (bf.getD j 0).testBit i then none else match rops[i]?,rops[j]? with
    | some a,some b=>if freeKind a.op.kind b.op.kind then none else some (i,j)
    | _,_=>none).flatten
def pairsOkW (bf:List Nat) (rops:List ROp) (ps:List (Nat×Nat)):Bool:=
 (List.range rops.length).all fun j=>(List.range j).all fun i=>
  (bf.getD j 0).testBit i||(match rops[i]?,rops[j]? with
   | some a,some b=>freeSlots a b&&(freeKind a.op.kind b.op.kind||ps.contains (i,j))
   | _,_=>false)
def drawOkW (ops:Array Oper) (rops:List ROp) (ps:List (Nat×Nat)):Bool:=
 rankOk .any ops (fun i=>i)&&rankOk .text ops (fun i=>i)&&
  (let l:=Region.linearise .gc ops 0;rankOk .gc ops (fun i=>posIn i l))&&pairsOkW (Region.before ops).toList rops ps
def places:Nat→List ROp→List (Nat×ROp)
 | _,[]=>[]
 | k,o::os=>(k,o)::places (if o.op.isAlloc then k+1 else k) os
def allocs (rops:List ROp):Nat:=(rops.filter fun o=>o.op.isAlloc).length
def lastOk (js:List Nat) (ops:Array Oper) (rops:List ROp):Bool:=
 match rops.getLast? with
 | some o=>decide (o.op.kind= .call)&&decide (rops.length=ops.size)&&((List.range (ops.size - 1)).all fun i=>((Region.before ops).toList.getD (ops.size - 1) 0).testBit i)&&
  ((match o.op with | .callv ..=>true | _=>false)||(match ops.back? with | some p=>Nat.beq p.type 0 | none=>false)||(!(drawOk ops rops)||js.any (Nat.beq 999999)))
 | none=>false
def appended (ops:Array Oper) (d:Option Nat):Bool:=match d with
 | none=>false
 | some d=>ops.toList.any fun o=>match o.op with
  | .call c=>(match c.callee,c.args.toList with
   | .builtin .append,.tmp t::_=>Nat.beq t d
   | _,_=>false)
  | _=>false
def among (js:List Nat):Option Nat→Bool
 | some d=>js.any (Nat.beq d)
 | none=>false
def mkOp (js:List Nat) (ops:Array Oper) (o:Oper) (r:ROp):ROp:=match r.op with
 | .call f args=>(match P.underlying o.type with
  | some (.pointer _)=>{ r with op:= .mkc f args }
  | some (.slice _)=>if appended ops o.dst||among js o.dst then { r with op:= .mkc f args } else r
  | _=>r)
 | .app sz bytes a b=>if among js o.dst then { r with op:= .appf sz bytes a b } else r
 | .bsl sz z len parts=>if among js o.dst then { r with op:= .bslf sz z len parts } else r
 | _=>r
def mkOps (js:List Nat) (ops:Array Oper) (l:List ROp):List ROp:=List.zipWith (mkOp P js ops) ops.toList l
def compDrawN (js:List Nat) (ops:Array Oper) (first:List ROp):RC:=
 if drawOk ops first&&(js.isEmpty&& !(first.any fun o=>decide (o.op.kind= .call))) then .draw first else
 if drawOkH ops first&&js.isEmpty then .reg first else
 if drawOk ops first&&js.isEmpty then .draw first else
 if drawOkX ops first&&js.any (Nat.beq 999998) then .drawX first (Region.before ops).toList else
 let fs:=mkOps P js ops first
 let ps:=dynPairs (Region.before ops).toList fs
 if drawOkW ops fs ps then .drawW (places 0 fs) (allocs fs) ps else .bad
def compDraw (js:List Nat) (ops:Array Oper) (rops:List ROp):RC:=
 if lastOk js ops rops then .seq (compDrawN P (js.filter fun d=> !(Nat.beq 999999 d)) ops rops.dropLast) (.reg (rops.drop (ops.size - 1))) else compDrawN P js ops rops
def hintOf (hs:List (Nat×Hint)) (id:Nat):Hint:=
 match hs with
 | []=>{}
 | (i,h)::r=>if i=id then h else hintOf r id
def withHint (h:Hint) (r:RC):RC:=
 if h.pre.isEmpty&&h.post.isEmpty then r else .gh h.pre r h.post
def compMid:List (Nat×List GA)→List ROp→RC
 | [],l=> .reg l
 | (j,g)::r,l=> .seq (.gh [] (.reg (l.take j)) g) (compMid r (l.drop j))
def firstReg:Code→Option Nat
 | .region id _ _=>some id
 | .seq a b=>(match firstReg a with | some r=>some r | none=>firstReg b)
 | .cond _ a b=>(match firstReg a with | some r=>some r | none=>firstReg b)
 | .block _ b=>firstReg b
 | .loop b=>firstReg b
 | _=>none
def opKey:Operand→Nat
 | .tmp t=>t
 | _=>999999
def condKey:Operand→Nat
 | .tmp t=>2000000+t
 | _=>1999999
def noRF:Code→Bool
 | .seq a b=>noRF a&&noRF b
 | .cond _ a b=>noRF a&&noRF b
 | .block _ b=>noRF b
 | .loop b=>noRF b
 | .rangeFunc ..=>false
 | _=>true
def comp (hs:List (Nat×Hint)):Code→RC
 | .skip=> .skip
 | .region id ops dr=>
  withHint (hintOf hs id)
   (if dr then compDraw P ((hintOf hs id).mid.map (·.1)) ops (ops.toList.map (compOper P ops))
    else compMid (hintOf hs id).mid (ops.toList.map (compOper P ops)))
 | .seq a b=> .seq (comp hs a) (comp hs b)
 | .cond c a b=>withHint (hintOf hs (condKey c)) (.cond (cx c) (comp hs a) (comp hs b))
 | .block id b=>withHint (hintOf hs (3000000+id)) (.block id (comp hs b))
 | .loop b=> .loop (withHint (hintOf hs (1000000+(firstReg b).getD 999999)) (comp hs b))
 | .exit id=> .exit id
 | .ret=> .ret
 | .rangeFunc g ps a b=>withHint (hintOf hs (4000000+opKey g)) (if noRF a&&noRF b then .rfn (cx g) ps.toList (comp hs a) (comp hs b) else .bad)
 | _=> .bad
def CR (rc:RC) (code:Code):Prop:=∃ hs,comp P hs code=rc∧noRF code=true
def compRes:List ResultVar→Option (List (Sum Nat (Nat×Nat×Bool)))
 | []=>some []
 | .tmp t::r=>(match compRes r with | some l=>some (.inl t::l) | none=>none)
 | .cell a t::r=>(match szOf P t,agOf P t,compRes r with | some n,some ag,some l=>some (.inr (a,n,ag)::l) | _,_,_=>none)
def compF (hs:List (Nat×Hint)) (nargs:Nat) (fn:Func):Option RF:=
 match fn.body,compRes P fn.results.toList with
 | some c,some rs=>if fn.name== "runtime.NumGoroutine" then none else some ⟨nargs,fn.ntmps,rs,comp P hs c⟩
 | _,_=>none
end
end Go.Am
