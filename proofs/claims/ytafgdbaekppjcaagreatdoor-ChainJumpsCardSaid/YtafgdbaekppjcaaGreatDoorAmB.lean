/- The abstract machine: how operations, code and calls are run (with fuel), and how resolved code comes of the program's. No condition. -/
import Derived.Test.YtafgdbaekppjcaaGreatDoorAmAl
set_option linter.unusedSectionVars false
set_option linter.unusedVariables false
set_option linter.unusedSimpArgs false
namespace Go.Am
abbrev CI:=Nat->List AV->Option AV
abbrev CH:=Option Nat->List AV->List Obj->Option (AV×List Obj)
def bJ (hp:Nat->Bool) (cI:CI) (cH:CH) (f:Nat) (args:List AV) (H:List Obj):Option (AV×List Obj):=
 if hp f=true then cH (some f) args H else
 match snaps H args with
 | some as'=>(match cI f as' with
  | some v=>if (AV.aR 0 args||v.flat)=true then some (v,H) else none
  | none=>none)
 | none=>cH (some f) args H
def aN (G:Nat->List AV) (t:List AV):RO->Option AV
 | .Ho x=>some (x.ev G t)
 | .pick c a b=>(match c.ev G t with | .bool true=>some (a.ev G t) | .bool false=>some (b.ev G t) | _=>none)
 | .build z parts=>(match nx z (parts.map fun (o,n,x)=>(o,n,x.ev G t)) with | some cs=>some (.agg cs) | none=>none)
 | .bin op x y=>bin op (x.ev G t) (y.ev G t)
 | .un op x=>un op (x.ev G t)
 | .Cz neg ks x y=>Cz neg ks (x.ev G t) (y.ev G t)
 | .Hp neg x y=>Hp neg (x.ev G t) (y.ev G t)
 | .Hq neg x y=>Hq neg (x.ev G t) (y.ev G t)
 | .pJ x=>pJ (x.ev G t)
 | .conv k x=>(match x.ev G t with | .int _ n=>some (.int k (k.wrap n)) | _=>none)
 | .Tj off n ag x=>(match x.ev G t with | .agg cs=>part n ag cs off | _=>none)
 | .uZ off x=>uZ off (x.ev G t)
 | .mm len sz x i=>mm len sz (x.ev G t) (i.ev G t)
 | .nk len n ag x i=>nk len n ag (x.ev G t) (i.ev G t)
 | .oV x i=>oV (x.ev G t) (i.ev G t)
 | .oW x lo hi=>oW (x.ev G t) (lo.map (·.ev G t)) (hi.map (·.ev G t))
 | .Qk f cap=>some (.fn f (cap.map (·.ev G t)))
 | .Tk f l=>some (.eD f (l.map (·.ev G t)))
 | .len st x=>(match qP st (x.ev G t) with | some n=>some (.int .i64 n) | none=>none)
 | .mn l=>(match l.map (·.ev G t) with | x::r=>jA min2 x r | []=>none)
 | .mx l=>(match l.map (·.ev G t) with | x::r=>jA max2 x r | []=>none)
 | .ext x i=>(match x.ev G t with | .aY vs=>vs[i]? | _=>none)
 | .Jr x=>Jr (x.ev G t)
 | .FE x=>(match x.ev G t with | .bF=>some (.int .i64 0) | _=>none)
 | _=>none
def aO (G:Nat->List AV) (t:List AV) (H:List Obj):RO->Option AV
 | .load n ag a=>loadAt H n ag (a.ev G t)
 | .jd sz x i=>jd H sz (x.ev G t) (i.ev G t)
 | .slc sz x lo hi=>slc H sz (x.ev G t) (lo.map (·.ev G t)) (hi.map (·.ev G t))
 | .AS neg x y=>AS H neg (x.ev G t) (y.ev G t)
 | .k8 len sz x lo hi=>k8 H len sz (x.ev G t) (lo.map (·.ev G t)) (hi.map (·.ev G t))
 | _=>none
def evalW (G:Nat->List AV) (t:List AV) (H:List Obj) (pl:Nat):RO->Option (AV×List Obj)
 | .box x=>if aW (x.ev G t).cells=true then some (.aJ pl 1 0 0,putObj H pl (.live .norm (x.ev G t).cells.length [(x.ev G t).cells])) else none
 | .alloc z=>if aW z=true then some (.aJ pl 1 0 0,putObj H pl (.live .norm z.length [z])) else none
 | .u0 sz z len parts=>
  if z.length=sz/\aW z=true/\len*sz<=2 ^ 24 then
   (match kr sz (List.replicate len z) (parts.map fun (i,x)=>(i,x.ev G t)) with
    | some es=>some (.own pl len 0 len,putObj H pl (.live .norm sz es))
    | none=>none)
  else none
 | .store n a x=>(match storeAt H n (a.ev G t) (x.ev G t) with | some H'=>some (.aY [],H') | none=>none)
 | .Hr sz z bytes l c=>
  (match l.ev G t,c.ev G t with
   | .int .i64 n,.int .i64 m=>if n=m/\0<=n/\n*bytes<=2 ^ 40/\n<=2 ^ 40/\z.length=sz/\aW z=true then
    some (.own pl n.toNat 0 n.toNat,putObj H pl (.live .norm sz (List.replicate n.toNat z))) else none
   | _,_=>none)
 | .app sz bytes s x=>append H pl sz bytes (s.ev G t) (x.ev G t)
 | .A5 z len parts=>
  if z.length=1/\aW z=true/\len*1<=2 ^ 24 then
   (match kr 1 (List.replicate len z) (parts.map fun (i,x)=>(i,x.ev G t)) with
    | some es=>if AV.bO 0 es=true then some (.ro es,H) else none
    | none=>none)
  else none
 | .sH sz z bytes s n=>
  (match s.ev G t,n.ev G t with
   | .bF,.int .i64 m=>if 0 < m/\m*bytes<=2 ^ 40/\m<=2 ^ 40/\z.length=sz/\aW z=true then
    some (.own pl m.toNat 0 m.toNat,putObj H pl (.live .norm sz (List.replicate m.toNat z))) else none
   | _,_=>none)
 | .Js=>some (.mp pl,putObj H pl (.mp []))
 | .gX k m x v=>(match gX H k (m.ev G t) (x.ev G t) (v.ev G t) with | some H'=>some (.aY [],H') | none=>none)
 | .Fh x=>(match x.ev G t with | .str s=>some (.qB pl,putObj H pl (.it s 0)) | _=>none)
 | .uK x=>uK H (x.ev G t)
 | .gY k z ok m x=>(match gY H k z ok (m.ev G t) (x.ev G t) with | some v=>some (v,H) | none=>none)
 | .jv m=>(match jv H (m.ev G t) with | some v=>some (v,H) | none=>none)
 | .Cs x=>(match Cs H (x.ev G t) with | some v=>some (v,H) | none=>none)
 | _=>none
inductive Kind where
 | pure | read | write | call
 deriving DecidableEq,Inhabited
def RO.kind:RO->Kind
 | .load .. | .AS .. | .jd .. | .slc .. | .k8 ..=> .read
 | .box _ | .alloc _ | .u0 .. | .store .. | .Hr .. | .app .. | .sH .. | .A5 .. | .iD .. | .mo .. | .m8 .. | .bad | .Js | .gX .. | .Fh _ | .uK _ | .gY .. | .jv _ | .Cs _=> .write
 | .call .. | .gf ..=> .call
 | _=> .pure
def evalOp (G:Nat->List AV) (hp:Nat->Bool) (cI:CI) (cH:CH) (pl:Nat) (x:RO) (t:List AV) (H:List Obj):Option (AV×List Obj):=
 match x.kind with
 | .pure=>(match aN G t x with | some v=>some (v,H) | none=>none)
 | .read=>(match aO G t H x with | some v=>some (v,H) | none=>none)
 | .write=>evalW G t H pl x
 | .call=>
  match x with
  | .call f args=>bJ hp cI cH f (args.map (·.ev G t)) H
  | .gf fx args=>(match fx.ev G t with
   | .fn f cap=>bJ hp cI cH f (args.map (·.ev G t)++cap) H
   | .eD f l=>bJ hp cI cH f (l++args.map (·.ev G t)) H
   | .fA l=>cH none (.fA l::args.map (·.ev G t)) H
   | _=>none)
  | _=>none
def cR (t:List AV) (d:Option Nat) (v:AV):List AV:=
 match d with
 | some d=>t.set d v
 | none=>t
def want (t:List AV):Option (Nat×Bool)->Option Bool
 | none=>some true
 | some (s,b)=>match t.getD s .any with
  | .bool c=>some (c==b)
  | .aY []=>some false
  | _=>none
def bP (G:Nat->List AV) (hp:Nat->Bool) (cI:CI) (cH:CH):List bH->List AV->List Obj->Option (List AV×List Obj)
 | [],t,H=>some (t,H)
 | o::os,t,H=>
  match want t o.guard with
  | some true=>(match evalOp G hp cI cH H.length o.op t H with
   | some (v,H')=>bP G hp cI cH os (cR t o.dst v) H'
   | none=>none)
  | some false=>bP G hp cI cH os (cR t o.dst (.aY [])) H
  | none=>none
def iV (G:Nat->List AV) (hp:Nat->Bool) (cI:CI) (cH:CH) (o:bH) (t:List AV) (H:List Obj):Option (AV×List Obj):=
 match want t o.guard with
 | some true=>evalOp G hp cI cH H.length o.op t H
 | some false=>some (.aY [],H)
 | none=>none
mutual
def AV.same:AV->AV->Bool
 | .bool a,b=>(match b with | .bool b=>a==b | _=>false)
 | .int k a,b=>(match b with | .int j b=>decide (k=j)&&decide (a=b) | _=>false)
 | .str a,b=>(match b with | .str b=>decide (a=b) | _=>false)
 | .gZ,b=>(match b with | .gZ=>true | _=>false)
 | .bF,b=>(match b with | .bF=>true | _=>false)
 | .jw,b=>(match b with | .jw=>true | _=>false)
 | .nu,b=>(match b with | .nu=>true | _=>false)
 | .pO,b=>(match b with | .pO=>true | _=>false)
 | .mp a,b=>(match b with | .mp b=>Nat.beq a b | _=>false)
 | .any,b=>(match b with | .any=>true | _=>false)
 | .fA a,b=>(match b with | .fA b=>Nat.beq a b | _=>false)
 | .qB a,b=>(match b with | .qB b=>Nat.beq a b | _=>false)
 | .arr a c d e f i,b=>(match b with | .arr a' c' d' e' f' i'=>Nat.beq a a'&&Nat.beq c c'&&Nat.beq d d'&&Nat.beq e e'&&Nat.beq f f'&&Nat.beq i i' | _=>false)
 | .ro a,b=>(match b with | .ro b=>AV.p0 a b | _=>false)
 | .own a c d e,b=>(match b with | .own a' c' d' e'=>Nat.beq a a'&&Nat.beq c c'&&Nat.beq d d'&&Nat.beq e e' | _=>false)
 | .bR a,b=>(match b with | .bR b=>AV.iJ a b | _=>false)
 | .aJ a c d e,b=>(match b with | .aJ a' c' d' e'=>Nat.beq a a'&&Nat.beq c c'&&Nat.beq d d'&&Nat.beq e e' | _=>false)
 | .agg a,b=>(match b with | .agg b=>AV.iJ a b | _=>false)
 | .aY a,b=>(match b with | .aY b=>AV.iJ a b | _=>false)
 | .fn f a,b=>(match b with | .fn g b=>Nat.beq f g&&AV.iJ a b | _=>false)
 | .eD f a,b=>(match b with | .eD g b=>Nat.beq f g&&AV.iJ a b | _=>false)
def AV.iJ:List AV->List AV->Bool
 | [],b=>(match b with | []=>true | _=>false)
 | x::xs,b=>(match b with | y::ys=>AV.same x y&&AV.iJ xs ys | _=>false)
def AV.p0:List (List AV)->List (List AV)->Bool
 | [],b=>(match b with | []=>true | _=>false)
 | x::xs,b=>(match b with | y::ys=>AV.iJ x y&&AV.p0 xs ys | _=>false)
end
def cN (o:bH):Bool:=match o.op.kind with
 | .pure | .read=>false
 | _=>true
def ni (G:Nat->List AV) (o:bH) (t:List AV):List Obj->Option AV:=fun A=>match want t o.guard with
 | some true=>aO G t A o.op
 | some false=>some (.aY [])
 | none=>none
def jx (g:List Obj->Option AV) (v:AV) (A:List Obj):Bool:=match g A with
 | some u=>AV.same u v
 | none=>false
def bit (bf:List Nat) (i k:Nat):Bool:=(bf.getD i 0).testBit k
def vQ (G:Nat->List AV) (hp:Nat->Bool) (cI:CI) (cH:CH) (bf:List Nat):List bH->Nat->List (Nat×(List Obj->Option AV)×AV)->List (Nat×List Obj×List Obj)->List AV->List Obj->Option (List AV×List Obj)
 | [],_,_,_,t,H=>some (t,H)
 | o::os,i,rs,hs,t,H=>
  match iV G hp cI cH o t H with
  | none=>none
  | some (v,H')=>match o.op.kind with
   | .pure=>vQ G hp cI cH bf os (i+1) rs hs (cR t o.dst v) H'
   | .read=>if (hs.all fun h=>bit bf i h.1||(jx (ni G o t) v h.2.1&&jx (ni G o t) v h.2.2))=true then
    vQ G hp cI cH bf os (i+1) ((i,ni G o t,v)::rs) hs (cR t o.dst v) H' else none
   | _=>if (rs.all fun r=>bit bf i r.1||(jx r.2.1 r.2.2 H&&jx r.2.1 r.2.2 H'))=true then
    vQ G hp cI cH bf os (i+1) rs ((i,H,H')::hs) (cR t o.dst v) H' else none
structure FP where
 all:Bool:=false
 r:List Nat:=[]
 w:List Nat:=[]
 deriving Inhabited
def jH:AV->List Nat
 | .own id _ _ _=>[id]
 | _=>[]
def refs:AV->List Nat
 | .own id _ _ _=>[id]
 | .aJ id _ _ _=>[id]
 | .arr id _ _ _ _ _=>[id]
 | .mp id=>[id]
 | .qB id=>[id]
 | .agg cs=>cs.flatMap jH
 | _=>[]
def ez (G:Nat->List AV) (t:List AV) (pl:Nat):RO->FP
 | .load _ _ a=>{ r:=refs (a.ev G t) }
 | .jd _ x _=>{ r:=refs (x.ev G t) }
 | .slc _ x _ _=>{ r:=refs (x.ev G t) }
 | .k8 _ _ x _ _=>{ r:=refs (x.ev G t) }
 | .AS _ x y=>{ r:=refs (x.ev G t)++refs (y.ev G t) }
 | .box _=>{ w:=[pl] }
 | .alloc _=>{ w:=[pl] }
 | .u0 ..=>{ w:=[pl] }
 | .m8 ..=>{ w:=[pl] }
 | .Hr ..=>{ w:=[pl] }
 | .store _ a _=>{ w:=refs (a.ev G t) }
 | .app _ _ s x=>{ r:=refs (x.ev G t),w:=pl::refs (s.ev G t) }
 | .mo _ _ s x=>{ r:=refs (x.ev G t),w:=pl::refs (s.ev G t) }
 | .sH ..=>{ w:=[pl] }
 | .iD _ args=>{ r:=(args.map (·.ev G t)).flatMap refs,w:=[pl] }
 | .gY _ _ _ m _=>{ r:=refs (m.ev G t) }
 | .jv m=>{ r:=refs (m.ev G t) }
 | .Cs x=>{ r:=refs (x.ev G t) }
 | .Js=>{ w:=[pl] }
 | .gX _ m _ _=>{ w:=refs (m.ev G t) }
 | .Fh _=>{ w:=[pl] }
 | .uK x=>{ w:=refs (x.ev G t) }
 | .call _ args=>{ r:=(args.map (·.ev G t)).flatMap refs }
 | .gf f args=>{ all:= !((f.ev G t).bD 0&&AV.aR 0 (args.map (·.ev G t))) }
 | _=>{}
def p5 (a b:List Nat):Bool:=a.all fun x=> !(b.contains x)
def eF (a b:FP):Bool:=
 p5 a.w b.r&&p5 a.w b.w&&p5 b.w a.r&&(!a.all||b.w.isEmpty)&&(!b.all||a.w.isEmpty)
def RO.dP:RO->Bool
 | .box _ | .alloc _ | .u0 .. | .Hr .. | .app .. | .sH .. | .iD .. | .mo .. | .m8 .. | .Js | .Fh _=>true
 | _=>false
def sI (H:List Obj) (pl:Nat) (x:RO):Bool:= !x.dP||(match H[pl]? with | some .ew=>true | _=>false)
def wj (pl:Nat) (H:List Obj) (sz:Nat):AV->Option (AV×List Obj)
 | .agg cs=>some (.aJ pl 1 0 0,putObj H pl (.live .norm cs.length [cs]))
 | .bF=>some (.bF,H)
 | .ro es=>some (.own pl es.length 0 es.length,putObj H pl (.live .norm sz es))
 | _=>none
def iK (H:List Obj) (x:AV):Bool:=x.bD 0||(match x with
 | .own id _ off len=>(match H[id]? with
  | some (.live _ _ es)=>AV.bO 0 ((es.drop off).take len)
  | _=>false)
 | _=>false)
def qV (H:List Obj) (x:AV):Option AV:=
 if x.bD 0=true then some x else match x with
 | .own id ext off len=>if iK H (.own id ext off len)=true then pk 6 H (.own id ext off len) else none
 | .agg cs=>if cs.all (iK H)=true then pk 6 H (.agg cs) else none
 | _=>none
def kC (H:List Obj):List AV->Option (List AV)
 | []=>some []
 | x::xs=>(match qV H x,kC H xs with | some y,some ys=>some (y::ys) | _,_=>none)
def mC (H:List Obj) (as:List AV):Bool:=(kC H as).isSome
def wm:AV->Bool
 | .agg cs=>AV.jF cs
 | .ro es=>es.all AV.jF
 | .bF=>true
 | _=>false
def mkObj (cI:CI) (f:Nat) (as:List AV) (pl:Nat) (H:List Obj):Option (AV×List Obj):=
 match kC H as with
 | some ys=>(match cI f (.aJ 0 0 0 0::ys) with
  | some (.aY [.aJ 0 0 sz 0,x])=>if (AV.aR 0 as||wm x)=true then wj pl H sz x else none
  | _=>none)
 | none=>none
def ko (t:Nat) (s:St):Option St:=
 match s.tmps.getD t .any with
 | .own id ext off len=>
  (match aC s.H id with
   | some (_,es)=>if ext=es.length/\AV.bO 0 ((es.drop off).take len)=true/\(cy s.H id).free=true then
    some ⟨s.tmps.set t (sF (cy s.H id) es ((es.drop off).take len)),s.H.set id .dead⟩ else none
   | none=>none)
 | _=>some s
def eL (w:List Nat):Option (AV×List Obj)->Option (AV×List Obj)
 | some (v,H1)=>if ((refs v).all fun i=>w.contains i)=true then (match ko 0 ⟨[v],H1⟩ with
  | some ⟨[r],H2⟩=>some (r,H2)
  | _=>none) else none
 | none=>none
def fB (G:Nat->List AV) (cI:CI) (pl:Nat) (x:RO) (t:List AV) (H:List Obj):Option (AV×List Obj):=
 match x with
 | .iD f args=>mkObj cI f (args.map (·.ev G t)) pl H
 | .mo sz bytes a b=>eL (pl::refs (a.ev G t)) (evalW G t H pl (.app sz bytes a b))
 | .m8 sz z len parts=>eL [pl] (evalW G t H pl (.u0 sz z len parts))
 | .call f args=>if mC H (args.map (·.ev G t))=true then evalOp G (fun _=>false) cI (fun _ _ _=>none) pl (.call f args) t H else none
 | x=>evalOp G (fun _=>false) cI (fun _ _ _=>none) pl x t H
def qN (G:Nat->List AV) (cI:CI) (pl:Nat) (o:bH) (t:List AV) (H:List Obj):Option (AV×List Obj×FP):=
 match want t o.guard with
 | some true=>if sI H pl o.op=true then
  (match fB G cI pl o.op t H with
   | some (v,H')=>some (v,H',ez G t pl o.op)
   | none=>none) else none
 | some false=>some (.aY [],H,{})
 | none=>none
def gA (G:Nat->List AV) (cI:CI) (b:Nat):List (Nat×bH)->List AV->List Obj->Option (List AV×List Obj×List FP)
 | [],t,H=>some (t,H,[])
 | (k,o)::os,t,H=>
  match qN G cI (b+k) o t H with
  | some (v,H',f)=>(match gA G cI b os (cR t o.dst v) H' with
   | some (t',YF,fs)=>some (t',YF,f::fs)
   | none=>none)
  | none=>none
def gm (fs:List FP) (ps:List (Nat×Nat)):Bool:=ps.all fun (i,j)=>eF (fs.getD i {}) (fs.getD j {})
def fI:List Nat->List AV->List AV
 | [],t=>t
 | d::ds,t=>fI ds (t.set d .any)
def AV.yY (n:Nat):List (AV×AV)->Bool
 | []=>true
 | (x,y)::r=>x.bD n&&(y.bD n&&AV.yY n r)
def Obj.bD (n:Nat):Obj->Bool
 | .live _ _ es=>AV.bO n es
 | .mp es=>AV.yY n es
 | .lp _ t _ _ _=>AV.aR n t
 | _=>true
def bT (n:Nat):List Obj->Bool
 | []=>true
 | o::os=>o.bD n&&bT n os
def Yy:List Nat->St->St
 | [],s=>s
 | t::ts,s=>Yy ts ⟨s.tmps.set t (s.tmps.getD t .any).wk,P6 s.H (s.tmps.getD t .any)⟩
def uk (t:Nat) (s:St):Option St:=
 match s.tmps.getD t .any with
 | .aJ id 1 0 0=>(match s.H[id]? with
  | some (.live .norm _ [cs])=>if AV.aR 0 cs=true then some ⟨s.tmps.set t (.bR cs),s.H.set id .dead⟩ else none
  | _=>none)
 | _=>none
def mark (f:Fl->Fl) (H:List Obj) (id:Nat):List Obj:=match H[id]? with
 | some (.live nl sz es)=>H.set id (.live (f nl) sz es)
 | _=>H
def vZ:List Obj->Bool
 | []=>true
 | .live nl _ _::r=> !nl.CC&&vZ r
 | _::r=>vZ r
def dm (base:Nat) (s:St):GA->Option St
 | .sh t=>(match s.tmps.getD t .any with
  | .own id _ _ _=>(match aC s.H id with | some (_,_::_)=>some ⟨s.tmps,mark Fl.sh s.H id⟩ | _=>some s)
  | _=>some s)
 | .res t=>(match s.tmps.getD t .any with
  | .own id _ _ _=>if vZ (s.H.drop (id+1))=true then some ⟨s.tmps,mark Fl.res s.H id⟩ else some s
  | _=>some s)
 | .wk l=>some (Yy l s)
 | .kill l=>some ⟨fI l s.tmps,s.H⟩
 | .ku n=>if Nat.blt (base+n) s.H.length&&(AV.aR (base+n) s.tmps&&bT (base+n) (s.H.take (base+n))) then some ⟨s.tmps,s.H.take (base+n)⟩ else some s
 | .uc t=>(match ko t s with | some s'=>some s' | none=>some s)
 | .nq t=>(match uk t s with | some s'=>some s' | none=>some s)
 | .prom t sz=>(match s.tmps.getD t .any with
  | .bF=>some ⟨s.tmps.set t (.own s.H.length 0 0 0),s.H++[.live .nil sz []]⟩
  | _=>some s)
 | .pz t off sz=>(match s.tmps.getD t .any with
  | .aJ id ext e o=>(match loadAt s.H 1 false (.aJ id ext e (o+off)) with
   | some .bF=>(match storeAt (s.H++[.live .nil sz []]) 1 (.aJ id ext e (o+off)) (.own s.H.length 0 0 0) with
    | some H'=>some ⟨s.tmps,H'⟩
    | none=>none)
   | _=>some s)
  | _=>some s)
 | .yX t off=>(match s.tmps.getD t .any with
  | .aJ id ext e o=>(match loadAt s.H 1 false (.aJ id ext e (o+off)) with
   | some (.own j ext' off' len')=>if j=id then none else (match ko 0 ⟨[.own j ext' off' len'],s.H⟩ with
    | some ⟨[r],H1⟩=>(match storeAt H1 1 (.aJ id ext e (o+off)) r with
     | some H'=>some ⟨s.tmps,H'⟩
     | none=>none)
    | _=>some s)
   | _=>some s)
  | _=>some s)
 | .cut t=>(match s.tmps.getD t .any with
  | .own id ext 0 len=>(match s.H[id]? with
   | some (.live .norm sz es)=>if (Nat.ble base id&&Nat.beq (id+1) s.H.length)&&(Nat.beq ext es.length&&Nat.ble len ext)&&(AV.aR id (s.tmps.set t .any)&&bT id (s.H.take id))&&AV.bO id es then
    some ⟨s.tmps.set t (.own id len 0 len),s.H.set id (.live .norm sz (es.take len))⟩ else none
   | _=>none)
  | _=>none)
def iX (base:Nat):List GA->St->Option St
 | [],s=>some s
 | g::gs,s=>match dm base s g with | some s'=>iX base gs s' | none=>none
def cL (rs:List (Sum Nat (Nat×Nat×Bool))) (s:St):Option (List AV):=
 match rs with
 | []=>some []
 | .inl t::r=>(match cL r s with | some l=>some (s.tmps.getD t .any::l) | none=>none)
 | .inr (t,n,ag)::r=>(match loadAt s.H n ag (s.tmps.getD t .any),cL r s with | some v,some l=>some (v::l) | _,_=>none)
def oneOf:List AV->AV
 | [v]=>v
 | l=> .aY l
def start (rf:RF) (args:List AV):List AV:=args++List.replicate (rf.ntmps - args.length) .any
abbrev EX:=RC->Nat->St->Option (Ex×St)
def qU (H:List Obj):AV->Option AV
 | .aJ j 1 0 0=>(match H[j]? with
  | some (.live .norm _ [cs])=>if AV.aR 0 cs=true then some (.aY [.aJ 0 0 0 0,.agg cs]) else none
  | _=>none)
 | .bF=>some (.aY [.aJ 0 0 0 0,.bF])
 | .own j ext off len=>(match H[j]? with
  | some (.live fl sz es)=>if off=0/\ext=es.length/\len=ext then
   (match es with
    | []=>if fl= .nil then some (.aY [.aJ 0 0 0 0,.bF]) else if fl= .norm then some (.aY [.aJ 0 0 sz 0,.ro []]) else none
    | _::_=>if (fl= .norm\/fl= .nil)/\AV.bO 0 es=true then some (.aY [.aJ 0 0 sz 0,.ro es]) else none)
   else none
  | _=>none)
 | _=>none
def YG (ex:EX) (rf:RF) (args:List AV):Option AV:=match args with
 | .aJ 0 0 0 0::as=>if as.length=rf.nargs then
  (match ex rf.body 0 ⟨start rf as,[]⟩ with
   | some (.exit _,_)=>none
   | some (_,s')=>(match cL rf.results s' with
    | some [v]=>qU s'.H v
    | _=>none)
   | none=>none)
  else none
 | _=>none
def m6 (fns:Nat->Option RF) (ex:EX):CI:=fun f args=>match fns f with
 | some rf=>if args.length=rf.nargs then
  (match ex rf.body 0 ⟨start rf args,[]⟩ with
   | some (.exit _,_)=>none
   | some (_,s')=>(match cL rf.results s' with | some l=>pack s'.H (oneOf l) | none=>none)
   | none=>none)
  else YG ex rf args
 | none=>none
def uS:List Nat->List AV->List AV->List AV
 | p::ps,x::xs,t=>uS ps xs (t.set p x)
 | _,_,t=>t
def jI (x y:Ls) (H:List Obj) (l:Nat):Option (List Obj):=match H[l]? with
 | some (.lp s t ps b6 body)=>if s=x then some (H.set l (.lp y t ps b6 body)) else none
 | _=>none
def X4 (ex:EX) (args:List AV) (H:List Obj):Option (AV×List Obj):=match args with
 | .fA l::xs=>(match H[l]? with
  | some (.lp .ready t ps b6 body)=>if xs.length=ps.length then
   (match ex b6 H.length ⟨uS ps xs t,H⟩ with
    | some (.normal,s1)=>(match jI .ready .busy s1.H l with
     | some H1=>(match ex body H.length ⟨s1.tmps,H1⟩ with
      | some (.normal,s2)=>(match jI .busy .ready s2.H l with | some H2=>some (.bool true,H2) | none=>none)
      | some (e,s2)=>(match jI .busy (.done e) s2.H l with | some H2=>some (.bool false,H2) | none=>none)
      | none=>none)
     | none=>none)
    | _=>none) else none
  | _=>none)
 | _=>none
def kV:List (List AV)->Option (List Int)
 | []=>some []
 | [.int .i64 n]::r=>(match kV r with | some l=>some (n::l) | none=>none)
 | _=>none
def sorted (l:List Int):List Int:=l.mergeSort fun x y=>decide (x<=y)
def C2 (args:List AV) (H:List Obj):Option (AV×List Obj):=match args with
 | [.own id ext off len]=>(match H[id]? with
  | some (.live nl sz es)=>if nl.free=true/\sz=1/\ext=es.length/\off=0/\len=es.length/\es.length<=1099511627776 then
   (match kV es with | some l=>some (.aY [],H.set id (.live nl 1 ((sorted l).map fun n=>[.int .i64 n]))) | none=>none)
   else none
  | _=>none)
 | _=>none
def Lh (args:List AV) (H:List Obj):Option (AV×List Obj):=match args with
 | [.own id ext off len]=>(match H[id]? with
  | some (.live nl sz es)=>if nl.free=true/\sz=1/\ext=es.length/\off=0/\len=es.length/\es.length<=1099511627776 then
   (match kV es with | some l=>some (.own H.length (Go.Lib.compact l).length 0 (Go.Lib.compact l).length,H.set id .dead++[.live nl 1 ((Go.Lib.compact l).map fun n=>[.int .i64 n])]) | none=>none)
   else none
  | _=>none)
 | _=>none
def JL (rf:RF) (args:List AV) (H:List Obj):Option (AV×List Obj):=if rf.nargs=999 then C2 args H else if rf.nargs=998 then Lh args H else none
def AR (fns:Nat->Option RF) (ex:EX):CH:=fun f args H=>match f with
 | none=>X4 ex args H
 | some f=>match fns f with
 | some rf=>if args.length=rf.nargs then
  (match ex rf.body H.length ⟨start rf args,H⟩ with
   | some (.exit _,_)=>none
   | some (_,s')=>(match cL rf.results s' with | some l=>some (oneOf l,s'.H) | none=>none)
   | none=>none)
  else JL rf args H
 | none=>none
def lg (H:List Obj) (l:Nat):Option Ex:=match H[l]? with
 | some (.lp .ready _ _ _ _)=>some .normal
 | some (.lp (.done e) _ _ _ _)=>some e
 | _=>none
def exec (E:Env) (hp:Nat->Bool):Nat->EX
 | 0,_,_,_=>none
 | n+1,c,base,s=>
  match c with
  | .bad=>none
  | .skip=>some (.normal,s)
  | .ret=>some (.ret,s)
  | .exit id=>some (.exit id,s)
  | .seq a b=>(match exec E hp n a base s with
   | some (.normal,s')=>exec E hp n b base s'
   | r=>r)
  | .cond x a b=>(match x.ev E.aF s.tmps with
   | .bool true=>exec E hp n a base s
   | .bool false=>exec E hp n b base s
   | _=>none)
  | .block id b=>(match exec E hp n b base s with
   | some (.exit i,s')=>if i=id then some (.normal,s') else some (.exit i,s')
   | r=>r)
  | .loop b=>(match exec E hp n b base s with
   | some (.normal,s')=>exec E hp n (.loop b) base s'
   | r=>r)
  | .u5 ops=>(match bP E.aF hp (m6 E.fns (exec E hp n)) (AR E.fns (exec E hp n)) ops s.tmps s.H with
   | some (t,H)=>some (.normal,⟨t,H⟩)
   | none=>none)
  | .draw ops=>(match bP E.aF (fun _=>false) (m6 E.fns (exec E hp n)) (fun _ _ _=>none) ops s.tmps s.H with
   | some (t,H)=>some (.normal,⟨t,H⟩)
   | none=>none)
  | .jG ops bf=>(match vQ E.aF hp (m6 E.fns (exec E hp n)) (AR E.fns (exec E hp n)) bf ops 0 [] [] s.tmps s.H with
   | some (t,H)=>some (.normal,⟨t,H⟩)
   | none=>none)
  | .kB ops k ps=>(match gA E.aF (m6 E.fns (exec E hp n)) s.H.length ops s.tmps (s.H++List.replicate k .ew) with
   | some (t,H,fs)=>if gm fs ps=true then some (.normal,⟨t,H⟩) else none
   | none=>none)
  | .gh pre r post=>(match iX base pre s with
   | some s0=>(match exec E hp n r base s0 with
    | some (.normal,s')=>(match iX base post s' with | some s''=>some (.normal,s'') | none=>none)
    | r=>r)
   | none=>none)
  | .AT g ps b6 body=>(match g.ev E.aF s.tmps with
   | .fn f cap=>(match AR E.fns (exec E hp n) (some f) (.fA s.H.length::cap) (s.H++[.lp .ready s.tmps ps b6 body]) with
    | some (_,H')=>(match lg H' s.H.length with
     | some e=>some (e,⟨s.tmps,H'.set s.H.length .dead⟩)
     | none=>none)
    | none=>none)
   | _=>none)
structure Hint where
 pre:List GA:=[]
 post:List GA:=[]
 mid:List (Nat×List GA):=[]
 deriving Inhabited
def simple:Value->AV
 | .bool b=> .bool b
 | .int k n=> .int k n
 | .string s=> .str s.data.toList
 | .pointer none=> .gZ
 | .slice none 0 0=> .bF
 | .nilFunc=> .jw
 | .nilIface=> .nu
 | _=> .any
def ofValue:Value->AV
 | .agg cs=> .agg (cs.toList.map simple)
 | v=>simple v
def cx:Operand->RX
 | .tmp t=> .t t
 | .const v=> .c (ofValue v)
 | .global g=> .g g
 | .func f=> .c (.fn f [])
section
variable (P:Program)
def cW (t:TypeId):Option Nat:=match P.info? t with | some i=>some i.size | none=>none
def nw (t:TypeId):Option Bool:=match P.underlying t with
 | some (.struct _) | some (.array _ _)=>some true
 | some _=>some false
 | none=>none
def zeroOf (t:TypeId):Option (List AV):=match P.info? t with
 | some i=>(match i.zero with | some v=>some (v.cells.toList.map simple) | none=>none)
 | none=>none
def bytesOf (t:TypeId):Option Nat:=match P.info? t with | some i=>some i.bytes | none=>none
def compFields (fs:Array Field):List (Nat×Operand)->Option (List (Nat×Nat×RX))
 | []=>some []
 | (j,x)::r=>match fs[j]?,compFields fs r with
  | some f,some l=>(match cW P f.type with | some n=>some ((f.offset,n,cx x)::l) | none=>none)
  | _,_=>none
mutual
def fy:Nat->TypeId->Option (List CK)
 | 0,_=>none
 | d+1,t=>(match P.underlying t with
  | some .bool=>some [.bool]
  | some (.int k)=>some [.int k]
  | some .string=>some [.str]
  | some (.struct fs)=>if P.stoodInHeld t then none else (match iA d 0 fs.toList with | some ks=>if cW P t=some ks.length then some ks else none | none=>none)
  | some (.array n e)=>(match fy d e,cW P e with
   | some ks,some sz=>if ks.length=sz/\cW P t=some (n*sz) then some (List.replicate n ks).flatten else none
   | _,_=>none)
  | _=>none)
def iA:Nat->Nat->List Field->Option (List CK)
 | _,_,[]=>some []
 | 0,_,_::_=>none
 | d+1,off,f::fs=>if f.name== "_" then none else (match fy d f.type,cW P f.type with
  | some ks,some sz=>if ks.length=sz/\f.offset=off then (match iA d (off+sz) fs with | some l=>some (ks++l) | none=>none) else none
  | _,_=>none)
end
def fc (neg:Bool) (t:TypeId) (x y:RX):RO:=
 match P.underlying t with
 | some (.int _) | some .string=> .bin (if neg then .neq else .eql) x y
 | some .bool=> .Hp neg x y
 | some (.slice _)=> .AS neg x y
 | some (.pointer _)=> .Hq neg x y
 | some (.struct _) | some (.array _ _)=>(match fy P 12 t with | some ks=>if P.eqGuardType P.depth t then .bad else .Cz neg ks x y | none=> .bad)
 | _=> .bad
def deep (P:Program) (e:TypeId):Bool:=match P.underlying e with
 | some (.slice e2)=>(match cW P e2 with | some n=>Nat.ble 2 n | none=>false)
 | _=>false
def JF (t:TypeId):Option CK:=match P.underlying t with
 | some .bool=>some .bool
 | some (.int k)=>some (.int k)
 | some .string=>some .str
 | _=>none
def cj (o:Oper):RO:=
 match o.op with
 | .move x | .assign x=> .Ho (cx x)
 | .pick c a b=> .pick (cx c) (cx a) (cx b)
 | .box _ x=> .box (cx x)
 | .alloc e=>(match zeroOf P e with | some z=> .alloc z | none=> .bad)
 | .build t parts=>
  (match zeroOf P t,P.underlying t with
   | some z,some (.struct fs)=>if fs.toList.all (fun f=>(cW P f.type).isSome) then (match compFields P fs parts.toList with | some l=> .build z l | none=> .bad) else .bad
   | some z,some (.array _ e)=>(match cW P e with | some sz=> .build z (parts.toList.map fun (i,x)=>(i*sz,sz,cx x)) | none=> .bad)
   | _,_=> .bad)
 | .buildSlice t len parts=>
  (match P.underlying t with
   | some (.slice e)=>(match cW P e,zeroOf P e with
    | some sz,some z=>if sz=1/\deep P e=true then .A5 z len (parts.toList.map fun (i,x)=>(i,cx x)) else .u0 sz z len (parts.toList.map fun (i,x)=>(i,cx x))
    | _,_=> .bad)
   | _=> .bad)
 | .load t a=>(match cW P t,nw P t with | some n,some ag=> .load n ag (cx a) | _,_=> .bad)
 | .store t a x=>(match cW P t with | some n=> .store n (cx a) (cx x) | none=> .bad)
 | .binOp op xt x y _=>
  (match op with
   | .eql=>fc P false xt (cx x) (cx y)
   | .neq=>fc P true xt (cx x) (cx y)
   | op=> .bin op (cx x) (cx y))
 | .unOp op _ x=> .un op (cx x)
 | .nilCheck x=> .pJ (cx x)
 | .convert src dst x=>(match P.underlying src,P.underlying dst with
  | some _,some (.int k)=> .conv k (cx x)
  | some (.int _),some .string=> .Jr (cx x)
  | some (.slice e),some .string=>(match P.underlying e with | some (.int .u8)=> .Cs (cx x) | _=> .bad)
  | _,_=> .bad)
 | .field xt x f=>
  (match P.underlying xt with
   | some (.struct fs)=>(match fs[f]? with
    | some fd=>(match cW P fd.type,nw P fd.type with | some n,some ag=> .Tj fd.offset n ag (cx x) | _,_=> .bad)
    | none=> .bad)
   | _=> .bad)
 | .fieldAddr s x f=>
  (match P.underlying s with
   | some (.struct fs)=>(match fs[f]? with
    | some fd=>(match cW P fd.type with | some (_+1)=> .uZ fd.offset (cx x) | _=> .bad)
    | none=> .bad)
   | _=> .bad)
 | .indexAddr t x i=>
  (match P.underlying t with
   | some (.array len e)=>(match cW P e with | some sz=> .mm len sz (cx x) (cx i) | none=> .bad)
   | some (.slice e)=>(match cW P e with | some sz=> .jd sz (cx x) (cx i) | none=> .bad)
   | _=> .bad)
 | .index xt x i=>
  (match P.underlying xt with
   | some (.array len e)=>(match cW P e,nw P e with | some n,some ag=> .nk len n ag (cx x) (cx i) | _,_=> .bad)
   | some .string=> .oV (cx x) (cx i)
   | _=> .bad)
 | .slice xt x lo hi none=>
  (match P.underlying xt with
   | some .string=> .oW (cx x) (lo.map cx) (hi.map cx)
   | some (.slice e)=>(match cW P e with | some sz=> .slc sz (cx x) (lo.map cx) (hi.map cx) | none=> .bad)
   | some (.array n e)=>(match cW P e with | some sz=> .k8 n sz (cx x) (lo.map cx) (hi.map cx) | none=> .bad)
   | _=> .bad)
 | .makeMap _ none=> .Js
 | .lookup t m x ok=>
  (match P.underlying t with
   | some (.map k e)=>(match JF P k,(P.info? e).bind (·.zero) with | some c,some z=> .gY c (ofValue z) ok (cx m) (cx x) | _,_=> .bad)
   | _=> .bad)
 | .mapUpdate t m x v=>
  (match P.underlying t with
   | some (.map k _)=>(match JF P k with | some c=> .gX c (cx m) (cx x) (cx v) | none=> .bad)
   | _=> .bad)
 | .range t x=>(match P.underlying t with | some .string=> .Fh (cx x) | _=> .bad)
 | .next x true=> .uK (cx x)
 | .makeFunc (.func f) first cap=>if first.isEmpty then .Qk f (cap.toList.map cx) else if cap.isEmpty then .Tk f (first.toList.map cx) else .bad
 | .makeSlice t l c=>
  (match P.underlying t with
   | some (.slice e)=>(match cW P e,zeroOf P e,bytesOf P e with
    | some sz,some z,some b=> .Hr sz z b (cx l) (cx c)
    | _,_,_=> .bad)
   | _=> .bad)
 | .call c=>
  (match c.callee with
   | .value (.func f)=> .call f (c.args.toList.map cx)
   | .value x=> .gf (cx x) (c.args.toList.map cx)
   | .builtin .len=>
    (match c.argTypes[0]?,c.args.toList with
     | some t,[x]=>(match P.underlying t with
      | some .string=> .len true (cx x)
      | some (.slice _)=> .len false (cx x)
      | some (.array n _)=> .Ho (.c (.int .i64 n))
      | some (.map _ _)=> .jv (cx x)
      | _=> .bad)
     | _,_=> .bad)
   | .builtin .append=>
    (match c.argTypes[0]?,c.argTypes[1]?,c.args.toList with
     | some t,some u,[s,x]=>(match P.underlying t,P.underlying u with
      | some (.slice e),some (.slice _)=>(match cW P e,bytesOf P e,zeroOf P e with | some sz,some b,some z=>if z.length=sz then .app sz b (cx s) (cx x) else .bad | _,_,_=> .bad)
      | some (.slice e),some .string=>(match cW P e,bytesOf P e,zeroOf P e with | some sz,some b,some z=>if z.length=sz then .app sz b (cx s) (cx x) else .bad | _,_,_=> .bad)
      | some (.slice e),some (.int _)=>(match cW P e,bytesOf P e,zeroOf P e with | some sz,some b,some z=> .sH sz z b (cx s) (cx x) | _,_,_=> .bad)
      | _,_=> .bad)
     | _,_,_=> .bad)
   | .builtin .min=> .mn (c.args.toList.map cx)
   | .builtin .max=> .mx (c.args.toList.map cx)
   | .builtin .cap=>
    (match c.argTypes[0]?,c.args.toList with
     | some t,[x]=>(match P.underlying t with
      | some (.slice _)=> .FE (cx x)
      | _=> .bad)
     | _,_=> .bad)
   | _=> .bad)
 | .extract x i=> .ext (cx x) i
 | _=> .bad
def wq (ops:Array Oper) (j:Nat):Option Nat:=match ops[j]? with | some o=>o.dst | none=>none
def aB (ops:Array Oper) (o:Oper):bH:=
 match o.guard with
 | none=>⟨o.dst,none,cj P o⟩
 | some (j,b)=>match wq ops j with
  | some d=>⟨o.dst,some (d,b),cj P o⟩
  | none=>⟨o.dst,none,.bad⟩
def _root_.Go.Am.RO.ops:RO->List RX
 | .bad=>[]
 | .Ho x=>[x]
 | .pick c a b=>[c,a,b]
 | .box x=>[x]
 | .alloc _=>[]
 | .build _ parts=>parts.map (·.2.2)
 | .u0 _ _ _ parts=>parts.map (·.2)
 | .m8 _ _ _ parts=>parts.map (·.2)
 | .A5 _ _ parts=>parts.map (·.2)
 | .load _ _ a=>[a]
 | .store _ a x=>[a,x]
 | .bin _ x y=>[x,y]
 | .un _ x=>[x]
 | .Cz _ _ x y=>[x,y]
 | .Hp _ x y=>[x,y]
 | .AS _ x y=>[x,y]
 | .Hq _ x y=>[x,y]
 | .pJ x=>[x]
 | .conv _ x=>[x]
 | .Tj _ _ _ x=>[x]
 | .uZ _ x=>[x]
 | .jd _ x i=>[x,i]
 | .mm _ _ x i=>[x,i]
 | .nk _ _ _ x i=>[x,i]
 | .oV x i=>[x,i]
 | .slc _ x lo hi=>x::(lo.toList++hi.toList)
 | .oW x lo hi=>x::(lo.toList++hi.toList)
 | .k8 _ _ x lo hi=>x::(lo.toList++hi.toList)
 | .Qk _ cap=>cap
 | .Tk _ l=>l
 | .Hr _ _ _ l c=>[l,c]
 | .len _ x=>[x]
 | .app _ _ s x=>[s,x]
 | .mo _ _ s x=>[s,x]
 | .sH _ _ _ s n=>[s,n]
 | .FE x=>[x]
 | .mn l=>l
 | .mx l=>l
 | .call _ args=>args
 | .gf f args=>f::args
 | .iD _ args=>args
 | .ext x _=>[x]
 | .Js=>[]
 | .gY _ _ _ m x=>[m,x]
 | .gX _ m x v=>[m,x,v]
 | .jv m=>[m]
 | .Fh x=>[x]
 | .uK x=>[x]
 | .Jr x=>[x]
 | .Cs x=>[x]
def F6:RX->Option Nat
 | .t n=>some n
 | _=>none
def cE (o:bH):List Nat:=(match o.guard with | some (s,_)=>[s] | none=>[])++o.op.ops.filterMap F6
def kz (d:Option Nat) (l:List Nat):Bool:=match d with | some d=> !(l.contains d) | none=>true
def pU (d e:Option Nat):Bool:=match d,e with | some d,some e=>d !=e | _,_=>true
def lJ (a b:Kind):Bool:=
 match a,b with
 | .pure,_ | _,.pure=>true
 | .write,_ | _,.write=>false
 | _,_=>true
def free (a b:bH):Bool:=
 kz a.dst (cE b)&&kz b.dst (cE a)&&pU a.dst b.dst&&lJ a.op.kind b.op.kind
def fH (m:Region.Mode) (ops:Array Oper) (k9:Nat->Nat):Bool:=
 (List.range ops.size).all fun i=>match ops[i]? with
  | some o=>o.after.toList.all fun e=> !(Region.binds m e)||(e.on < ops.size&&k9 e.on < k9 i)
  | none=>true
def BS (bf:List Nat) (bE:List bH):Bool:=
 (List.range bE.length).all fun j=>(List.range j).all fun i=>
  (bf.getD j 0).testBit i||(match bE[i]?,bE[j]? with | some a,some b=>free a b | _,_=>false)
def zC (i:Nat):List Nat->Nat
 | []=>0
 | x::xs=>if x=i then 0 else zC i xs+1
def nJ (ops:Array Oper) (bE:List bH):Bool:=
 fH .any ops (fun i=>i)&&fH .text ops (fun i=>i)&&
  (let l:=Region.linearise .gc ops 0;fH .gc ops (fun i=>zC i l))&&BS (Region.before ops).toList bE
def C4 (a b:bH):Bool:=
 kz a.dst (cE b)&&kz b.dst (cE a)&&pU a.dst b.dst&&(decide (a.op.kind= .pure)||decide (b.op.kind= .pure)||(decide (a.op.kind= .read)&&decide (b.op.kind= .read)))
def xu (bf:List Nat) (bE:List bH):Bool:=
 (List.range bE.length).all fun j=>(List.range j).all fun i=>
  (bf.getD j 0).testBit i||(match bE[i]?,bE[j]? with | some a,some b=>C4 a b | _,_=>false)
def rz (ops:Array Oper) (bE:List bH):Bool:=
 fH .any ops (fun i=>i)&&fH .text ops (fun i=>i)&&
  (let l:=Region.linearise .gc ops 0;fH .gc ops (fun i=>zC i l))&&xu (Region.before ops).toList bE
def cU (a b:bH):Bool:=kz a.dst (cE b)&&kz b.dst (cE a)&&pU a.dst b.dst
def xw (bf:List Nat) (bE:List bH):Bool:=
 (List.range bE.length).all fun j=>(List.range j).all fun i=>
  bit bf j i||(match bE[i]?,bE[j]? with | some a,some b=>cU a b&& !(cN a&&cN b) | _,_=>false)
def rA (ops:Array Oper) (bE:List bH):Bool:=
 fH .any ops (fun i=>i)&&fH .text ops (fun i=>i)&&
  (let l:=Region.linearise .gc ops 0;fH .gc ops (fun i=>zC i l))&&((List.range bE.length).all fun i=>Nat.blt ((Region.before ops).toList.getD i 0) (2 ^ i))&&xw (Region.before ops).toList bE
def DE (bf:List Nat) (bE:List bH):List (Nat×Nat):=
 ((List.range bE.length).map fun j=>(List.range j).filterMap fun i=>
   if (bf.getD j 0).testBit i then none else match bE[i]?,bE[j]? with
    | some a,some b=>if lJ a.op.kind b.op.kind then none else some (i,j)
    | _,_=>none).flatten
def xx (bf:List Nat) (bE:List bH) (ps:List (Nat×Nat)):Bool:=
 (List.range bE.length).all fun j=>(List.range j).all fun i=>
  (bf.getD j 0).testBit i||(match bE[i]?,bE[j]? with
   | some a,some b=>cU a b&&(lJ a.op.kind b.op.kind||ps.contains (i,j))
   | _,_=>false)
def rB (ops:Array Oper) (bE:List bH) (ps:List (Nat×Nat)):Bool:=
 fH .any ops (fun i=>i)&&fH .text ops (fun i=>i)&&
  (let l:=Region.linearise .gc ops 0;fH .gc ops (fun i=>zC i l))&&xx (Region.before ops).toList bE ps
def places:Nat->List bH->List (Nat×bH)
 | _,[]=>[]
 | k,o::os=>(k,o)::places (if o.op.dP then k+1 else k) os
def MR (bE:List bH):Nat:=(bE.filter fun o=>o.op.dP).length
def MS (js:List Nat) (ops:Array Oper) (bE:List bH):Bool:=
 match bE.getLast? with
 | some o=>decide (o.op.kind= .call)&&decide (bE.length=ops.size)&&((List.range (ops.size - 1)).all fun i=>((Region.before ops).toList.getD (ops.size - 1) 0).testBit i)&&
  ((match o.op with | .gf ..=>true | _=>false)||(match ops.back? with | some p=>Nat.beq p.type 0 | none=>false)||(!(nJ ops bE)||js.any (Nat.beq 999999)))
 | none=>false
def OO (ops:Array Oper) (d:Option Nat):Bool:=match d with
 | none=>false
 | some d=>ops.toList.any fun o=>match o.op with
  | .call c=>(match c.callee,c.args.toList with
   | .builtin .append,.tmp t::_=>Nat.beq t d
   | _,_=>false)
  | _=>false
def L0 (js:List Nat):Option Nat->Bool
 | some d=>js.any (Nat.beq d)
 | none=>false
def qO (js:List Nat) (ops:Array Oper) (o:Oper) (r:bH):bH:=match r.op with
 | .call f args=>(match P.underlying o.type with
  | some (.pointer _)=>{ r with op:= .iD f args }
  | some (.slice _)=>if OO ops o.dst||L0 js o.dst then { r with op:= .iD f args } else r
  | _=>r)
 | .app sz bytes a b=>if L0 js o.dst then { r with op:= .mo sz bytes a b } else r
 | .u0 sz z len parts=>if L0 js o.dst then { r with op:= .m8 sz z len parts } else r
 | _=>r
def pB (js:List Nat) (ops:Array Oper) (l:List bH):List bH:=List.zipWith (qO P js ops) ops.toList l
def jt (js:List Nat) (ops:Array Oper) (first:List bH):RC:=
 if nJ ops first&&(js.isEmpty&& !(first.any fun o=>decide (o.op.kind= .call))) then .draw first else
 if rz ops first&&js.isEmpty then .u5 first else
 if nJ ops first&&js.isEmpty then .draw first else
 if rA ops first&&js.any (Nat.beq 999998) then .jG first (Region.before ops).toList else
 let fs:=pB P js ops first
 let ps:=DE (Region.before ops).toList fs;if rB ops fs ps then .kB (places 0 fs) (MR fs) ps else .bad
def xy (js:List Nat) (ops:Array Oper) (bE:List bH):RC:=
 if MS js ops bE then .seq (jt P (js.filter fun d=> !(Nat.beq 999999 d)) ops bE.dropLast) (.u5 (bE.drop (ops.size - 1))) else jt P js ops bE
def iY (hs:List (Nat×Hint)) (id:Nat):Hint:=
 match hs with
 | []=>{}
 | (i,h)::r=>if i=id then h else iY r id
def gP (h:Hint) (r:RC):RC:=
 if h.pre.isEmpty&&h.post.isEmpty then r else .gh h.pre r h.post
def jj:List (Nat×List GA)->List bH->RC
 | [],l=> .u5 l
 | (j,g)::r,l=> .seq (.gh [] (.u5 (l.take j)) g) (jj r (l.drop j))
def iP:Code->Option Nat
 | .region id _ _=>some id
 | .seq a b=>(match iP a with | some r=>some r | none=>iP b)
 | .cond _ a b=>(match iP a with | some r=>some r | none=>iP b)
 | .block _ b=>iP b
 | .loop b=>iP b
 | _=>none
def aaX:Operand->Nat
 | .tmp t=>t
 | _=>999999
def R5:Operand->Nat
 | .tmp t=>2000000+t
 | _=>1999999
def nj:Code->Bool
 | .seq a b=>nj a&&nj b
 | .cond _ a b=>nj a&&nj b
 | .block _ b=>nj b
 | .loop b=>nj b
 | .rangeFunc ..=>false
 | _=>true
def comp (hs:List (Nat×Hint)):Code->RC
 | .skip=> .skip
 | .region id ops dr=>
  gP (iY hs id)
   (if dr then xy P ((iY hs id).mid.map (·.1)) ops (ops.toList.map (aB P ops))
    else jj (iY hs id).mid (ops.toList.map (aB P ops)))
 | .seq a b=> .seq (comp hs a) (comp hs b)
 | .cond c a b=>gP (iY hs (R5 c)) (.cond (cx c) (comp hs a) (comp hs b))
 | .block id b=>gP (iY hs (3000000+id)) (.block id (comp hs b))
 | .loop b=> .loop (gP (iY hs (1000000+(iP b).getD 999999)) (comp hs b))
 | .exit id=> .exit id
 | .ret=> .ret
 | .rangeFunc g ps a b=>gP (iY hs (4000000+aaX g)) (if nj a&&nj b then .AT (cx g) ps.toList (comp hs a) (comp hs b) else .bad)
 | _=> .bad
def CR (rc:RC) (code:Code):Prop:=∃ hs,comp P hs code=rc/\nj code=true
def jk:List ResultVar->Option (List (Sum Nat (Nat×Nat×Bool)))
 | []=>some []
 | .tmp t::r=>(match jk r with | some l=>some (.inl t::l) | none=>none)
 | .cell a t::r=>(match cW P t,nw P t,jk r with | some n,some ag,some l=>some (.inr (a,n,ag)::l) | _,_,_=>none)
def wh (hs:List (Nat×Hint)) (nargs:Nat) (fn:Func):Option RF:=
 match fn.body,jk P fn.results.toList with
 | some c,some rs=>if fn.name== "runtime.NumGoroutine" then none else some ⟨nargs,fn.ntmps,rs,comp P hs c⟩
 | _,_=>none
end
end Go.Am
