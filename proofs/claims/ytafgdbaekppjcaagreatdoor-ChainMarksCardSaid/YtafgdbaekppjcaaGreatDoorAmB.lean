/- Parts of my machine and its laws, joined: AmB AmC. No condition. -/
import Derived.Test.YtafgdbaekppjcaaGreatDoorAmA
set_option linter.unusedSectionVars false
set_option linter.unusedVariables false
set_option linter.unusedSimpArgs false
section
namespace Go.Am
abbrev CI:=Nat->List AV->Option AV
abbrev CH:=Option Nat->List AV->List Obj->Option (AV×List Obj)
def bI (hp:Nat->Bool) (cI:CI) (cH:CH) (f:Nat) (args:List AV) (H:List Obj):Option (AV×List Obj):=
 if hp f=true then cH (some f) args H else
 match snaps H args with
 | some as'=>(match cI f as' with
  | some v=>if (AV.aS 0 args||v.flat)=true then some (v,H) else none
  | none=>none)
 | none=>cH (some f) args H
def aP (G:Nat->List AV) (t:List AV):RO->Option AV
 | .DZ x=>some (x.ev G t)
 | .pick c a b=>(match c.ev G t with | .bool true=>some (a.ev G t) | .bool false=>some (b.ev G t) | _=>none)
 | .build z parts=>(match mc z (parts.map fun (o,n,x)=>(o,n,x.ev G t)) with | some cs=>some (.agg cs) | none=>none)
 | .bin op x y=>bin op (x.ev G t) (y.ev G t)
 | .un op x=>un op (x.ev G t)
 | .Aa neg ks x y=>Aa neg ks (x.ev G t) (y.ev G t)
 | .D0 neg x y=>D0 neg (x.ev G t) (y.ev G t)
 | .D1 neg x y=>D1 neg (x.ev G t) (y.ev G t)
 | .oh x=>oh (x.ev G t)
 | .conv k x=>(match x.ev G t with | .int _ n=>some (.int k (k.wrap n)) | _=>none)
 | .Ol off n ag x=>(match x.ev G t with | .agg cs=>part n ag cs off | _=>none)
 | .sX off x=>sX off (x.ev G t)
 | .kN len sz x i=>kN len sz (x.ev G t) (i.ev G t)
 | .lW len n ag x i=>lW len n ag (x.ev G t) (i.ev G t)
 | .nN x i=>nN (x.ev G t) (i.ev G t)
 | .nO x lo hi=>nO (x.ev G t) (lo.map (·.ev G t)) (hi.map (·.ev G t))
 | .Lx f cap=>some (.fn f (cap.map (·.ev G t)))
 | .Om f l=>some (.bL f (l.map (·.ev G t)))
 | .len st x=>(match pB st (x.ev G t) with | some n=>some (.int .i64 n) | none=>none)
 | .mn l=>(match l.map (·.ev G t) with | x::r=>iT min2 x r | []=>none)
 | .mx l=>(match l.map (·.ev G t) with | x::r=>iT max2 x r | []=>none)
 | .ext x i=>(match x.ev G t with | .bk vs=>vs[i]? | _=>none)
 | .FA x=>FA (x.ev G t)
 | .CP x=>(match x.ev G t with | .bx=>some (.int .i64 0) | _=>none)
 | _=>none
def aQ (G:Nat->List AV) (t:List AV) (H:List Obj):RO->Option AV
 | .load n ag a=>loadAt H n ag (a.ev G t)
 | .iu sz x i=>iu H sz (x.ev G t) (i.ev G t)
 | .slc sz x lo hi=>slc H sz (x.ev G t) (lo.map (·.ev G t)) (hi.map (·.ev G t))
 | .yz neg x y=>yz H neg (x.ev G t) (y.ev G t)
 | .j7 len sz x lo hi=>j7 H len sz (x.ev G t) (lo.map (·.ev G t)) (hi.map (·.ev G t))
 | _=>none
def evalW (G:Nat->List AV) (t:List AV) (H:List Obj) (pl:Nat):RO->Option (AV×List Obj)
 | .box x=>if aX (x.ev G t).cells=true then some (.ax pl 1 0 0,putObj H pl (.live .norm (x.ev G t).cells.length [(x.ev G t).cells])) else none
 | .alloc z=>if aX z=true then some (.ax pl 1 0 0,putObj H pl (.live .norm z.length [z])) else none
 | .sY sz z len parts=>
  if z.length=sz/\aX z=true/\len*sz<=2 ^ 24 then
   (match jF sz (List.replicate len z) (parts.map fun (i,x)=>(i,x.ev G t)) with
    | some es=>some (.own pl len 0 len,putObj H pl (.live .norm sz es))
    | none=>none)
  else none
 | .store n a x=>(match storeAt H n (a.ev G t) (x.ev G t) with | some H'=>some (.bk [],H') | none=>none)
 | .D2 sz z bytes l c=>
  (match l.ev G t,c.ev G t with
   | .int .i64 n,.int .i64 m=>if n=m/\0<=n/\n*bytes<=2 ^ 40/\n<=2 ^ 40/\z.length=sz/\aX z=true then
    some (.own pl n.toNat 0 n.toNat,putObj H pl (.live .norm sz (List.replicate n.toNat z))) else none
   | _,_=>none)
 | .app sz bytes s x=>append H pl sz bytes (s.ev G t) (x.ev G t)
 | .yM z len parts=>
  if z.length=1/\aX z=true/\len*1<=2 ^ 24 then
   (match jF 1 (List.replicate len z) (parts.map fun (i,x)=>(i,x.ev G t)) with
    | some es=>if AV.bM 0 es=true then some (.ro es,H) else none
    | none=>none)
  else none
 | .qL sz z bytes s n=>
  (match s.ev G t,n.ev G t with
   | .bx,.int .i64 m=>if 0 < m/\m*bytes<=2 ^ 40/\m<=2 ^ 40/\z.length=sz/\aX z=true then
    some (.own pl m.toNat 0 m.toNat,putObj H pl (.live .norm sz (List.replicate m.toNat z))) else none
   | _,_=>none)
 | .FB=>some (.mp pl,putObj H pl (.mp []))
 | .hY k m x v=>(match hY H k (m.ev G t) (x.ev G t) (v.ev G t) with | some H'=>some (.bk [],H') | none=>none)
 | .Cq x=>(match x.ev G t with | .str s=>some (.oZ pl,putObj H pl (.it s 0)) | _=>none)
 | .sK x=>sK H (x.ev G t)
 | .ia k z ok m x=>(match ia H k z ok (m.ev G t) (x.ev G t) with | some v=>some (v,H) | none=>none)
 | .iP m=>(match iP H (m.ev G t) with | some v=>some (v,H) | none=>none)
 | .z6 x=>(match z6 H (x.ev G t) with | some v=>some (v,H) | none=>none)
 | _=>none
inductive Kind where
 | pure | read | write | call
 deriving DecidableEq,Inhabited
def RO.kind:RO->Kind
 | .load .. | .yz .. | .iu .. | .slc .. | .j7 ..=> .read
 | .box _ | .alloc _ | .sY .. | .store .. | .D2 .. | .app .. | .qL .. | .yM .. | .qH .. | .kO .. | .lQ .. | .bad | .FB | .hY .. | .Cq _ | .sK _ | .ia .. | .iP _ | .z6 _=> .write
 | .call .. | .fJ ..=> .call
 | _=> .pure
def evalOp (G:Nat->List AV) (hp:Nat->Bool) (cI:CI) (cH:CH) (pl:Nat) (x:RO) (t:List AV) (H:List Obj):Option (AV×List Obj):=
 match x.kind with
 | .pure=>(match aP G t x with | some v=>some (v,H) | none=>none)
 | .read=>(match aQ G t H x with | some v=>some (v,H) | none=>none)
 | .write=>evalW G t H pl x
 | .call=>
  match x with
  | .call f args=>bI hp cI cH f (args.map (·.ev G t)) H
  | .fJ fx args=>(match fx.ev G t with
   | .fn f cap=>bI hp cI cH f (args.map (·.ev G t)++cap) H
   | .bL f l=>bI hp cI cH f (l++args.map (·.ev G t)) H
   | .eI l=>cH none (.eI l::args.map (·.ev G t)) H
   | _=>none)
  | _=>none
def cO (t:List AV) (d:Option Nat) (v:AV):List AV:=
 match d with
 | some d=>t.set d v
 | none=>t
def want (t:List AV):Option (Nat×Bool)->Option Bool
 | none=>some true
 | some (s,b)=>match t.getD s .any with
  | .bool c=>some (c==b)
  | .bk []=>some false
  | _=>none
def bP (G:Nat->List AV) (hp:Nat->Bool) (cI:CI) (cH:CH):List bD->List AV->List Obj->Option (List AV×List Obj)
 | [],t,H=>some (t,H)
 | o::os,t,H=>
  match want t o.guard with
  | some true=>(match evalOp G hp cI cH H.length o.op t H with
   | some (v,H')=>bP G hp cI cH os (cO t o.dst v) H'
   | none=>none)
  | some false=>bP G hp cI cH os (cO t o.dst (.bk [])) H
  | none=>none
def ic (G:Nat->List AV) (hp:Nat->Bool) (cI:CI) (cH:CH) (o:bD) (t:List AV) (H:List Obj):Option (AV×List Obj):=
 match want t o.guard with
 | some true=>evalOp G hp cI cH H.length o.op t H
 | some false=>some (.bk [],H)
 | none=>none
mutual
def AV.same:AV->AV->Bool
 | .bool a,b=>(match b with | .bool b=>a==b | _=>false)
 | .int k a,b=>(match b with | .int j b=>decide (k=j)&&decide (a=b) | _=>false)
 | .str a,b=>(match b with | .str b=>decide (a=b) | _=>false)
 | .gA,b=>(match b with | .gA=>true | _=>false)
 | .bx,b=>(match b with | .bx=>true | _=>false)
 | .jX,b=>(match b with | .jX=>true | _=>false)
 | .lZ,b=>(match b with | .lZ=>true | _=>false)
 | .oo,b=>(match b with | .oo=>true | _=>false)
 | .mp a,b=>(match b with | .mp b=>Nat.beq a b | _=>false)
 | .any,b=>(match b with | .any=>true | _=>false)
 | .eI a,b=>(match b with | .eI b=>Nat.beq a b | _=>false)
 | .oZ a,b=>(match b with | .oZ b=>Nat.beq a b | _=>false)
 | .arr a c d e f i,b=>(match b with | .arr a' c' d' e' f' i'=>Nat.beq a a'&&Nat.beq c c'&&Nat.beq d d'&&Nat.beq e e'&&Nat.beq f f'&&Nat.beq i i' | _=>false)
 | .ro a,b=>(match b with | .ro b=>AV.oB a b | _=>false)
 | .own a c d e,b=>(match b with | .own a' c' d' e'=>Nat.beq a a'&&Nat.beq c c'&&Nat.beq d d'&&Nat.beq e e' | _=>false)
 | .bV a,b=>(match b with | .bV b=>AV.gW a b | _=>false)
 | .ax a c d e,b=>(match b with | .ax a' c' d' e'=>Nat.beq a a'&&Nat.beq c c'&&Nat.beq d d'&&Nat.beq e e' | _=>false)
 | .agg a,b=>(match b with | .agg b=>AV.gW a b | _=>false)
 | .bk a,b=>(match b with | .bk b=>AV.gW a b | _=>false)
 | .fn f a,b=>(match b with | .fn g b=>Nat.beq f g&&AV.gW a b | _=>false)
 | .bL f a,b=>(match b with | .bL g b=>Nat.beq f g&&AV.gW a b | _=>false)
def AV.gW:List AV->List AV->Bool
 | [],b=>(match b with | []=>true | _=>false)
 | x::xs,b=>(match b with | y::ys=>AV.same x y&&AV.gW xs ys | _=>false)
def AV.oB:List (List AV)->List (List AV)->Bool
 | [],b=>(match b with | []=>true | _=>false)
 | x::xs,b=>(match b with | y::ys=>AV.gW x y&&AV.oB xs ys | _=>false)
end
def cJ (o:bD):Bool:=match o.op.kind with
 | .pure | .read=>false
 | _=>true
def lU (G:Nat->List AV) (o:bD) (t:List AV):List Obj->Option AV:=fun A=>match want t o.guard with
 | some true=>aQ G t A o.op
 | some false=>some (.bk [])
 | none=>none
def iR (g:List Obj->Option AV) (v:AV) (A:List Obj):Bool:=match g A with
 | some u=>AV.same u v
 | none=>false
def bit (bf:List Nat) (i k:Nat):Bool:=(bf.getD i 0).testBit k
def tU (G:Nat->List AV) (hp:Nat->Bool) (cI:CI) (cH:CH) (bf:List Nat):List bD->Nat->List (Nat×(List Obj->Option AV)×AV)->List (Nat×List Obj×List Obj)->List AV->List Obj->Option (List AV×List Obj)
 | [],_,_,_,t,H=>some (t,H)
 | o::os,i,rs,hs,t,H=>
  match ic G hp cI cH o t H with
  | none=>none
  | some (v,H')=>match o.op.kind with
   | .pure=>tU G hp cI cH bf os (i+1) rs hs (cO t o.dst v) H'
   | .read=>if (hs.all fun h=>bit bf i h.1||(iR (lU G o t) v h.2.1&&iR (lU G o t) v h.2.2))=true then
    tU G hp cI cH bf os (i+1) ((i,lU G o t,v)::rs) hs (cO t o.dst v) H' else none
   | _=>if (rs.all fun r=>bit bf i r.1||(iR r.2.1 r.2.2 H&&iR r.2.1 r.2.2 H'))=true then
    tU G hp cI cH bf os (i+1) rs ((i,H,H')::hs) (cO t o.dst v) H' else none
structure FP where
 all:Bool:=false
 r:List Nat:=[]
 w:List Nat:=[]
 deriving Inhabited
def refs:AV->List Nat
 | .own id _ _ _=>[id]
 | .ax id _ _ _=>[id]
 | .arr id _ _ _ _ _=>[id]
 | .mp id=>[id]
 | .oZ id=>[id]
 | _=>[]
def dZ (G:Nat->List AV) (t:List AV) (pl:Nat):RO->FP
 | .load _ _ a=>{ r:=refs (a.ev G t) }
 | .iu _ x _=>{ r:=refs (x.ev G t) }
 | .slc _ x _ _=>{ r:=refs (x.ev G t) }
 | .j7 _ _ x _ _=>{ r:=refs (x.ev G t) }
 | .yz _ x y=>{ r:=refs (x.ev G t)++refs (y.ev G t) }
 | .box _=>{ w:=[pl] }
 | .alloc _=>{ w:=[pl] }
 | .sY ..=>{ w:=[pl] }
 | .lQ ..=>{ w:=[pl] }
 | .D2 ..=>{ w:=[pl] }
 | .store _ a _=>{ w:=refs (a.ev G t) }
 | .app _ _ s x=>{ r:=refs (x.ev G t),w:=pl::refs (s.ev G t) }
 | .kO _ _ s x=>{ r:=refs (x.ev G t),w:=pl::refs (s.ev G t) }
 | .qL ..=>{ w:=[pl] }
 | .qH _ args=>{ r:=(args.map (·.ev G t)).flatMap refs,w:=[pl] }
 | .ia _ _ _ m _=>{ r:=refs (m.ev G t) }
 | .iP m=>{ r:=refs (m.ev G t) }
 | .z6 x=>{ r:=refs (x.ev G t) }
 | .FB=>{ w:=[pl] }
 | .hY _ m _ _=>{ w:=refs (m.ev G t) }
 | .Cq _=>{ w:=[pl] }
 | .sK x=>{ w:=refs (x.ev G t) }
 | .call _ args=>{ r:=(args.map (·.ev G t)).flatMap refs }
 | .fJ f args=>{ all:= !((f.ev G t).bA 0&&AV.aS 0 (args.map (·.ev G t))) }
 | _=>{}
def oC (a b:List Nat):Bool:=a.all fun x=> !(b.contains x)
def eD (a b:FP):Bool:=
 oC a.w b.r&&oC a.w b.w&&oC b.w a.r&&(!a.all||b.w.isEmpty)&&(!b.all||a.w.isEmpty)
def RO.dA:RO->Bool
 | .box _ | .alloc _ | .sY .. | .D2 .. | .app .. | .qL .. | .qH .. | .kO .. | .lQ .. | .FB | .Cq _=>true
 | _=>false
def qO (H:List Obj) (pl:Nat) (x:RO):Bool:= !x.dA||(match H[pl]? with | some .gB=>true | _=>false)
def ue (pl:Nat) (H:List Obj) (sz:Nat):AV->Option (AV×List Obj)
 | .agg cs=>some (.ax pl 1 0 0,putObj H pl (.live .norm cs.length [cs]))
 | .bx=>some (.bx,H)
 | .ro es=>some (.own pl es.length 0 es.length,putObj H pl (.live .norm sz es))
 | _=>none
def ki (H:List Obj) (x:AV):Option AV:=
 if x.bA 0=true then some x else match x with
 | .own id ext off len=>(match H[id]? with
  | some (.live _ _ es)=>if AV.bM 0 ((es.drop off).take len)=true then pk 6 H (.own id ext off len) else none
  | _=>none)
 | _=>none
def jJ (H:List Obj):List AV->Option (List AV)
 | []=>some []
 | x::xs=>(match ki H x,jJ H xs with | some y,some ys=>some (y::ys) | _,_=>none)
def kV (H:List Obj) (as:List AV):Bool:=(jJ H as).isSome
def uf:AV->Bool
 | .agg cs=>AV.iX cs
 | .ro es=>es.all AV.iX
 | .bx=>true
 | _=>false
def mkObj (cI:CI) (f:Nat) (as:List AV) (pl:Nat) (H:List Obj):Option (AV×List Obj):=
 match jJ H as with
 | some ys=>(match cI f (.ax 0 0 0 0::ys) with
  | some (.bk [.ax 0 0 sz 0,x])=>if (AV.aS 0 as||uf x)=true then ue pl H sz x else none
  | _=>none)
 | none=>none
def jB (t:Nat) (s:St):Option St:=
 match s.tmps.getD t .any with
 | .own id ext off len=>
  (match aH s.H id with
   | some (_,es)=>if ext=es.length/\AV.bM 0 ((es.drop off).take len)=true/\(cw s.H id).free=true then
    some ⟨s.tmps.set t (qJ (cw s.H id) es ((es.drop off).take len)),s.H.set id .dead⟩ else none
   | none=>none)
 | _=>some s
def eA (w:List Nat):Option (AV×List Obj)->Option (AV×List Obj)
 | some (v,H1)=>if ((refs v).all fun i=>w.contains i)=true then (match jB 0 ⟨[v],H1⟩ with
  | some ⟨[r],H2⟩=>some (r,H2)
  | _=>none) else none
 | none=>none
def eW (G:Nat->List AV) (cI:CI) (pl:Nat) (x:RO) (t:List AV) (H:List Obj):Option (AV×List Obj):=
 match x with
 | .qH f args=>mkObj cI f (args.map (·.ev G t)) pl H
 | .kO sz bytes a b=>eA (pl::refs (a.ev G t)) (evalW G t H pl (.app sz bytes a b))
 | .lQ sz z len parts=>eA [pl] (evalW G t H pl (.sY sz z len parts))
 | .call f args=>if kV H (args.map (·.ev G t))=true then evalOp G (fun _=>false) cI (fun _ _ _=>none) pl (.call f args) t H else none
 | x=>evalOp G (fun _=>false) cI (fun _ _ _=>none) pl x t H
def pq (G:Nat->List AV) (cI:CI) (pl:Nat) (o:bD) (t:List AV) (H:List Obj):Option (AV×List Obj×FP):=
 match want t o.guard with
 | some true=>if qO H pl o.op=true then
  (match eW G cI pl o.op t H with
   | some (v,H')=>some (v,H',dZ G t pl o.op)
   | none=>none) else none
 | some false=>some (.bk [],H,{})
 | none=>none
def fU (G:Nat->List AV) (cI:CI) (b:Nat):List (Nat×bD)->List AV->List Obj->Option (List AV×List Obj×List FP)
 | [],t,H=>some (t,H,[])
 | (k,o)::os,t,H=>
  match pq G cI (b+k) o t H with
  | some (v,H',f)=>(match fU G cI b os (cO t o.dst v) H' with
   | some (t',TC,fs)=>some (t',TC,f::fs)
   | none=>none)
  | none=>none
def fN (fs:List FP) (ps:List (Nat×Nat)):Bool:=ps.all fun (i,j)=>eD (fs.getD i {}) (fs.getD j {})
def fe:List Nat->List AV->List AV
 | [],t=>t
 | d::ds,t=>fe ds (t.set d .any)
def AV.CW (n:Nat):List (AV×AV)->Bool
 | []=>true
 | (x,y)::r=>x.bA n&&(y.bA n&&AV.CW n r)
def Obj.bA (n:Nat):Obj->Bool
 | .live _ _ es=>AV.bM n es
 | .mp es=>AV.CW n es
 | .lp _ t _ _ _=>AV.aS n t
 | _=>true
def bZ (n:Nat):List Obj->Bool
 | []=>true
 | o::os=>o.bA n&&bZ n os
def Tv:List Nat->St->St
 | [],s=>s
 | t::ts,s=>Tv ts ⟨s.tmps.set t (s.tmps.getD t .any).wk,Lo s.H (s.tmps.getD t .any)⟩
def sn (t:Nat) (s:St):Option St:=
 match s.tmps.getD t .any with
 | .ax id 1 0 0=>(match s.H[id]? with
  | some (.live .norm _ [cs])=>if AV.aS 0 cs=true then some ⟨s.tmps.set t (.bV cs),s.H.set id .dead⟩ else none
  | _=>none)
 | _=>none
def mark (f:Fl->Fl) (H:List Obj) (id:Nat):List Obj:=match H[id]? with
 | some (.live nl sz es)=>H.set id (.live (f nl) sz es)
 | _=>H
def uc:List Obj->Bool
 | []=>true
 | .live nl _ _::r=> !nl.Ad&&uc r
 | _::r=>uc r
def c9 (base:Nat) (s:St):GA->Option St
 | .sh t=>(match s.tmps.getD t .any with
  | .own id _ _ _=>(match aH s.H id with | some (_,_::_)=>some ⟨s.tmps,mark Fl.sh s.H id⟩ | _=>some s)
  | _=>some s)
 | .res t=>(match s.tmps.getD t .any with
  | .own id _ _ _=>if uc (s.H.drop (id+1))=true then some ⟨s.tmps,mark Fl.res s.H id⟩ else some s
  | _=>some s)
 | .wk l=>some (Tv l s)
 | .kill l=>some ⟨fe l s.tmps,s.H⟩
 | .aj n=>if Nat.blt (base+n) s.H.length&&(AV.aS (base+n) s.tmps&&bZ (base+n) (s.H.take (base+n))) then some ⟨s.tmps,s.H.take (base+n)⟩ else some s
 | .jx t=>(match jB t s with | some s'=>some s' | none=>some s)
 | .aB t=>(match sn t s with | some s'=>some s' | none=>some s)
 | .prom t sz=>(match s.tmps.getD t .any with
  | .bx=>some ⟨s.tmps.set t (.own s.H.length 0 0 0),s.H++[.live .nil sz []]⟩
  | _=>some s)
 | .fK t off sz=>(match s.tmps.getD t .any with
  | .ax id ext e o=>(match loadAt s.H 1 false (.ax id ext e (o+off)) with
   | some .bx=>(match storeAt (s.H++[.live .nil sz []]) 1 (.ax id ext e (o+off)) (.own s.H.length 0 0 0) with
    | some H'=>some ⟨s.tmps,H'⟩
    | none=>none)
   | _=>some s)
  | _=>some s)
 | .iQ t off=>(match s.tmps.getD t .any with
  | .ax id ext e o=>(match loadAt s.H 1 false (.ax id ext e (o+off)) with
   | some (.own j ext' off' len')=>if j=id then none else (match jB 0 ⟨[.own j ext' off' len'],s.H⟩ with
    | some ⟨[r],H1⟩=>(match storeAt H1 1 (.ax id ext e (o+off)) r with
     | some H'=>some ⟨s.tmps,H'⟩
     | none=>none)
    | _=>some s)
   | _=>some s)
  | _=>some s)
 | .cut t=>(match s.tmps.getD t .any with
  | .own id ext 0 len=>(match s.H[id]? with
   | some (.live .norm sz es)=>if (Nat.ble base id&&Nat.beq (id+1) s.H.length)&&(Nat.beq ext es.length&&Nat.ble len ext)&&(AV.aS id (s.tmps.set t .any)&&bZ id (s.H.take id))&&AV.bM id es then
    some ⟨s.tmps.set t (.own id len 0 len),s.H.set id (.live .norm sz (es.take len))⟩ else none
   | _=>none)
  | _=>none)
def ie (base:Nat):List GA->St->Option St
 | [],s=>some s
 | g::gs,s=>match c9 base s g with | some s'=>ie base gs s' | none=>none
def cF (rs:List (Sum Nat (Nat×Nat×Bool))) (s:St):Option (List AV):=
 match rs with
 | []=>some []
 | .inl t::r=>(match cF r s with | some l=>some (s.tmps.getD t .any::l) | none=>none)
 | .inr (t,n,ag)::r=>(match loadAt s.H n ag (s.tmps.getD t .any),cF r s with | some v,some l=>some (v::l) | _,_=>none)
def oneOf:List AV->AV
 | [v]=>v
 | l=> .bk l
def start (rf:RF) (args:List AV):List AV:=args++List.replicate (rf.ntmps - args.length) .any
abbrev EX:=RC->Nat->St->Option (Ex×St)
def pH (H:List Obj):AV->Option AV
 | .ax j 1 0 0=>(match H[j]? with
  | some (.live .norm _ [cs])=>if AV.aS 0 cs=true then some (.bk [.ax 0 0 0 0,.agg cs]) else none
  | _=>none)
 | .bx=>some (.bk [.ax 0 0 0 0,.bx])
 | .own j ext off len=>(match H[j]? with
  | some (.live fl sz es)=>if off=0/\ext=es.length/\len=ext then
   (match es with
    | []=>if fl= .nil then some (.bk [.ax 0 0 0 0,.bx]) else if fl= .norm then some (.bk [.ax 0 0 sz 0,.ro []]) else none
    | _::_=>if (fl= .norm\/fl= .nil)/\AV.bM 0 es=true then some (.bk [.ax 0 0 sz 0,.ro es]) else none)
   else none
  | _=>none)
 | _=>none
def TD (ex:EX) (rf:RF) (args:List AV):Option AV:=match args with
 | .ax 0 0 0 0::as=>if as.length=rf.nargs then
  (match ex rf.body 0 ⟨start rf as,[]⟩ with
   | some (.exit _,_)=>none
   | some (_,s')=>(match cF rf.results s' with
    | some [v]=>pH s'.H v
    | _=>none)
   | none=>none)
  else none
 | _=>none
def lO (fns:Nat->Option RF) (ex:EX):CI:=fun f args=>match fns f with
 | some rf=>if args.length=rf.nargs then
  (match ex rf.body 0 ⟨start rf args,[]⟩ with
   | some (.exit _,_)=>none
   | some (_,s')=>(match cF rf.results s' with | some l=>pack s'.H (oneOf l) | none=>none)
   | none=>none)
  else TD ex rf args
 | none=>none
def sP:List Nat->List AV->List AV->List AV
 | p::ps,x::xs,t=>sP ps xs (t.set p x)
 | _,_,t=>t
def iZ (x y:Ls) (H:List Obj) (l:Nat):Option (List Obj):=match H[l]? with
 | some (.lp s t ps b9 body)=>if s=x then some (H.set l (.lp y t ps b9 body)) else none
 | _=>none
def S7 (ex:EX) (args:List AV) (H:List Obj):Option (AV×List Obj):=match args with
 | .eI l::xs=>(match H[l]? with
  | some (.lp .ready t ps b9 body)=>if xs.length=ps.length then
   (match ex b9 H.length ⟨sP ps xs t,H⟩ with
    | some (.normal,s1)=>(match iZ .ready .busy s1.H l with
     | some H1=>(match ex body H.length ⟨s1.tmps,H1⟩ with
      | some (.normal,s2)=>(match iZ .busy .ready s2.H l with | some H2=>some (.bool true,H2) | none=>none)
      | some (e,s2)=>(match iZ .busy (.done e) s2.H l with | some H2=>some (.bool false,H2) | none=>none)
      | none=>none)
     | none=>none)
    | _=>none) else none
  | _=>none)
 | _=>none
def yy (fns:Nat->Option RF) (ex:EX):CH:=fun f args H=>match f with
 | none=>S7 ex args H
 | some f=>match fns f with
 | some rf=>if args.length=rf.nargs then
  (match ex rf.body H.length ⟨start rf args,H⟩ with
   | some (.exit _,_)=>none
   | some (_,s')=>(match cF rf.results s' with | some l=>some (oneOf l,s'.H) | none=>none)
   | none=>none)
  else none
 | none=>none
def ke (H:List Obj) (l:Nat):Option Ex:=match H[l]? with
 | some (.lp .ready _ _ _ _)=>some .normal
 | some (.lp (.done e) _ _ _ _)=>some e
 | _=>none
def exec (E:Env) (hp:Nat->Bool):Nat->EX
 | 0,_,_,_=>none
 | n+1,c,base,s=>
  match c with
  | .bad=>none
  | .skip=>some (.normal,s)
  | .ret=>some (.ret,s)
  | .exit id=>some (.exit id,s)
  | .seq a b=>(match exec E hp n a base s with
   | some (.normal,s')=>exec E hp n b base s'
   | r=>r)
  | .cond x a b=>(match x.ev E.aI s.tmps with
   | .bool true=>exec E hp n a base s
   | .bool false=>exec E hp n b base s
   | _=>none)
  | .block id b=>(match exec E hp n b base s with
   | some (.exit i,s')=>if i=id then some (.normal,s') else some (.exit i,s')
   | r=>r)
  | .loop b=>(match exec E hp n b base s with
   | some (.normal,s')=>exec E hp n (.loop b) base s'
   | r=>r)
  | .sZ ops=>(match bP E.aI hp (lO E.fns (exec E hp n)) (yy E.fns (exec E hp n)) ops s.tmps s.H with
   | some (t,H)=>some (.normal,⟨t,H⟩)
   | none=>none)
  | .draw ops=>(match bP E.aI (fun _=>false) (lO E.fns (exec E hp n)) (fun _ _ _=>none) ops s.tmps s.H with
   | some (t,H)=>some (.normal,⟨t,H⟩)
   | none=>none)
  | .iY ops bf=>(match tU E.aI hp (lO E.fns (exec E hp n)) (yy E.fns (exec E hp n)) bf ops 0 [] [] s.tmps s.H with
   | some (t,H)=>some (.normal,⟨t,H⟩)
   | none=>none)
  | .jI ops k ps=>(match fU E.aI (lO E.fns (exec E hp n)) s.H.length ops s.tmps (s.H++List.replicate k .gB) with
   | some (t,H,fs)=>if fN fs ps=true then some (.normal,⟨t,H⟩) else none
   | none=>none)
  | .gh pre r post=>(match ie base pre s with
   | some s0=>(match exec E hp n r base s0 with
    | some (.normal,s')=>(match ie base post s' with | some s''=>some (.normal,s'') | none=>none)
    | r=>r)
   | none=>none)
  | .yB g ps b9 body=>(match g.ev E.aI s.tmps with
   | .fn f cap=>(match yy E.fns (exec E hp n) (some f) (.eI s.H.length::cap) (s.H++[.lp .ready s.tmps ps b9 body]) with
    | some (_,H')=>(match ke H' s.H.length with
     | some e=>some (e,⟨s.tmps,H'.set s.H.length .dead⟩)
     | none=>none)
    | none=>none)
   | _=>none)
structure Hint where
 pre:List GA:=[]
 post:List GA:=[]
 mid:List (Nat×List GA):=[]
 deriving Inhabited
def simple:Value->AV
 | .bool b=> .bool b
 | .int k n=> .int k n
 | .string s=> .str s.data.toList
 | .pointer none=> .gA
 | .slice none 0 0=> .bx
 | .nilFunc=> .jX
 | .nilIface=> .lZ
 | _=> .any
def ofValue:Value->AV
 | .agg cs=> .agg (cs.toList.map simple)
 | v=>simple v
def cx:Operand->RX
 | .tmp t=> .t t
 | .const v=> .c (ofValue v)
 | .global g=> .g g
 | .func f=> .c (.fn f [])
section
variable (P:Program)
def cV (t:TypeId):Option Nat:=match P.info? t with | some i=>some i.size | none=>none
def mb (t:TypeId):Option Bool:=match P.underlying t with
 | some (.struct _) | some (.array _ _)=>some true
 | some _=>some false
 | none=>none
def zeroOf (t:TypeId):Option (List AV):=match P.info? t with
 | some i=>(match i.zero with | some v=>some (v.cells.toList.map simple) | none=>none)
 | none=>none
def bytesOf (t:TypeId):Option Nat:=match P.info? t with | some i=>some i.bytes | none=>none
def compFields (fs:Array Field):List (Nat×Operand)->Option (List (Nat×Nat×RX))
 | []=>some []
 | (j,x)::r=>match fs[j]?,compFields fs r with
  | some f,some l=>(match cV P f.type with | some n=>some ((f.offset,n,cx x)::l) | none=>none)
  | _,_=>none
mutual
def eV:Nat->TypeId->Option (List CK)
 | 0,_=>none
 | d+1,t=>(match P.underlying t with
  | some .bool=>some [.bool]
  | some (.int k)=>some [.int k]
  | some .string=>some [.str]
  | some (.struct fs)=>if P.stoodInHeld t then none else (match gM d 0 fs.toList with | some ks=>if cV P t=some ks.length then some ks else none | none=>none)
  | some (.array n e)=>(match eV d e,cV P e with
   | some ks,some sz=>if ks.length=sz/\cV P t=some (n*sz) then some (List.replicate n ks).flatten else none
   | _,_=>none)
  | _=>none)
def gM:Nat->Nat->List Field->Option (List CK)
 | _,_,[]=>some []
 | 0,_,_::_=>none
 | d+1,off,f::fs=>if f.name== "_" then none else (match eV d f.type,cV P f.type with
  | some ks,some sz=>if ks.length=sz/\f.offset=off then (match gM d (off+sz) fs with | some l=>some (ks++l) | none=>none) else none
  | _,_=>none)
end
def eM (neg:Bool) (t:TypeId) (x y:RX):RO:=
 match P.underlying t with
 | some (.int _) | some .string=> .bin (if neg then .neq else .eql) x y
 | some .bool=> .D0 neg x y
 | some (.slice _)=> .yz neg x y
 | some (.pointer _)=> .D1 neg x y
 | some (.struct _) | some (.array _ _)=>(match eV P 12 t with | some ks=>if P.eqGuardType P.depth t then .bad else .Aa neg ks x y | none=> .bad)
 | _=> .bad
def deep (P:Program) (e:TypeId):Bool:=match P.underlying e with
 | some (.slice e2)=>(match cV P e2 with | some n=>Nat.ble 2 n | none=>false)
 | _=>false
def FM (t:TypeId):Option CK:=match P.underlying t with
 | some .bool=>some .bool
 | some (.int k)=>some (.int k)
 | some .string=>some .str
 | _=>none
def cq (o:Oper):RO:=
 match o.op with
 | .move x | .assign x=> .DZ (cx x)
 | .pick c a b=> .pick (cx c) (cx a) (cx b)
 | .box _ x=> .box (cx x)
 | .alloc e=>(match zeroOf P e with | some z=> .alloc z | none=> .bad)
 | .build t parts=>
  (match zeroOf P t,P.underlying t with
   | some z,some (.struct fs)=>if fs.toList.all (fun f=>(cV P f.type).isSome) then (match compFields P fs parts.toList with | some l=> .build z l | none=> .bad) else .bad
   | some z,some (.array _ e)=>(match cV P e with | some sz=> .build z (parts.toList.map fun (i,x)=>(i*sz,sz,cx x)) | none=> .bad)
   | _,_=> .bad)
 | .buildSlice t len parts=>
  (match P.underlying t with
   | some (.slice e)=>(match cV P e,zeroOf P e with
    | some sz,some z=>if sz=1/\deep P e=true then .yM z len (parts.toList.map fun (i,x)=>(i,cx x)) else .sY sz z len (parts.toList.map fun (i,x)=>(i,cx x))
    | _,_=> .bad)
   | _=> .bad)
 | .load t a=>(match cV P t,mb P t with | some n,some ag=> .load n ag (cx a) | _,_=> .bad)
 | .store t a x=>(match cV P t with | some n=> .store n (cx a) (cx x) | none=> .bad)
 | .binOp op xt x y _=>
  (match op with
   | .eql=>eM P false xt (cx x) (cx y)
   | .neq=>eM P true xt (cx x) (cx y)
   | op=> .bin op (cx x) (cx y))
 | .unOp op _ x=> .un op (cx x)
 | .nilCheck x=> .oh (cx x)
 | .convert src dst x=>(match P.underlying src,P.underlying dst with
  | some _,some (.int k)=> .conv k (cx x)
  | some (.int _),some .string=> .FA (cx x)
  | some (.slice e),some .string=>(match P.underlying e with | some (.int .u8)=> .z6 (cx x) | _=> .bad)
  | _,_=> .bad)
 | .field xt x f=>
  (match P.underlying xt with
   | some (.struct fs)=>(match fs[f]? with
    | some fd=>(match cV P fd.type,mb P fd.type with | some n,some ag=> .Ol fd.offset n ag (cx x) | _,_=> .bad)
    | none=> .bad)
   | _=> .bad)
 | .fieldAddr s x f=>
  (match P.underlying s with
   | some (.struct fs)=>(match fs[f]? with
    | some fd=>(match cV P fd.type with | some (_+1)=> .sX fd.offset (cx x) | _=> .bad)
    | none=> .bad)
   | _=> .bad)
 | .indexAddr t x i=>
  (match P.underlying t with
   | some (.array len e)=>(match cV P e with | some sz=> .kN len sz (cx x) (cx i) | none=> .bad)
   | some (.slice e)=>(match cV P e with | some sz=> .iu sz (cx x) (cx i) | none=> .bad)
   | _=> .bad)
 | .index xt x i=>
  (match P.underlying xt with
   | some (.array len e)=>(match cV P e,mb P e with | some n,some ag=> .lW len n ag (cx x) (cx i) | _,_=> .bad)
   | some .string=> .nN (cx x) (cx i)
   | _=> .bad)
 | .slice xt x lo hi none=>
  (match P.underlying xt with
   | some .string=> .nO (cx x) (lo.map cx) (hi.map cx)
   | some (.slice e)=>(match cV P e with | some sz=> .slc sz (cx x) (lo.map cx) (hi.map cx) | none=> .bad)
   | some (.array n e)=>(match cV P e with | some sz=> .j7 n sz (cx x) (lo.map cx) (hi.map cx) | none=> .bad)
   | _=> .bad)
 | .makeMap _ none=> .FB
 | .lookup t m x ok=>
  (match P.underlying t with
   | some (.map k e)=>(match FM P k,(P.info? e).bind (·.zero) with | some c,some z=> .ia c (ofValue z) ok (cx m) (cx x) | _,_=> .bad)
   | _=> .bad)
 | .mapUpdate t m x v=>
  (match P.underlying t with
   | some (.map k _)=>(match FM P k with | some c=> .hY c (cx m) (cx x) (cx v) | none=> .bad)
   | _=> .bad)
 | .range t x=>(match P.underlying t with | some .string=> .Cq (cx x) | _=> .bad)
 | .next x true=> .sK (cx x)
 | .makeFunc (.func f) first cap=>if first.isEmpty then .Lx f (cap.toList.map cx) else if cap.isEmpty then .Om f (first.toList.map cx) else .bad
 | .makeSlice t l c=>
  (match P.underlying t with
   | some (.slice e)=>(match cV P e,zeroOf P e,bytesOf P e with
    | some sz,some z,some b=> .D2 sz z b (cx l) (cx c)
    | _,_,_=> .bad)
   | _=> .bad)
 | .call c=>
  (match c.callee with
   | .value (.func f)=> .call f (c.args.toList.map cx)
   | .value x=> .fJ (cx x) (c.args.toList.map cx)
   | .builtin .len=>
    (match c.argTypes[0]?,c.args.toList with
     | some t,[x]=>(match P.underlying t with
      | some .string=> .len true (cx x)
      | some (.slice _)=> .len false (cx x)
      | some (.array n _)=> .DZ (.c (.int .i64 n))
      | some (.map _ _)=> .iP (cx x)
      | _=> .bad)
     | _,_=> .bad)
   | .builtin .append=>
    (match c.argTypes[0]?,c.argTypes[1]?,c.args.toList with
     | some t,some u,[s,x]=>(match P.underlying t,P.underlying u with
      | some (.slice e),some (.slice _)=>(match cV P e,bytesOf P e,zeroOf P e with | some sz,some b,some z=>if z.length=sz then .app sz b (cx s) (cx x) else .bad | _,_,_=> .bad)
      | some (.slice e),some .string=>(match cV P e,bytesOf P e,zeroOf P e with | some sz,some b,some z=>if z.length=sz then .app sz b (cx s) (cx x) else .bad | _,_,_=> .bad)
      | some (.slice e),some (.int _)=>(match cV P e,bytesOf P e,zeroOf P e with | some sz,some b,some z=> .qL sz z b (cx s) (cx x) | _,_,_=> .bad)
      | _,_=> .bad)
     | _,_,_=> .bad)
   | .builtin .min=> .mn (c.args.toList.map cx)
   | .builtin .max=> .mx (c.args.toList.map cx)
   | .builtin .cap=>
    (match c.argTypes[0]?,c.args.toList with
     | some t,[x]=>(match P.underlying t with
      | some (.slice _)=> .CP (cx x)
      | _=> .bad)
     | _,_=> .bad)
   | _=> .bad)
 | .extract x i=> .ext (cx x) i
 | _=> .bad
def ug (ops:Array Oper) (j:Nat):Option Nat:=match ops[j]? with | some o=>o.dst | none=>none
def aF (ops:Array Oper) (o:Oper):bD:=
 match o.guard with
 | none=>⟨o.dst,none,cq P o⟩
 | some (j,b)=>match ug ops j with
  | some d=>⟨o.dst,some (d,b),cq P o⟩
  | none=>⟨o.dst,none,.bad⟩
def _root_.Go.Am.RO.ops:RO->List RX
 | .bad=>[]
 | .DZ x=>[x]
 | .pick c a b=>[c,a,b]
 | .box x=>[x]
 | .alloc _=>[]
 | .build _ parts=>parts.map (·.2.2)
 | .sY _ _ _ parts=>parts.map (·.2)
 | .lQ _ _ _ parts=>parts.map (·.2)
 | .yM _ _ parts=>parts.map (·.2)
 | .load _ _ a=>[a]
 | .store _ a x=>[a,x]
 | .bin _ x y=>[x,y]
 | .un _ x=>[x]
 | .Aa _ _ x y=>[x,y]
 | .D0 _ x y=>[x,y]
 | .yz _ x y=>[x,y]
 | .D1 _ x y=>[x,y]
 | .oh x=>[x]
 | .conv _ x=>[x]
 | .Ol _ _ _ x=>[x]
 | .sX _ x=>[x]
 | .iu _ x i=>[x,i]
 | .kN _ _ x i=>[x,i]
 | .lW _ _ _ x i=>[x,i]
 | .nN x i=>[x,i]
 | .slc _ x lo hi=>x::(lo.toList++hi.toList)
 | .nO x lo hi=>x::(lo.toList++hi.toList)
 | .j7 _ _ x lo hi=>x::(lo.toList++hi.toList)
 | .Lx _ cap=>cap
 | .Om _ l=>l
 | .D2 _ _ _ l c=>[l,c]
 | .len _ x=>[x]
 | .app _ _ s x=>[s,x]
 | .kO _ _ s x=>[s,x]
 | .qL _ _ _ s n=>[s,n]
 | .CP x=>[x]
 | .mn l=>l
 | .mx l=>l
 | .call _ args=>args
 | .fJ f args=>f::args
 | .qH _ args=>args
 | .ext x _=>[x]
 | .FB=>[]
 | .ia _ _ _ m x=>[m,x]
 | .hY _ m x v=>[m,x,v]
 | .iP m=>[m]
 | .Cq x=>[x]
 | .sK x=>[x]
 | .FA x=>[x]
 | .z6 x=>[x]
def Da:RX->Option Nat
 | .t n=>some n
 | _=>none
def cB (o:bD):List Nat:=(match o.guard with | some (s,_)=>[s] | none=>[])++o.op.ops.filterMap Da
def jG (d:Option Nat) (l:List Nat):Bool:=match d with | some d=> !(l.contains d) | none=>true
def ow (d e:Option Nat):Bool:=match d,e with | some d,some e=>d !=e | _,_=>true
def kq (a b:Kind):Bool:=
 match a,b with
 | .pure,_ | _,.pure=>true
 | .write,_ | _,.write=>false
 | _,_=>true
def free (a b:bD):Bool:=
 jG a.dst (cB b)&&jG b.dst (cB a)&&ow a.dst b.dst&&kq a.op.kind b.op.kind
def fc (m:Region.Mode) (ops:Array Oper) (j9:Nat->Nat):Bool:=
 (List.range ops.size).all fun i=>match ops[i]? with
  | some o=>o.after.toList.all fun e=> !(Region.binds m e)||(e.on < ops.size&&j9 e.on < j9 i)
  | none=>true
def zz (bf:List Nat) (bz:List bD):Bool:=
 (List.range bz.length).all fun j=>(List.range j).all fun i=>
  (bf.getD j 0).testBit i||(match bz[i]?,bz[j]? with | some a,some b=>free a b | _,_=>false)
def xj (i:Nat):List Nat->Nat
 | []=>0
 | x::xs=>if x=i then 0 else xj i xs+1
def mD (ops:Array Oper) (bz:List bD):Bool:=
 fc .any ops (fun i=>i)&&fc .text ops (fun i=>i)&&
  (let l:=Region.linearise .gc ops 0;fc .gc ops (fun i=>xj i l))&&zz (Region.before ops).toList bz
def AD (a b:bD):Bool:=
 jG a.dst (cB b)&&jG b.dst (cB a)&&ow a.dst b.dst&&(decide (a.op.kind= .pure)||decide (b.op.kind= .pure)||(decide (a.op.kind= .read)&&decide (b.op.kind= .read)))
def uY (bf:List Nat) (bz:List bD):Bool:=
 (List.range bz.length).all fun j=>(List.range j).all fun i=>
  (bf.getD j 0).testBit i||(match bz[i]?,bz[j]? with | some a,some b=>AD a b | _,_=>false)
def pS (ops:Array Oper) (bz:List bD):Bool:=
 fc .any ops (fun i=>i)&&fc .text ops (fun i=>i)&&
  (let l:=Region.linearise .gc ops 0;fc .gc ops (fun i=>xj i l))&&uY (Region.before ops).toList bz
def cT (a b:bD):Bool:=jG a.dst (cB b)&&jG b.dst (cB a)&&ow a.dst b.dst
def uZ (bf:List Nat) (bz:List bD):Bool:=
 (List.range bz.length).all fun j=>(List.range j).all fun i=>
  bit bf j i||(match bz[i]?,bz[j]? with | some a,some b=>cT a b&& !(cJ a&&cJ b) | _,_=>false)
def pT (ops:Array Oper) (bz:List bD):Bool:=
 fc .any ops (fun i=>i)&&fc .text ops (fun i=>i)&&
  (let l:=Region.linearise .gc ops 0;fc .gc ops (fun i=>xj i l))&&((List.range bz.length).all fun i=>Nat.blt ((Region.before ops).toList.getD i 0) (2 ^ i))&&uZ (Region.before ops).toList bz
def A9 (bf:List Nat) (bz:List bD):List (Nat×Nat):=
 ((List.range bz.length).map fun j=>(List.range j).filterMap fun i=>
   if (bf.getD j 0).testBit i then none else match bz[i]?,bz[j]? with
    | some a,some b=>if kq a.op.kind b.op.kind then none else some (i,j)
    | _,_=>none).flatten
def u0 (bf:List Nat) (bz:List bD) (ps:List (Nat×Nat)):Bool:=
 (List.range bz.length).all fun j=>(List.range j).all fun i=>
  (bf.getD j 0).testBit i||(match bz[i]?,bz[j]? with
   | some a,some b=>cT a b&&(kq a.op.kind b.op.kind||ps.contains (i,j))
   | _,_=>false)
def pU (ops:Array Oper) (bz:List bD) (ps:List (Nat×Nat)):Bool:=
 fc .any ops (fun i=>i)&&fc .text ops (fun i=>i)&&
  (let l:=Region.linearise .gc ops 0;fc .gc ops (fun i=>xj i l))&&u0 (Region.before ops).toList bz ps
def places:Nat->List bD->List (Nat×bD)
 | _,[]=>[]
 | k,o::os=>(k,o)::places (if o.op.dA then k+1 else k) os
def IM (bz:List bD):Nat:=(bz.filter fun o=>o.op.dA).length
def IN (js:List Nat) (ops:Array Oper) (bz:List bD):Bool:=
 match bz.getLast? with
 | some o=>decide (o.op.kind= .call)&&decide (bz.length=ops.size)&&((List.range (ops.size - 1)).all fun i=>((Region.before ops).toList.getD (ops.size - 1) 0).testBit i)&&
  ((match o.op with | .fJ ..=>true | _=>false)||(match ops.back? with | some p=>Nat.beq p.type 0 | none=>false)||(!(mD ops bz)||js.any (Nat.beq 999999)))
 | none=>false
def Kk (ops:Array Oper) (d:Option Nat):Bool:=match d with
 | none=>false
 | some d=>ops.toList.any fun o=>match o.op with
  | .call c=>(match c.callee,c.args.toList with
   | .builtin .append,.tmp t::_=>Nat.beq t d
   | _,_=>false)
  | _=>false
def HX (js:List Nat):Option Nat->Bool
 | some d=>js.any (Nat.beq d)
 | none=>false
def pz (js:List Nat) (ops:Array Oper) (o:Oper) (r:bD):bD:=match r.op with
 | .call f args=>(match P.underlying o.type with
  | some (.pointer _)=>{ r with op:= .qH f args }
  | some (.slice _)=>if Kk ops o.dst||HX js o.dst then { r with op:= .qH f args } else r
  | _=>r)
 | .app sz bytes a b=>if HX js o.dst then { r with op:= .kO sz bytes a b } else r
 | .sY sz z len parts=>if HX js o.dst then { r with op:= .lQ sz z len parts } else r
 | _=>r
def nY (js:List Nat) (ops:Array Oper) (l:List bD):List bD:=List.zipWith (pz P js ops) ops.toList l
def iL (js:List Nat) (ops:Array Oper) (first:List bD):RC:=
 if mD ops first&&(js.isEmpty&& !(first.any fun o=>decide (o.op.kind= .call))) then .draw first else
 if pS ops first&&js.isEmpty then .sZ first else
 if mD ops first&&js.isEmpty then .draw first else
 if pT ops first&&js.any (Nat.beq 999998) then .iY first (Region.before ops).toList else
 let fs:=nY P js ops first
 let ps:=A9 (Region.before ops).toList fs;if pU ops fs ps then .jI (places 0 fs) (IM fs) ps else .bad
def u5 (js:List Nat) (ops:Array Oper) (bz:List bD):RC:=
 if IN js ops bz then .seq (iL P (js.filter fun d=> !(Nat.beq 999999 d)) ops bz.dropLast) (.sZ (bz.drop (ops.size - 1))) else iL P js ops bz
def ig (hs:List (Nat×Hint)) (id:Nat):Hint:=
 match hs with
 | []=>{}
 | (i,h)::r=>if i=id then h else ig r id
def gr (h:Hint) (r:RC):RC:=
 if h.pre.isEmpty&&h.post.isEmpty then r else .gh h.pre r h.post
def iE:List (Nat×List GA)->List bD->RC
 | [],l=> .sZ l
 | (j,g)::r,l=> .seq (.gh [] (.sZ (l.take j)) g) (iE r (l.drop j))
def g8:Code->Option Nat
 | .region id _ _=>some id
 | .seq a b=>(match g8 a with | some r=>some r | none=>g8 b)
 | .cond _ a b=>(match g8 a with | some r=>some r | none=>g8 b)
 | .block _ b=>g8 b
 | .loop b=>g8 b
 | _=>none
def VG:Operand->Nat
 | .tmp t=>t
 | _=>999999
def Nd:Operand->Nat
 | .tmp t=>2000000+t
 | _=>1999999
def lV:Code->Bool
 | .seq a b=>lV a&&lV b
 | .cond _ a b=>lV a&&lV b
 | .block _ b=>lV b
 | .loop b=>lV b
 | .rangeFunc ..=>false
 | _=>true
def comp (hs:List (Nat×Hint)):Code->RC
 | .skip=> .skip
 | .region id ops dr=>
  gr (ig hs id)
   (if dr then u5 P ((ig hs id).mid.map (·.1)) ops (ops.toList.map (aF P ops))
    else iE (ig hs id).mid (ops.toList.map (aF P ops)))
 | .seq a b=> .seq (comp hs a) (comp hs b)
 | .cond c a b=>gr (ig hs (Nd c)) (.cond (cx c) (comp hs a) (comp hs b))
 | .block id b=>gr (ig hs (3000000+id)) (.block id (comp hs b))
 | .loop b=> .loop (gr (ig hs (1000000+(g8 b).getD 999999)) (comp hs b))
 | .exit id=> .exit id
 | .ret=> .ret
 | .rangeFunc g ps a b=>gr (ig hs (4000000+VG g)) (if lV a&&lV b then .yB (cx g) ps.toList (comp hs a) (comp hs b) else .bad)
 | _=> .bad
def CR (rc:RC) (code:Code):Prop:=∃ hs,comp P hs code=rc/\lV code=true
def iF:List ResultVar->Option (List (Sum Nat (Nat×Nat×Bool)))
 | []=>some []
 | .tmp t::r=>(match iF r with | some l=>some (.inl t::l) | none=>none)
 | .cell a t::r=>(match cV P t,mb P t,iF r with | some n,some ag,some l=>some (.inr (a,n,ag)::l) | _,_,_=>none)
def xh (hs:List (Nat×Hint)) (nargs:Nat) (fn:Func):Option RF:=
 match fn.body,iF P fn.results.toList with
 | some c,some rs=>if fn.name== "runtime.NumGoroutine" then none else some ⟨nargs,fn.ntmps,rs,comp P hs c⟩
 | _,_=>none
end
end Go.Am
end
section
namespace Go.Am
open Region
def qY (m:Region.Mode) (ops:Array Oper) (j9:Nat->Nat):Prop:=
 ∀ i o,ops[i]?=some o->∀ e∈o.after.toList,binds m e=true->e.on < ops.size/\j9 e.on < j9 i
structure UN (m:Region.Mode) (ops:Array Oper) (listed:Array Bool) (acc:List Nat):Prop where
 size:listed.size=ops.size
 nodup:acc.Nodup
 small:∀ i∈acc,i < ops.size
 mark:∀ i,i < ops.size->listed.getD i true=decide (i∈acc)
 order:∀ l1 i l2,acc=l2++i::l1->∀ o,ops[i]?=some o->∀ e∈o.after.toList,binds m e=true->e.on∈l1
theorem z3 {m:Region.Mode} {ops:Array Oper} {j9:Nat->Nat} (hr:qY m ops j9) (acc:List Nat):
 ∀ k i,j9 i=k->i < ops.size->i ∉ acc->
  ∃ j o,j < ops.size/\j ∉ acc/\ops[j]?=some o/\∀ e∈o.after.toList,binds m e=true->e.on∈acc:=by
 intro k;induction k using Nat.strongRecOn with
 | _ k ih=>
  intro i hk hi hn;obtain ⟨o,ho⟩:∃ o,ops[i]?=some o:=⟨_,Array.getElem?_eq_getElem hi⟩;by_cases h:∀ e∈o.after.toList,binds m e=true->e.on∈acc
  ·exact ⟨i,o,hi,hn,ho,h⟩
  ·simp only [Classical.not_forall] at h;obtain ⟨e,he,hb,hna⟩:=h;obtain ⟨h1,h2⟩:=hr i o ho e he hb;exact ih (j9 e.on) (hk▸h2) e.on rfl h1 hna
theorem go_ok {m:Region.Mode} {ops:Array Oper} {j9:Nat->Nat} (hr:qY m ops j9):
 ∀ fuel t listed acc,UN m ops listed acc->fuel+acc.length=ops.size->
  ∃ Fm acc',linearise.go m ops fuel t listed acc=acc'.reverse/\UN m ops Fm acc'/\acc'.length=ops.size:=by
 intro fuel;induction fuel with
 | zero=>intro t listed acc hI hf;exact ⟨listed,acc,rfl,hI,by omega⟩
 | succ fuel ih=>
  intro t listed acc hI hf;simp only [linearise.go];generalize Lq:(List.range ops.size).filter (fun i=> !listed.getD i true&&((ops[i]?).map (·.after.all fun e=> !binds m e||listed.getD e.on false)).getD false)=rs;have hmem:∀ i,i∈rs↔(i < ops.size/\i ∉ acc/\∃ o,ops[i]?=some o/\∀ e∈o.after.toList,binds m e=true->e.on∈acc):=by
   intro i;rw [<-Lq,List.mem_filter,List.mem_range];constructor
   ·rintro ⟨hi,hp⟩;obtain ⟨o,ho⟩:∃ o,ops[i]?=some o:=⟨_,Array.getElem?_eq_getElem hi⟩;simp only [ho,Option.map_some,Option.getD_some,Bool.and_eq_true,Bool.not_eq_true',hI.mark i hi,decide_eq_false_iff_not] at hp;refine ⟨hi,hp.1,o,ho,fun e he hb=>?_⟩;have h2:=hp.2;rw [<-Array.all_toList,List.all_eq_true] at h2;have h3:=h2 e he;simp only [hb,Bool.not_true,Bool.false_or] at h3;have Th:=(hr i o ho e he hb).1;have h4:=hI.mark e.on Th;have h5:listed.getD e.on true=listed.getD e.on false:=by
     have:e.on < listed.size:=by rw [hI.size];exact Th
     simp [Array.getD,this]
    rw [h5,h3] at h4;simpa using h4.symm
   ·rintro ⟨hi,hn,o,ho,hall⟩;refine ⟨hi,?_⟩;simp only [ho,Option.map_some,Option.getD_some,Bool.and_eq_true,Bool.not_eq_true',hI.mark i hi,decide_eq_false_iff_not];refine ⟨hn,?_⟩;rw [<-Array.all_toList,List.all_eq_true];intro e he;by_cases hb:binds m e=true
    ·have Th:=(hr i o ho e he hb).1;have h4:=hI.mark e.on Th;have h5:listed.getD e.on true=listed.getD e.on false:=by
      have:e.on < listed.size:=by rw [hI.size];exact Th
      simp [Array.getD,this]
     rw [h5] at h4;simp [hb,h4,hall e he hb]
    ·simp [hb]
  have hne:rs≠[]:=by
   intro h0;have:∃ i,i < ops.size/\i ∉ acc:=by
    refine Classical.byContradiction fun aeY=>?_
    have hall:∀ i,i < ops.size->i∈acc:=fun i hi=>Classical.byContradiction fun hn=>aeY ⟨i,hi,hn⟩
    have hsub:(List.range ops.size) ⊆ acc:=fun i hi=>hall i (List.mem_range.1 hi)
    have:=List.Nodup.length_le_of_subset (List.nodup_range (n:=ops.size)) hsub;simp at this;omega
   obtain ⟨i,hi,hn⟩:=this;obtain ⟨j,o,hj,hjn,ho,hall⟩:=z3 hr acc _ i rfl hi hn;have:=(hmem j).2 ⟨hj,hjn,o,ho,hall⟩;rw [h0] at this;simp at this
  have hlen:0 < rs.length:=List.length_pos_iff.2 hne;have hlt:t % rs.length < rs.length:=Nat.mod_lt _ hlen;rw [List.getElem?_eq_getElem hlt];generalize hi:rs[t % rs.length]=i;have hir:i∈rs:=hi▸List.getElem_mem hlt;obtain ⟨h1,h2,o,ho,hall⟩:=(hmem i).1 hir;refine ih _ _ _ ⟨?_,?_,?_,?_,?_⟩ (by simp;omega)
  ·simp [hI.size]
  ·exact List.nodup_cons.2 ⟨h2,hI.nodup⟩
  ·intro j hj;rcases List.mem_cons.1 hj with rfl | hj
   ·exact h1
   ·exact hI.small j hj
  ·intro j hj;by_cases hji:j=i
   ·subst hji;simp [Array.getD,hI.size,hj]
   ·have:=hI.mark j hj;have hij:¬ i=j:=fun h=>hji h.symm
    rw [Array.getD_eq_getD_getElem?] at this ⊢;rw [Array.getElem?_setIfInBounds,if_neg hij,this];simp [hji]
  ·intro l1 j l2 hacc o' ho' e he hb
   cases l2 with
   | nil=>
    simp only [List.nil_append,List.cons.injEq] at hacc;obtain ⟨rfl,rfl⟩:=hacc;rw [ho] at ho';injection ho' with ho';subst ho'
    exact hall e he hb
   | cons x l2=>
    simp only [List.cons_append,List.cons.injEq] at hacc;exact hI.order l1 j l2 hacc.2 o' ho' e he hb
theorem Dj {m:Region.Mode} {ops:Array Oper} {j9:Nat->Nat} (hr:qY m ops j9) (t:Nat):
 (linearise m ops t).Nodup/\(∀ i,i∈linearise m ops t↔i < ops.size)/\
  ∀ l1 i l2,linearise m ops t=l1++i::l2->∀ o,ops[i]?=some o->∀ e∈o.after.toList,binds m e=true->e.on∈l1:=by
 obtain ⟨Fm,acc',h1,hI,hlen⟩:=go_ok hr ops.size t (Array.replicate ops.size false) []
  ⟨by simp,List.nodup_nil,by simp,by intro i hi;simp [Array.getD,hi],by intro l1 i l2 h;simp at h⟩ (by simp)
 unfold linearise;rw [h1];refine ⟨List.nodup_iff_pairwise_ne.2 (List.pairwise_reverse.2 ((List.nodup_iff_pairwise_ne.1 hI.nodup).imp fun h=>h.symm)),fun i=>?_,fun l1 i l2 h o ho e he hb=>?_⟩
 ·rw [List.mem_reverse];refine ⟨hI.small i,fun hi=>?_⟩;refine Classical.byContradiction fun hn=>?_
  have h2:(i::acc').Nodup:=List.nodup_cons.2 ⟨hn,hI.nodup⟩;have hsub:(i::acc') ⊆ List.range ops.size:=by
   intro j hj;rcases List.mem_cons.1 hj with rfl | hj
   ·exact List.mem_range.2 hi
   ·exact List.mem_range.2 (hI.small j hj)
  have:=List.Nodup.length_le_of_subset h2 hsub;simp at this;omega
 ·have:acc'=l2.reverse++i::l1.reverse:=by
   have:=congrArg List.reverse h;simpa using this
  have:=hI.order _ _ _ this o ho e he hb;simpa using this
end Go.Am
end
