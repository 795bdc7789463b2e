/- Parts of my machine and its laws, joined: AmB AmC. No condition. -/
import Derived.Test.YtafgdbaekppjcaaGreatDoorAmAl
set_option linter.unusedSectionVars false
set_option linter.unusedVariables false
set_option linter.unusedSimpArgs false
section
namespace Go.Am
abbrev CI:=Nat->List AV->Option AV
abbrev CH:=Option Nat->List AV->List Obj->Option (AV×List Obj)
def bK (hp:Nat->Bool) (cI:CI) (cH:CH) (f:Nat) (args:List AV) (H:List Obj):Option (AV×List Obj):=
 if hp f=true then cH (some f) args H else
 match snaps H args with
 | some as'=>(match cI f as' with
  | some v=>if (AV.aT 0 args||v.flat)=true then some (v,H) else none
  | none=>none)
 | none=>cH (some f) args H
def aQ (G:Nat->List AV) (t:List AV):RO->Option AV
 | .F6 x=>some (x.ev G t)
 | .pick c a b=>(match c.ev G t with | .bool true=>some (a.ev G t) | .bool false=>some (b.ev G t) | _=>none)
 | .build z parts=>(match nv z (parts.map fun (o,n,x)=>(o,n,x.ev G t)) with | some cs=>some (.agg cs) | none=>none)
 | .bin op x y=>bin op (x.ev G t) (y.ev G t)
 | .un op x=>un op (x.ev G t)
 | .BZ neg ks x y=>BZ neg ks (x.ev G t) (y.ev G t)
 | .F7 neg x y=>F7 neg (x.ev G t) (y.ev G t)
 | .F8 neg x y=>F8 neg (x.ev G t) (y.ev G t)
 | .pF x=>pF (x.ev G t)
 | .conv k x=>(match x.ev G t with | .int _ n=>some (.int k (k.wrap n)) | _=>none)
 | .Rg off n ag x=>(match x.ev G t with | .agg cs=>part n ag cs off | _=>none)
 | .u0 off x=>u0 off (x.ev G t)
 | .mc len sz x i=>mc len sz (x.ev G t) (i.ev G t)
 | .nj len n ag x i=>nj len n ag (x.ev G t) (i.ev G t)
 | .oU x i=>oU (x.ev G t) (i.ev G t)
 | .oV x lo hi=>oV (x.ev G t) (lo.map (·.ev G t)) (hi.map (·.ev G t))
 | .N2 f cap=>some (.fn f (cap.map (·.ev G t)))
 | .Rh f l=>some (.b8 f (l.map (·.ev G t)))
 | .len st x=>(match qI st (x.ev G t) with | some n=>some (.int .i64 n) | none=>none)
 | .mn l=>(match l.map (·.ev G t) with | x::r=>jB min2 x r | []=>none)
 | .mx l=>(match l.map (·.ev G t) with | x::r=>jB max2 x r | []=>none)
 | .ext x i=>(match x.ev G t with | .bl vs=>vs[i]? | _=>none)
 | .HV x=>HV (x.ev G t)
 | .EJ x=>(match x.ev G t with | .bD=>some (.int .i64 0) | _=>none)
 | _=>none
def aR (G:Nat->List AV) (t:List AV) (H:List Obj):RO->Option AV
 | .load n ag a=>loadAt H n ag (a.ev G t)
 | .jb sz x i=>jb H sz (x.ev G t) (i.ev G t)
 | .slc sz x lo hi=>slc H sz (x.ev G t) (lo.map (·.ev G t)) (hi.map (·.ev G t))
 | .Ax neg x y=>Ax H neg (x.ev G t) (y.ev G t)
 | .kU len sz x lo hi=>kU H len sz (x.ev G t) (lo.map (·.ev G t)) (hi.map (·.ev G t))
 | _=>none
def evalW (G:Nat->List AV) (t:List AV) (H:List Obj) (pl:Nat):RO->Option (AV×List Obj)
 | .box x=>if aV (x.ev G t).cells=true then some (.aA pl 1 0 0,putObj H pl (.live .norm (x.ev G t).cells.length [(x.ev G t).cells])) else none
 | .alloc z=>if aV z=true then some (.aA pl 1 0 0,putObj H pl (.live .norm z.length [z])) else none
 | .u5 sz z len parts=>
  if z.length=sz/\aV z=true/\len*sz<=2 ^ 24 then
   (match kj sz (List.replicate len z) (parts.map fun (i,x)=>(i,x.ev G t)) with
    | some es=>some (.own pl len 0 len,putObj H pl (.live .norm sz es))
    | none=>none)
  else none
 | .store n a x=>(match storeAt H n (a.ev G t) (x.ev G t) with | some H'=>some (.bl [],H') | none=>none)
 | .F9 sz z bytes l c=>
  (match l.ev G t,c.ev G t with
   | .int .i64 n,.int .i64 m=>if n=m/\0<=n/\n*bytes<=2 ^ 40/\n<=2 ^ 40/\z.length=sz/\aV z=true then
    some (.own pl n.toNat 0 n.toNat,putObj H pl (.live .norm sz (List.replicate n.toNat z))) else none
   | _,_=>none)
 | .app sz bytes s x=>append H pl sz bytes (s.ev G t) (x.ev G t)
 | .AH z len parts=>
  if z.length=1/\aV z=true/\len*1<=2 ^ 24 then
   (match kj 1 (List.replicate len z) (parts.map fun (i,x)=>(i,x.ev G t)) with
    | some es=>if AV.bN 0 es=true then some (.ro es,H) else none
    | none=>none)
  else none
 | .sx sz z bytes s n=>
  (match s.ev G t,n.ev G t with
   | .bD,.int .i64 m=>if 0 < m/\m*bytes<=2 ^ 40/\m<=2 ^ 40/\z.length=sz/\aV z=true then
    some (.own pl m.toNat 0 m.toNat,putObj H pl (.live .norm sz (List.replicate m.toNat z))) else none
   | _,_=>none)
 | .HW=>some (.mp pl,putObj H pl (.mp []))
 | .iU k m x v=>(match iU H k (m.ev G t) (x.ev G t) (v.ev G t) with | some H'=>some (.bl [],H') | none=>none)
 | .Ek x=>(match x.ev G t with | .str s=>some (.qy pl,putObj H pl (.it s 0)) | _=>none)
 | .uH x=>uH H (x.ev G t)
 | .iV k z ok m x=>(match iV H k z ok (m.ev G t) (x.ev G t) with | some v=>some (v,H) | none=>none)
 | .jx m=>(match jx H (m.ev G t) with | some v=>some (v,H) | none=>none)
 | .BS x=>(match BS H (x.ev G t) with | some v=>some (v,H) | none=>none)
 | _=>none
inductive Kind where
 | pure | read | write | call
 deriving DecidableEq,Inhabited
def RO.kind:RO->Kind
 | .load .. | .Ax .. | .jb .. | .slc .. | .kU ..=> .read
 | .box _ | .alloc _ | .u5 .. | .store .. | .F9 .. | .app .. | .sx .. | .AH .. | .sj .. | .md .. | .mY .. | .bad | .HW | .iU .. | .Ek _ | .uH _ | .iV .. | .jx _ | .BS _=> .write
 | .call .. | .gr ..=> .call
 | _=> .pure
def evalOp (G:Nat->List AV) (hp:Nat->Bool) (cI:CI) (cH:CH) (pl:Nat) (x:RO) (t:List AV) (H:List Obj):Option (AV×List Obj):=
 match x.kind with
 | .pure=>(match aQ G t x with | some v=>some (v,H) | none=>none)
 | .read=>(match aR G t H x with | some v=>some (v,H) | none=>none)
 | .write=>evalW G t H pl x
 | .call=>
  match x with
  | .call f args=>bK hp cI cH f (args.map (·.ev G t)) H
  | .gr fx args=>(match fx.ev G t with
   | .fn f cap=>bK hp cI cH f (args.map (·.ev G t)++cap) H
   | .b8 f l=>bK hp cI cH f (l++args.map (·.ev G t)) H
   | .fI l=>cH none (.fI l::args.map (·.ev G t)) H
   | _=>none)
  | _=>none
def cY (t:List AV) (d:Option Nat) (v:AV):List AV:=
 match d with
 | some d=>t.set d v
 | none=>t
def want (t:List AV):Option (Nat×Bool)->Option Bool
 | none=>some true
 | some (s,b)=>match t.getD s .any with
  | .bool c=>some (c==b)
  | .bl []=>some false
  | _=>none
def bO (G:Nat->List AV) (hp:Nat->Bool) (cI:CI) (cH:CH):List bH->List AV->List Obj->Option (List AV×List Obj)
 | [],t,H=>some (t,H)
 | o::os,t,H=>
  match want t o.guard with
  | some true=>(match evalOp G hp cI cH H.length o.op t H with
   | some (v,H')=>bO G hp cI cH os (cY t o.dst v) H'
   | none=>none)
  | some false=>bO G hp cI cH os (cY t o.dst (.bl [])) H
  | none=>none
def iW (G:Nat->List AV) (hp:Nat->Bool) (cI:CI) (cH:CH) (o:bH) (t:List AV) (H:List Obj):Option (AV×List Obj):=
 match want t o.guard with
 | some true=>evalOp G hp cI cH H.length o.op t H
 | some false=>some (.bl [],H)
 | none=>none
mutual
def AV.same:AV->AV->Bool
 | .bool a,b=>(match b with | .bool b=>a==b | _=>false)
 | .int k a,b=>(match b with | .int j b=>decide (k=j)&&decide (a=b) | _=>false)
 | .str a,b=>(match b with | .str b=>decide (a=b) | _=>false)
 | .g7,b=>(match b with | .g7=>true | _=>false)
 | .bD,b=>(match b with | .bD=>true | _=>false)
 | .kL,b=>(match b with | .kL=>true | _=>false)
 | .nr,b=>(match b with | .nr=>true | _=>false)
 | .pJ,b=>(match b with | .pJ=>true | _=>false)
 | .mp a,b=>(match b with | .mp b=>Nat.beq a b | _=>false)
 | .any,b=>(match b with | .any=>true | _=>false)
 | .fI a,b=>(match b with | .fI b=>Nat.beq a b | _=>false)
 | .qy a,b=>(match b with | .qy b=>Nat.beq a b | _=>false)
 | .arr a c d e f i,b=>(match b with | .arr a' c' d' e' f' i'=>Nat.beq a a'&&Nat.beq c c'&&Nat.beq d d'&&Nat.beq e e'&&Nat.beq f f'&&Nat.beq i i' | _=>false)
 | .ro a,b=>(match b with | .ro b=>AV.pW a b | _=>false)
 | .own a c d e,b=>(match b with | .own a' c' d' e'=>Nat.beq a a'&&Nat.beq c c'&&Nat.beq d d'&&Nat.beq e e' | _=>false)
 | .bZ a,b=>(match b with | .bZ b=>AV.iL a b | _=>false)
 | .aA a c d e,b=>(match b with | .aA a' c' d' e'=>Nat.beq a a'&&Nat.beq c c'&&Nat.beq d d'&&Nat.beq e e' | _=>false)
 | .agg a,b=>(match b with | .agg b=>AV.iL a b | _=>false)
 | .bl a,b=>(match b with | .bl b=>AV.iL a b | _=>false)
 | .fn f a,b=>(match b with | .fn g b=>Nat.beq f g&&AV.iL a b | _=>false)
 | .b8 f a,b=>(match b with | .b8 g b=>Nat.beq f g&&AV.iL a b | _=>false)
def AV.iL:List AV->List AV->Bool
 | [],b=>(match b with | []=>true | _=>false)
 | x::xs,b=>(match b with | y::ys=>AV.same x y&&AV.iL xs ys | _=>false)
def AV.pW:List (List AV)->List (List AV)->Bool
 | [],b=>(match b with | []=>true | _=>false)
 | x::xs,b=>(match b with | y::ys=>AV.iL x y&&AV.pW xs ys | _=>false)
end
def cS (o:bH):Bool:=match o.op.kind with
 | .pure | .read=>false
 | _=>true
def m7 (G:Nat->List AV) (o:bH) (t:List AV):List Obj->Option AV:=fun A=>match want t o.guard with
 | some true=>aR G t A o.op
 | some false=>some (.bl [])
 | none=>none
def jz (g:List Obj->Option AV) (v:AV) (A:List Obj):Bool:=match g A with
 | some u=>AV.same u v
 | none=>false
def bit (bf:List Nat) (i k:Nat):Bool:=(bf.getD i 0).testBit k
def vQ (G:Nat->List AV) (hp:Nat->Bool) (cI:CI) (cH:CH) (bf:List Nat):List bH->Nat->List (Nat×(List Obj->Option AV)×AV)->List (Nat×List Obj×List Obj)->List AV->List Obj->Option (List AV×List Obj)
 | [],_,_,_,t,H=>some (t,H)
 | o::os,i,rs,hs,t,H=>
  match iW G hp cI cH o t H with
  | none=>none
  | some (v,H')=>match o.op.kind with
   | .pure=>vQ G hp cI cH bf os (i+1) rs hs (cY t o.dst v) H'
   | .read=>if (hs.all fun h=>bit bf i h.1||(jz (m7 G o t) v h.2.1&&jz (m7 G o t) v h.2.2))=true then
    vQ G hp cI cH bf os (i+1) ((i,m7 G o t,v)::rs) hs (cY t o.dst v) H' else none
   | _=>if (rs.all fun r=>bit bf i r.1||(jz r.2.1 r.2.2 H&&jz r.2.1 r.2.2 H'))=true then
    vQ G hp cI cH bf os (i+1) rs ((i,H,H')::hs) (cY t o.dst v) H' else none
structure FP where
 all:Bool:=false
 r:List Nat:=[]
 w:List Nat:=[]
 deriving Inhabited
def refs:AV->List Nat
 | .own id _ _ _=>[id]
 | .aA id _ _ _=>[id]
 | .arr id _ _ _ _ _=>[id]
 | .mp id=>[id]
 | .qy id=>[id]
 | _=>[]
def eF (G:Nat->List AV) (t:List AV) (pl:Nat):RO->FP
 | .load _ _ a=>{ r:=refs (a.ev G t) }
 | .jb _ x _=>{ r:=refs (x.ev G t) }
 | .slc _ x _ _=>{ r:=refs (x.ev G t) }
 | .kU _ _ x _ _=>{ r:=refs (x.ev G t) }
 | .Ax _ x y=>{ r:=refs (x.ev G t)++refs (y.ev G t) }
 | .box _=>{ w:=[pl] }
 | .alloc _=>{ w:=[pl] }
 | .u5 ..=>{ w:=[pl] }
 | .mY ..=>{ w:=[pl] }
 | .F9 ..=>{ w:=[pl] }
 | .store _ a _=>{ w:=refs (a.ev G t) }
 | .app _ _ s x=>{ r:=refs (x.ev G t),w:=pl::refs (s.ev G t) }
 | .md _ _ s x=>{ r:=refs (x.ev G t),w:=pl::refs (s.ev G t) }
 | .sx ..=>{ w:=[pl] }
 | .sj _ args=>{ r:=(args.map (·.ev G t)).flatMap refs,w:=[pl] }
 | .iV _ _ _ m _=>{ r:=refs (m.ev G t) }
 | .jx m=>{ r:=refs (m.ev G t) }
 | .BS x=>{ r:=refs (x.ev G t) }
 | .HW=>{ w:=[pl] }
 | .iU _ m _ _=>{ w:=refs (m.ev G t) }
 | .Ek _=>{ w:=[pl] }
 | .uH x=>{ w:=refs (x.ev G t) }
 | .call _ args=>{ r:=(args.map (·.ev G t)).flatMap refs }
 | .gr f args=>{ all:= !((f.ev G t).bp 0&&AV.aT 0 (args.map (·.ev G t))) }
 | _=>{}
def pX (a b:List Nat):Bool:=a.all fun x=> !(b.contains x)
def eX (a b:FP):Bool:=
 pX a.w b.r&&pX a.w b.w&&pX b.w a.r&&(!a.all||b.w.isEmpty)&&(!b.all||a.w.isEmpty)
def RO.ef:RO->Bool
 | .box _ | .alloc _ | .u5 .. | .F9 .. | .app .. | .sx .. | .sj .. | .md .. | .mY .. | .HW | .Ek _=>true
 | _=>false
def sB (H:List Obj) (pl:Nat) (x:RO):Bool:= !x.ef||(match H[pl]? with | some .iA=>true | _=>false)
def wh (pl:Nat) (H:List Obj) (sz:Nat):AV->Option (AV×List Obj)
 | .agg cs=>some (.aA pl 1 0 0,putObj H pl (.live .norm cs.length [cs]))
 | .bD=>some (.bD,H)
 | .ro es=>some (.own pl es.length 0 es.length,putObj H pl (.live .norm sz es))
 | _=>none
def lz (H:List Obj) (x:AV):Option AV:=
 if x.bp 0=true then some x else match x with
 | .own id ext off len=>(match H[id]? with
  | some (.live _ _ es)=>if AV.bN 0 ((es.drop off).take len)=true then pk 6 H (.own id ext off len) else none
  | _=>none)
 | _=>none
def ku (H:List Obj):List AV->Option (List AV)
 | []=>some []
 | x::xs=>(match lz H x,ku H xs with | some y,some ys=>some (y::ys) | _,_=>none)
def mu (H:List Obj) (as:List AV):Bool:=(ku H as).isSome
def wj:AV->Bool
 | .agg cs=>AV.jF cs
 | .ro es=>es.all AV.jF
 | .bD=>true
 | _=>false
def mkObj (cI:CI) (f:Nat) (as:List AV) (pl:Nat) (H:List Obj):Option (AV×List Obj):=
 match ku H as with
 | some ys=>(match cI f (.aA 0 0 0 0::ys) with
  | some (.bl [.aA 0 0 sz 0,x])=>if (AV.aT 0 as||wj x)=true then wh pl H sz x else none
  | _=>none)
 | none=>none
def ke (t:Nat) (s:St):Option St:=
 match s.tmps.getD t .any with
 | .own id ext off len=>
  (match aH s.H id with
   | some (_,es)=>if ext=es.length/\AV.bN 0 ((es.drop off).take len)=true/\(cD s.H id).free=true then
    some ⟨s.tmps.set t (su (cD s.H id) es ((es.drop off).take len)),s.H.set id .dead⟩ else none
   | none=>none)
 | _=>some s
def eU (w:List Nat):Option (AV×List Obj)->Option (AV×List Obj)
 | some (v,H1)=>if ((refs v).all fun i=>w.contains i)=true then (match ke 0 ⟨[v],H1⟩ with
  | some ⟨[r],H2⟩=>some (r,H2)
  | _=>none) else none
 | none=>none
def fJ (G:Nat->List AV) (cI:CI) (pl:Nat) (x:RO) (t:List AV) (H:List Obj):Option (AV×List Obj):=
 match x with
 | .sj f args=>mkObj cI f (args.map (·.ev G t)) pl H
 | .md sz bytes a b=>eU (pl::refs (a.ev G t)) (evalW G t H pl (.app sz bytes a b))
 | .mY sz z len parts=>eU [pl] (evalW G t H pl (.u5 sz z len parts))
 | .call f args=>if mu H (args.map (·.ev G t))=true then evalOp G (fun _=>false) cI (fun _ _ _=>none) pl (.call f args) t H else none
 | x=>evalOp G (fun _=>false) cI (fun _ _ _=>none) pl x t H
def qF (G:Nat->List AV) (cI:CI) (pl:Nat) (o:bH) (t:List AV) (H:List Obj):Option (AV×List Obj×FP):=
 match want t o.guard with
 | some true=>if sB H pl o.op=true then
  (match fJ G cI pl o.op t H with
   | some (v,H')=>some (v,H',eF G t pl o.op)
   | none=>none) else none
 | some false=>some (.bl [],H,{})
 | none=>none
def gD (G:Nat->List AV) (cI:CI) (b:Nat):List (Nat×bH)->List AV->List Obj->Option (List AV×List Obj×List FP)
 | [],t,H=>some (t,H,[])
 | (k,o)::os,t,H=>
  match qF G cI (b+k) o t H with
  | some (v,H',f)=>(match gD G cI b os (cY t o.dst v) H' with
   | some (t',WV,fs)=>some (t',WV,f::fs)
   | none=>none)
  | none=>none
def gy (fs:List FP) (ps:List (Nat×Nat)):Bool:=ps.all fun (i,j)=>eX (fs.getD i {}) (fs.getD j {})
def fO:List Nat->List AV->List AV
 | [],t=>t
 | d::ds,t=>fO ds (t.set d .any)
def AV.EM (n:Nat):List (AV×AV)->Bool
 | []=>true
 | (x,y)::r=>x.bp n&&(y.bp n&&AV.EM n r)
def Obj.bp (n:Nat):Obj->Bool
 | .live _ _ es=>AV.bN n es
 | .mp es=>AV.EM n es
 | .lp _ t _ _ _=>AV.aT n t
 | _=>true
def bW (n:Nat):List Obj->Bool
 | []=>true
 | o::os=>o.bp n&&bW n os
def WN:List Nat->St->St
 | [],s=>s
 | t::ts,s=>WN ts ⟨s.tmps.set t (s.tmps.getD t .any).wk,NR s.H (s.tmps.getD t .any)⟩
def uh (t:Nat) (s:St):Option St:=
 match s.tmps.getD t .any with
 | .aA id 1 0 0=>(match s.H[id]? with
  | some (.live .norm _ [cs])=>if AV.aT 0 cs=true then some ⟨s.tmps.set t (.bZ cs),s.H.set id .dead⟩ else none
  | _=>none)
 | _=>none
def mark (f:Fl->Fl) (H:List Obj) (id:Nat):List Obj:=match H[id]? with
 | some (.live nl sz es)=>H.set id (.live (f nl) sz es)
 | _=>H
def we:List Obj->Bool
 | []=>true
 | .live nl _ _::r=> !nl.B1&&we r
 | _::r=>we r
def dB (base:Nat) (s:St):GA->Option St
 | .sh t=>(match s.tmps.getD t .any with
  | .own id _ _ _=>(match aH s.H id with | some (_,_::_)=>some ⟨s.tmps,mark Fl.sh s.H id⟩ | _=>some s)
  | _=>some s)
 | .res t=>(match s.tmps.getD t .any with
  | .own id _ _ _=>if we (s.H.drop (id+1))=true then some ⟨s.tmps,mark Fl.res s.H id⟩ else some s
  | _=>some s)
 | .wk l=>some (WN l s)
 | .kill l=>some ⟨fO l s.tmps,s.H⟩
 | .kn n=>if Nat.blt (base+n) s.H.length&&(AV.aT (base+n) s.tmps&&bW (base+n) (s.H.take (base+n))) then some ⟨s.tmps,s.H.take (base+n)⟩ else some s
 | .ua t=>(match ke t s with | some s'=>some s' | none=>some s)
 | .nk t=>(match uh t s with | some s'=>some s' | none=>some s)
 | .prom t sz=>(match s.tmps.getD t .any with
  | .bD=>some ⟨s.tmps.set t (.own s.H.length 0 0 0),s.H++[.live .nil sz []]⟩
  | _=>some s)
 | .o8 t off sz=>(match s.tmps.getD t .any with
  | .aA id ext e o=>(match loadAt s.H 1 false (.aA id ext e (o+off)) with
   | some .bD=>(match storeAt (s.H++[.live .nil sz []]) 1 (.aA id ext e (o+off)) (.own s.H.length 0 0 0) with
    | some H'=>some ⟨s.tmps,H'⟩
    | none=>none)
   | _=>some s)
  | _=>some s)
 | .yR t off=>(match s.tmps.getD t .any with
  | .aA id ext e o=>(match loadAt s.H 1 false (.aA id ext e (o+off)) with
   | some (.own j ext' off' len')=>if j=id then none else (match ke 0 ⟨[.own j ext' off' len'],s.H⟩ with
    | some ⟨[r],H1⟩=>(match storeAt H1 1 (.aA id ext e (o+off)) r with
     | some H'=>some ⟨s.tmps,H'⟩
     | none=>none)
    | _=>some s)
   | _=>some s)
  | _=>some s)
 | .cut t=>(match s.tmps.getD t .any with
  | .own id ext 0 len=>(match s.H[id]? with
   | some (.live .norm sz es)=>if (Nat.ble base id&&Nat.beq (id+1) s.H.length)&&(Nat.beq ext es.length&&Nat.ble len ext)&&(AV.aT id (s.tmps.set t .any)&&bW id (s.H.take id))&&AV.bN id es then
    some ⟨s.tmps.set t (.own id len 0 len),s.H.set id (.live .norm sz (es.take len))⟩ else none
   | _=>none)
  | _=>none)
def iX (base:Nat):List GA->St->Option St
 | [],s=>some s
 | g::gs,s=>match dB base s g with | some s'=>iX base gs s' | none=>none
def cQ (rs:List (Sum Nat (Nat×Nat×Bool))) (s:St):Option (List AV):=
 match rs with
 | []=>some []
 | .inl t::r=>(match cQ r s with | some l=>some (s.tmps.getD t .any::l) | none=>none)
 | .inr (t,n,ag)::r=>(match loadAt s.H n ag (s.tmps.getD t .any),cQ r s with | some v,some l=>some (v::l) | _,_=>none)
def oneOf:List AV->AV
 | [v]=>v
 | l=> .bl l
def start (rf:RF) (args:List AV):List AV:=args++List.replicate (rf.ntmps - args.length) .any
abbrev EX:=RC->Nat->St->Option (Ex×St)
def qO (H:List Obj):AV->Option AV
 | .aA j 1 0 0=>(match H[j]? with
  | some (.live .norm _ [cs])=>if AV.aT 0 cs=true then some (.bl [.aA 0 0 0 0,.agg cs]) else none
  | _=>none)
 | .bD=>some (.bl [.aA 0 0 0 0,.bD])
 | .own j ext off len=>(match H[j]? with
  | some (.live fl sz es)=>if off=0/\ext=es.length/\len=ext then
   (match es with
    | []=>if fl= .nil then some (.bl [.aA 0 0 0 0,.bD]) else if fl= .norm then some (.bl [.aA 0 0 sz 0,.ro []]) else none
    | _::_=>if (fl= .norm\/fl= .nil)/\AV.bN 0 es=true then some (.bl [.aA 0 0 sz 0,.ro es]) else none)
   else none
  | _=>none)
 | _=>none
def WW (ex:EX) (rf:RF) (args:List AV):Option AV:=match args with
 | .aA 0 0 0 0::as=>if as.length=rf.nargs then
  (match ex rf.body 0 ⟨start rf as,[]⟩ with
   | some (.exit _,_)=>none
   | some (_,s')=>(match cQ rf.results s' with
    | some [v]=>qO s'.H v
    | _=>none)
   | none=>none)
  else none
 | _=>none
def mU (fns:Nat->Option RF) (ex:EX):CI:=fun f args=>match fns f with
 | some rf=>if args.length=rf.nargs then
  (match ex rf.body 0 ⟨start rf args,[]⟩ with
   | some (.exit _,_)=>none
   | some (_,s')=>(match cQ rf.results s' with | some l=>pack s'.H (oneOf l) | none=>none)
   | none=>none)
  else WW ex rf args
 | none=>none
def uM:List Nat->List AV->List AV->List AV
 | p::ps,x::xs,t=>uM ps xs (t.set p x)
 | _,_,t=>t
def jH (x y:Ls) (H:List Obj) (l:Nat):Option (List Obj):=match H[l]? with
 | some (.lp s t ps b6 body)=>if s=x then some (H.set l (.lp y t ps b6 body)) else none
 | _=>none
def V7 (ex:EX) (args:List AV) (H:List Obj):Option (AV×List Obj):=match args with
 | .fI l::xs=>(match H[l]? with
  | some (.lp .ready t ps b6 body)=>if xs.length=ps.length then
   (match ex b6 H.length ⟨uM ps xs t,H⟩ with
    | some (.normal,s1)=>(match jH .ready .busy s1.H l with
     | some H1=>(match ex body H.length ⟨s1.tmps,H1⟩ with
      | some (.normal,s2)=>(match jH .busy .ready s2.H l with | some H2=>some (.bool true,H2) | none=>none)
      | some (e,s2)=>(match jH .busy (.done e) s2.H l with | some H2=>some (.bool false,H2) | none=>none)
      | none=>none)
     | none=>none)
    | _=>none) else none
  | _=>none)
 | _=>none
def Aw (fns:Nat->Option RF) (ex:EX):CH:=fun f args H=>match f with
 | none=>V7 ex args H
 | some f=>match fns f with
 | some rf=>if args.length=rf.nargs then
  (match ex rf.body H.length ⟨start rf args,H⟩ with
   | some (.exit _,_)=>none
   | some (_,s')=>(match cQ rf.results s' with | some l=>some (oneOf l,s'.H) | none=>none)
   | none=>none)
  else none
 | none=>none
def ld (H:List Obj) (l:Nat):Option Ex:=match H[l]? with
 | some (.lp .ready _ _ _ _)=>some .normal
 | some (.lp (.done e) _ _ _ _)=>some e
 | _=>none
def exec (E:Env) (hp:Nat->Bool):Nat->EX
 | 0,_,_,_=>none
 | n+1,c,base,s=>
  match c with
  | .bad=>none
  | .skip=>some (.normal,s)
  | .ret=>some (.ret,s)
  | .exit id=>some (.exit id,s)
  | .seq a b=>(match exec E hp n a base s with
   | some (.normal,s')=>exec E hp n b base s'
   | r=>r)
  | .cond x a b=>(match x.ev E.aJ s.tmps with
   | .bool true=>exec E hp n a base s
   | .bool false=>exec E hp n b base s
   | _=>none)
  | .block id b=>(match exec E hp n b base s with
   | some (.exit i,s')=>if i=id then some (.normal,s') else some (.exit i,s')
   | r=>r)
  | .loop b=>(match exec E hp n b base s with
   | some (.normal,s')=>exec E hp n (.loop b) base s'
   | r=>r)
  | .u6 ops=>(match bO E.aJ hp (mU E.fns (exec E hp n)) (Aw E.fns (exec E hp n)) ops s.tmps s.H with
   | some (t,H)=>some (.normal,⟨t,H⟩)
   | none=>none)
  | .draw ops=>(match bO E.aJ (fun _=>false) (mU E.fns (exec E hp n)) (fun _ _ _=>none) ops s.tmps s.H with
   | some (t,H)=>some (.normal,⟨t,H⟩)
   | none=>none)
  | .jG ops bf=>(match vQ E.aJ hp (mU E.fns (exec E hp n)) (Aw E.fns (exec E hp n)) bf ops 0 [] [] s.tmps s.H with
   | some (t,H)=>some (.normal,⟨t,H⟩)
   | none=>none)
  | .kr ops k ps=>(match gD E.aJ (mU E.fns (exec E hp n)) s.H.length ops s.tmps (s.H++List.replicate k .iA) with
   | some (t,H,fs)=>if gy fs ps=true then some (.normal,⟨t,H⟩) else none
   | none=>none)
  | .gh pre r post=>(match iX base pre s with
   | some s0=>(match exec E hp n r base s0 with
    | some (.normal,s')=>(match iX base post s' with | some s''=>some (.normal,s'') | none=>none)
    | r=>r)
   | none=>none)
  | .Ay g ps b6 body=>(match g.ev E.aJ s.tmps with
   | .fn f cap=>(match Aw E.fns (exec E hp n) (some f) (.fI s.H.length::cap) (s.H++[.lp .ready s.tmps ps b6 body]) with
    | some (_,H')=>(match ld H' s.H.length with
     | some e=>some (e,⟨s.tmps,H'.set s.H.length .dead⟩)
     | none=>none)
    | none=>none)
   | _=>none)
structure Hint where
 pre:List GA:=[]
 post:List GA:=[]
 mid:List (Nat×List GA):=[]
 deriving Inhabited
def simple:Value->AV
 | .bool b=> .bool b
 | .int k n=> .int k n
 | .string s=> .str s.data.toList
 | .pointer none=> .g7
 | .slice none 0 0=> .bD
 | .nilFunc=> .kL
 | .nilIface=> .nr
 | _=> .any
def ofValue:Value->AV
 | .agg cs=> .agg (cs.toList.map simple)
 | v=>simple v
def cx:Operand->RX
 | .tmp t=> .t t
 | .const v=> .c (ofValue v)
 | .global g=> .g g
 | .func f=> .c (.fn f [])
section
variable (P:Program)
def de (t:TypeId):Option Nat:=match P.info? t with | some i=>some i.size | none=>none
def nu (t:TypeId):Option Bool:=match P.underlying t with
 | some (.struct _) | some (.array _ _)=>some true
 | some _=>some false
 | none=>none
def zeroOf (t:TypeId):Option (List AV):=match P.info? t with
 | some i=>(match i.zero with | some v=>some (v.cells.toList.map simple) | none=>none)
 | none=>none
def bytesOf (t:TypeId):Option Nat:=match P.info? t with | some i=>some i.bytes | none=>none
def compFields (fs:Array Field):List (Nat×Operand)->Option (List (Nat×Nat×RX))
 | []=>some []
 | (j,x)::r=>match fs[j]?,compFields fs r with
  | some f,some l=>(match de P f.type with | some n=>some ((f.offset,n,cx x)::l) | none=>none)
  | _,_=>none
mutual
def fH:Nat->TypeId->Option (List CK)
 | 0,_=>none
 | d+1,t=>(match P.underlying t with
  | some .bool=>some [.bool]
  | some (.int k)=>some [.int k]
  | some .string=>some [.str]
  | some (.struct fs)=>if P.stoodInHeld t then none else (match iu d 0 fs.toList with | some ks=>if de P t=some ks.length then some ks else none | none=>none)
  | some (.array n e)=>(match fH d e,de P e with
   | some ks,some sz=>if ks.length=sz/\de P t=some (n*sz) then some (List.replicate n ks).flatten else none
   | _,_=>none)
  | _=>none)
def iu:Nat->Nat->List Field->Option (List CK)
 | _,_,[]=>some []
 | 0,_,_::_=>none
 | d+1,off,f::fs=>if f.name== "_" then none else (match fH d f.type,de P f.type with
  | some ks,some sz=>if ks.length=sz/\f.offset=off then (match iu d (off+sz) fs with | some l=>some (ks++l) | none=>none) else none
  | _,_=>none)
end
def fq (neg:Bool) (t:TypeId) (x y:RX):RO:=
 match P.underlying t with
 | some (.int _) | some .string=> .bin (if neg then .neq else .eql) x y
 | some .bool=> .F7 neg x y
 | some (.slice _)=> .Ax neg x y
 | some (.pointer _)=> .F8 neg x y
 | some (.struct _) | some (.array _ _)=>(match fH P 12 t with | some ks=>if P.eqGuardType P.depth t then .bad else .BZ neg ks x y | none=> .bad)
 | _=> .bad
def deep (P:Program) (e:TypeId):Bool:=match P.underlying e with
 | some (.slice e2)=>(match de P e2 with | some n=>Nat.ble 2 n | none=>false)
 | _=>false
def Ig (t:TypeId):Option CK:=match P.underlying t with
 | some .bool=>some .bool
 | some (.int k)=>some (.int k)
 | some .string=>some .str
 | _=>none
def cq (o:Oper):RO:=
 match o.op with
 | .move x | .assign x=> .F6 (cx x)
 | .pick c a b=> .pick (cx c) (cx a) (cx b)
 | .box _ x=> .box (cx x)
 | .alloc e=>(match zeroOf P e with | some z=> .alloc z | none=> .bad)
 | .build t parts=>
  (match zeroOf P t,P.underlying t with
   | some z,some (.struct fs)=>if fs.toList.all (fun f=>(de P f.type).isSome) then (match compFields P fs parts.toList with | some l=> .build z l | none=> .bad) else .bad
   | some z,some (.array _ e)=>(match de P e with | some sz=> .build z (parts.toList.map fun (i,x)=>(i*sz,sz,cx x)) | none=> .bad)
   | _,_=> .bad)
 | .buildSlice t len parts=>
  (match P.underlying t with
   | some (.slice e)=>(match de P e,zeroOf P e with
    | some sz,some z=>if sz=1/\deep P e=true then .AH z len (parts.toList.map fun (i,x)=>(i,cx x)) else .u5 sz z len (parts.toList.map fun (i,x)=>(i,cx x))
    | _,_=> .bad)
   | _=> .bad)
 | .load t a=>(match de P t,nu P t with | some n,some ag=> .load n ag (cx a) | _,_=> .bad)
 | .store t a x=>(match de P t with | some n=> .store n (cx a) (cx x) | none=> .bad)
 | .binOp op xt x y _=>
  (match op with
   | .eql=>fq P false xt (cx x) (cx y)
   | .neq=>fq P true xt (cx x) (cx y)
   | op=> .bin op (cx x) (cx y))
 | .unOp op _ x=> .un op (cx x)
 | .nilCheck x=> .pF (cx x)
 | .convert src dst x=>(match P.underlying src,P.underlying dst with
  | some _,some (.int k)=> .conv k (cx x)
  | some (.int _),some .string=> .HV (cx x)
  | some (.slice e),some .string=>(match P.underlying e with | some (.int .u8)=> .BS (cx x) | _=> .bad)
  | _,_=> .bad)
 | .field xt x f=>
  (match P.underlying xt with
   | some (.struct fs)=>(match fs[f]? with
    | some fd=>(match de P fd.type,nu P fd.type with | some n,some ag=> .Rg fd.offset n ag (cx x) | _,_=> .bad)
    | none=> .bad)
   | _=> .bad)
 | .fieldAddr s x f=>
  (match P.underlying s with
   | some (.struct fs)=>(match fs[f]? with
    | some fd=>(match de P fd.type with | some (_+1)=> .u0 fd.offset (cx x) | _=> .bad)
    | none=> .bad)
   | _=> .bad)
 | .indexAddr t x i=>
  (match P.underlying t with
   | some (.array len e)=>(match de P e with | some sz=> .mc len sz (cx x) (cx i) | none=> .bad)
   | some (.slice e)=>(match de P e with | some sz=> .jb sz (cx x) (cx i) | none=> .bad)
   | _=> .bad)
 | .index xt x i=>
  (match P.underlying xt with
   | some (.array len e)=>(match de P e,nu P e with | some n,some ag=> .nj len n ag (cx x) (cx i) | _,_=> .bad)
   | some .string=> .oU (cx x) (cx i)
   | _=> .bad)
 | .slice xt x lo hi none=>
  (match P.underlying xt with
   | some .string=> .oV (cx x) (lo.map cx) (hi.map cx)
   | some (.slice e)=>(match de P e with | some sz=> .slc sz (cx x) (lo.map cx) (hi.map cx) | none=> .bad)
   | some (.array n e)=>(match de P e with | some sz=> .kU n sz (cx x) (lo.map cx) (hi.map cx) | none=> .bad)
   | _=> .bad)
 | .makeMap _ none=> .HW
 | .lookup t m x ok=>
  (match P.underlying t with
   | some (.map k e)=>(match Ig P k,(P.info? e).bind (·.zero) with | some c,some z=> .iV c (ofValue z) ok (cx m) (cx x) | _,_=> .bad)
   | _=> .bad)
 | .mapUpdate t m x v=>
  (match P.underlying t with
   | some (.map k _)=>(match Ig P k with | some c=> .iU c (cx m) (cx x) (cx v) | none=> .bad)
   | _=> .bad)
 | .range t x=>(match P.underlying t with | some .string=> .Ek (cx x) | _=> .bad)
 | .next x true=> .uH (cx x)
 | .makeFunc (.func f) first cap=>if first.isEmpty then .N2 f (cap.toList.map cx) else if cap.isEmpty then .Rh f (first.toList.map cx) else .bad
 | .makeSlice t l c=>
  (match P.underlying t with
   | some (.slice e)=>(match de P e,zeroOf P e,bytesOf P e with
    | some sz,some z,some b=> .F9 sz z b (cx l) (cx c)
    | _,_,_=> .bad)
   | _=> .bad)
 | .call c=>
  (match c.callee with
   | .value (.func f)=> .call f (c.args.toList.map cx)
   | .value x=> .gr (cx x) (c.args.toList.map cx)
   | .builtin .len=>
    (match c.argTypes[0]?,c.args.toList with
     | some t,[x]=>(match P.underlying t with
      | some .string=> .len true (cx x)
      | some (.slice _)=> .len false (cx x)
      | some (.array n _)=> .F6 (.c (.int .i64 n))
      | some (.map _ _)=> .jx (cx x)
      | _=> .bad)
     | _,_=> .bad)
   | .builtin .append=>
    (match c.argTypes[0]?,c.argTypes[1]?,c.args.toList with
     | some t,some u,[s,x]=>(match P.underlying t,P.underlying u with
      | some (.slice e),some (.slice _)=>(match de P e,bytesOf P e,zeroOf P e with | some sz,some b,some z=>if z.length=sz then .app sz b (cx s) (cx x) else .bad | _,_,_=> .bad)
      | some (.slice e),some .string=>(match de P e,bytesOf P e,zeroOf P e with | some sz,some b,some z=>if z.length=sz then .app sz b (cx s) (cx x) else .bad | _,_,_=> .bad)
      | some (.slice e),some (.int _)=>(match de P e,bytesOf P e,zeroOf P e with | some sz,some b,some z=> .sx sz z b (cx s) (cx x) | _,_,_=> .bad)
      | _,_=> .bad)
     | _,_,_=> .bad)
   | .builtin .min=> .mn (c.args.toList.map cx)
   | .builtin .max=> .mx (c.args.toList.map cx)
   | .builtin .cap=>
    (match c.argTypes[0]?,c.args.toList with
     | some t,[x]=>(match P.underlying t with
      | some (.slice _)=> .EJ (cx x)
      | _=> .bad)
     | _,_=> .bad)
   | _=> .bad)
 | .extract x i=> .ext (cx x) i
 | _=> .bad
def wm (ops:Array Oper) (j:Nat):Option Nat:=match ops[j]? with | some o=>o.dst | none=>none
def aE (ops:Array Oper) (o:Oper):bH:=
 match o.guard with
 | none=>⟨o.dst,none,cq P o⟩
 | some (j,b)=>match wm ops j with
  | some d=>⟨o.dst,some (d,b),cq P o⟩
  | none=>⟨o.dst,none,.bad⟩
def _root_.Go.Am.RO.ops:RO->List RX
 | .bad=>[]
 | .F6 x=>[x]
 | .pick c a b=>[c,a,b]
 | .box x=>[x]
 | .alloc _=>[]
 | .build _ parts=>parts.map (·.2.2)
 | .u5 _ _ _ parts=>parts.map (·.2)
 | .mY _ _ _ parts=>parts.map (·.2)
 | .AH _ _ parts=>parts.map (·.2)
 | .load _ _ a=>[a]
 | .store _ a x=>[a,x]
 | .bin _ x y=>[x,y]
 | .un _ x=>[x]
 | .BZ _ _ x y=>[x,y]
 | .F7 _ x y=>[x,y]
 | .Ax _ x y=>[x,y]
 | .F8 _ x y=>[x,y]
 | .pF x=>[x]
 | .conv _ x=>[x]
 | .Rg _ _ _ x=>[x]
 | .u0 _ x=>[x]
 | .jb _ x i=>[x,i]
 | .mc _ _ x i=>[x,i]
 | .nj _ _ _ x i=>[x,i]
 | .oU x i=>[x,i]
 | .slc _ x lo hi=>x::(lo.toList++hi.toList)
 | .oV x lo hi=>x::(lo.toList++hi.toList)
 | .kU _ _ x lo hi=>x::(lo.toList++hi.toList)
 | .N2 _ cap=>cap
 | .Rh _ l=>l
 | .F9 _ _ _ l c=>[l,c]
 | .len _ x=>[x]
 | .app _ _ s x=>[s,x]
 | .md _ _ s x=>[s,x]
 | .sx _ _ _ s n=>[s,n]
 | .EJ x=>[x]
 | .mn l=>l
 | .mx l=>l
 | .call _ args=>args
 | .gr f args=>f::args
 | .sj _ args=>args
 | .ext x _=>[x]
 | .HW=>[]
 | .iV _ _ _ m x=>[m,x]
 | .iU _ m x v=>[m,x,v]
 | .jx m=>[m]
 | .Ek x=>[x]
 | .uH x=>[x]
 | .HV x=>[x]
 | .BS x=>[x]
def E6:RX->Option Nat
 | .t n=>some n
 | _=>none
def cM (o:bH):List Nat:=(match o.guard with | some (s,_)=>[s] | none=>[])++o.op.ops.filterMap E6
def ko (d:Option Nat) (l:List Nat):Bool:=match d with | some d=> !(l.contains d) | none=>true
def pQ (d e:Option Nat):Bool:=match d,e with | some d,some e=>d !=e | _,_=>true
def lD (a b:Kind):Bool:=
 match a,b with
 | .pure,_ | _,.pure=>true
 | .write,_ | _,.write=>false
 | _,_=>true
def free (a b:bH):Bool:=
 ko a.dst (cM b)&&ko b.dst (cM a)&&pQ a.dst b.dst&&lD a.op.kind b.op.kind
def fN (m:Region.Mode) (ops:Array Oper) (kX:Nat->Nat):Bool:=
 (List.range ops.size).all fun i=>match ops[i]? with
  | some o=>o.after.toList.all fun e=> !(Region.binds m e)||(e.on < ops.size&&kX e.on < kX i)
  | none=>true
def Bp (bf:List Nat) (bE:List bH):Bool:=
 (List.range bE.length).all fun j=>(List.range j).all fun i=>
  (bf.getD j 0).testBit i||(match bE[i]?,bE[j]? with | some a,some b=>free a b | _,_=>false)
def zn (i:Nat):List Nat->Nat
 | []=>0
 | x::xs=>if x=i then 0 else zn i xs+1
def nK (ops:Array Oper) (bE:List bH):Bool:=
 fN .any ops (fun i=>i)&&fN .text ops (fun i=>i)&&
  (let l:=Region.linearise .gc ops 0;fN .gc ops (fun i=>zn i l))&&Bp (Region.before ops).toList bE
def Cq (a b:bH):Bool:=
 ko a.dst (cM b)&&ko b.dst (cM a)&&pQ a.dst b.dst&&(decide (a.op.kind= .pure)||decide (b.op.kind= .pure)||(decide (a.op.kind= .read)&&decide (b.op.kind= .read)))
def xl (bf:List Nat) (bE:List bH):Bool:=
 (List.range bE.length).all fun j=>(List.range j).all fun i=>
  (bf.getD j 0).testBit i||(match bE[i]?,bE[j]? with | some a,some b=>Cq a b | _,_=>false)
def qZ (ops:Array Oper) (bE:List bH):Bool:=
 fN .any ops (fun i=>i)&&fN .text ops (fun i=>i)&&
  (let l:=Region.linearise .gc ops 0;fN .gc ops (fun i=>zn i l))&&xl (Region.before ops).toList bE
def c8 (a b:bH):Bool:=ko a.dst (cM b)&&ko b.dst (cM a)&&pQ a.dst b.dst
def xm (bf:List Nat) (bE:List bH):Bool:=
 (List.range bE.length).all fun j=>(List.range j).all fun i=>
  bit bf j i||(match bE[i]?,bE[j]? with | some a,some b=>c8 a b&& !(cS a&&cS b) | _,_=>false)
def ri (ops:Array Oper) (bE:List bH):Bool:=
 fN .any ops (fun i=>i)&&fN .text ops (fun i=>i)&&
  (let l:=Region.linearise .gc ops 0;fN .gc ops (fun i=>zn i l))&&((List.range bE.length).all fun i=>Nat.blt ((Region.before ops).toList.getD i 0) (2 ^ i))&&xm (Region.before ops).toList bE
def C2 (bf:List Nat) (bE:List bH):List (Nat×Nat):=
 ((List.range bE.length).map fun j=>(List.range j).filterMap fun i=>
   if (bf.getD j 0).testBit i then none else match bE[i]?,bE[j]? with
    | some a,some b=>if lD a.op.kind b.op.kind then none else some (i,j)
    | _,_=>none).flatten
def xo (bf:List Nat) (bE:List bH) (ps:List (Nat×Nat)):Bool:=
 (List.range bE.length).all fun j=>(List.range j).all fun i=>
  (bf.getD j 0).testBit i||(match bE[i]?,bE[j]? with
   | some a,some b=>c8 a b&&(lD a.op.kind b.op.kind||ps.contains (i,j))
   | _,_=>false)
def rj (ops:Array Oper) (bE:List bH) (ps:List (Nat×Nat)):Bool:=
 fN .any ops (fun i=>i)&&fN .text ops (fun i=>i)&&
  (let l:=Region.linearise .gc ops 0;fN .gc ops (fun i=>zn i l))&&xo (Region.before ops).toList bE ps
def places:Nat->List bH->List (Nat×bH)
 | _,[]=>[]
 | k,o::os=>(k,o)::places (if o.op.ef then k+1 else k) os
def Lj (bE:List bH):Nat:=(bE.filter fun o=>o.op.ef).length
def Ll (js:List Nat) (ops:Array Oper) (bE:List bH):Bool:=
 match bE.getLast? with
 | some o=>decide (o.op.kind= .call)&&decide (bE.length=ops.size)&&((List.range (ops.size - 1)).all fun i=>((Region.before ops).toList.getD (ops.size - 1) 0).testBit i)&&
  ((match o.op with | .gr ..=>true | _=>false)||(match ops.back? with | some p=>Nat.beq p.type 0 | none=>false)||(!(nK ops bE)||js.any (Nat.beq 999999)))
 | none=>false
def MQ (ops:Array Oper) (d:Option Nat):Bool:=match d with
 | none=>false
 | some d=>ops.toList.any fun o=>match o.op with
  | .call c=>(match c.callee,c.args.toList with
   | .builtin .append,.tmp t::_=>Nat.beq t d
   | _,_=>false)
  | _=>false
def Kt (js:List Nat):Option Nat->Bool
 | some d=>js.any (Nat.beq d)
 | none=>false
def qG (js:List Nat) (ops:Array Oper) (o:Oper) (r:bH):bH:=match r.op with
 | .call f args=>(match P.underlying o.type with
  | some (.pointer _)=>{ r with op:= .sj f args }
  | some (.slice _)=>if MQ ops o.dst||Kt js o.dst then { r with op:= .sj f args } else r
  | _=>r)
 | .app sz bytes a b=>if Kt js o.dst then { r with op:= .md sz bytes a b } else r
 | .u5 sz z len parts=>if Kt js o.dst then { r with op:= .mY sz z len parts } else r
 | _=>r
def pg (js:List Nat) (ops:Array Oper) (l:List bH):List bH:=List.zipWith (qG P js ops) ops.toList l
def jv (js:List Nat) (ops:Array Oper) (first:List bH):RC:=
 if nK ops first&&(js.isEmpty&& !(first.any fun o=>decide (o.op.kind= .call))) then .draw first else
 if qZ ops first&&js.isEmpty then .u6 first else
 if nK ops first&&js.isEmpty then .draw first else
 if ri ops first&&js.any (Nat.beq 999998) then .jG first (Region.before ops).toList else
 let fs:=pg P js ops first
 let ps:=C2 (Region.before ops).toList fs;if rj ops fs ps then .kr (places 0 fs) (Lj fs) ps else .bad
def xp (js:List Nat) (ops:Array Oper) (bE:List bH):RC:=
 if Ll js ops bE then .seq (jv P (js.filter fun d=> !(Nat.beq 999999 d)) ops bE.dropLast) (.u6 (bE.drop (ops.size - 1))) else jv P js ops bE
def iY (hs:List (Nat×Hint)) (id:Nat):Hint:=
 match hs with
 | []=>{}
 | (i,h)::r=>if i=id then h else iY r id
def gT (h:Hint) (r:RC):RC:=
 if h.pre.isEmpty&&h.post.isEmpty then r else .gh h.pre r h.post
def jk:List (Nat×List GA)->List bH->RC
 | [],l=> .u6 l
 | (j,g)::r,l=> .seq (.gh [] (.u6 (l.take j)) g) (jk r (l.drop j))
def iQ:Code->Option Nat
 | .region id _ _=>some id
 | .seq a b=>(match iQ a with | some r=>some r | none=>iQ b)
 | .cond _ a b=>(match iQ a with | some r=>some r | none=>iQ b)
 | .block _ b=>iQ b
 | .loop b=>iQ b
 | _=>none
def Y4:Operand->Nat
 | .tmp t=>t
 | _=>999999
def Qa:Operand->Nat
 | .tmp t=>2000000+t
 | _=>1999999
def ni:Code->Bool
 | .seq a b=>ni a&&ni b
 | .cond _ a b=>ni a&&ni b
 | .block _ b=>ni b
 | .loop b=>ni b
 | .rangeFunc ..=>false
 | _=>true
def comp (hs:List (Nat×Hint)):Code->RC
 | .skip=> .skip
 | .region id ops dr=>
  gT (iY hs id)
   (if dr then xp P ((iY hs id).mid.map (·.1)) ops (ops.toList.map (aE P ops))
    else jk (iY hs id).mid (ops.toList.map (aE P ops)))
 | .seq a b=> .seq (comp hs a) (comp hs b)
 | .cond c a b=>gT (iY hs (Qa c)) (.cond (cx c) (comp hs a) (comp hs b))
 | .block id b=>gT (iY hs (3000000+id)) (.block id (comp hs b))
 | .loop b=> .loop (gT (iY hs (1000000+(iQ b).getD 999999)) (comp hs b))
 | .exit id=> .exit id
 | .ret=> .ret
 | .rangeFunc g ps a b=>gT (iY hs (4000000+Y4 g)) (if ni a&&ni b then .Ay (cx g) ps.toList (comp hs a) (comp hs b) else .bad)
 | _=> .bad
def CR (rc:RC) (code:Code):Prop:=∃ hs,comp P hs code=rc/\ni code=true
def jl:List ResultVar->Option (List (Sum Nat (Nat×Nat×Bool)))
 | []=>some []
 | .tmp t::r=>(match jl r with | some l=>some (.inl t::l) | none=>none)
 | .cell a t::r=>(match de P t,nu P t,jl r with | some n,some ag,some l=>some (.inr (a,n,ag)::l) | _,_,_=>none)
def zl (hs:List (Nat×Hint)) (nargs:Nat) (fn:Func):Option RF:=
 match fn.body,jl P fn.results.toList with
 | some c,some rs=>if fn.name== "runtime.NumGoroutine" then none else some ⟨nargs,fn.ntmps,rs,comp P hs c⟩
 | _,_=>none
end
end Go.Am
end
section
namespace Go.Am
open Region
def sO (m:Region.Mode) (ops:Array Oper) (kX:Nat->Nat):Prop:=
 ∀ i o,ops[i]?=some o->∀ e∈o.after.toList,binds m e=true->e.on < ops.size/\kX e.on < kX i
structure X2 (m:Region.Mode) (ops:Array Oper) (listed:Array Bool) (acc:List Nat):Prop where
 size:listed.size=ops.size
 nodup:acc.Nodup
 small:∀ i∈acc,i < ops.size
 mark:∀ i,i < ops.size->listed.getD i true=decide (i∈acc)
 order:∀ l1 i l2,acc=l2++i::l1->∀ o,ops[i]?=some o->∀ e∈o.after.toList,binds m e=true->e.on∈l1
theorem BO {m:Region.Mode} {ops:Array Oper} {kX:Nat->Nat} (hr:sO m ops kX) (acc:List Nat):
 ∀ k i,kX i=k->i < ops.size->i ∉ acc->
  ∃ j o,j < ops.size/\j ∉ acc/\ops[j]?=some o/\∀ e∈o.after.toList,binds m e=true->e.on∈acc:=by
 intro k;induction k using Nat.strongRecOn with
 | _ k ih=>
  intro i hk hi hn;obtain ⟨o,ho⟩:∃ o,ops[i]?=some o:=⟨_,zaj hi⟩;by_cases h:∀ e∈o.after.toList,binds m e=true->e.on∈acc
  ·exact ⟨i,o,hi,hn,ho,h⟩
  ·simp only [Classical.not_forall] at h;obtain ⟨e,he,hb,hna⟩:=h;obtain ⟨h1,h2⟩:=hr i o ho e he hb;exact ih (kX e.on) (hk▸h2) e.on rfl h1 hna
theorem go_ok {m:Region.Mode} {ops:Array Oper} {kX:Nat->Nat} (hr:sO m ops kX):
 ∀ fuel t listed acc,X2 m ops listed acc->fuel+acc.length=ops.size->
  ∃ HL acc',linearise.go m ops fuel t listed acc=acc'.reverse/\X2 m ops HL acc'/\acc'.length=ops.size:=by
 intro fuel;induction fuel with
 | zero=>intro t listed acc hI hf;exact ⟨listed,acc,rfl,hI,by omega⟩
 | succ fuel ih=>
  intro t listed acc hI hf;simp only [linearise.go];generalize NU:(List.range ops.size).filter (fun i=> !listed.getD i true&&((ops[i]?).map (·.after.all fun e=> !binds m e||listed.getD e.on false)).getD false)=rs;have hmem:∀ i,i∈rs↔(i < ops.size/\i ∉ acc/\∃ o,ops[i]?=some o/\∀ e∈o.after.toList,binds m e=true->e.on∈acc):=by
   intro i;rw [<-NU,List.mem_filter,zac];constructor
   ·rintro ⟨hi,hp⟩;obtain ⟨o,ho⟩:∃ o,ops[i]?=some o:=⟨_,zaj hi⟩;simp only [ho,zaL,zar,za0,zaW,hI.mark i hi,decide_eq_false_iff_not] at hp;refine ⟨hi,hp.1,o,ho,fun e he hb=>?_⟩;have h2:=hp.2;rw [<-Array.all_toList,zai] at h2;have h3:=h2 e he;simp only [hb,zb2,zbQ] at h3;have Wi:=(hr i o ho e he hb).1;have h4:=hI.mark e.on Wi;have h5:listed.getD e.on true=listed.getD e.on false:=by
     have:e.on < listed.size:=by rw [hI.size];exact Wi
     simp [Array.getD,this]
    rw [h5,h3] at h4;simpa using h4.symm
   ·rintro ⟨hi,hn,o,ho,hall⟩;refine ⟨hi,?_⟩;simp only [ho,zaL,zar,za0,zaW,hI.mark i hi,decide_eq_false_iff_not];refine ⟨hn,?_⟩;rw [<-Array.all_toList,zai];intro e he;by_cases hb:binds m e=true
    ·have Wi:=(hr i o ho e he hb).1;have h4:=hI.mark e.on Wi;have h5:listed.getD e.on true=listed.getD e.on false:=by
      have:e.on < listed.size:=by rw [hI.size];exact Wi
      simp [Array.getD,this]
     rw [h5] at h4;simp [hb,h4,hall e he hb]
    ·simp [hb]
  have hne:rs≠[]:=by
   intro h0;have:∃ i,i < ops.size/\i ∉ acc:=by
    refine zbn fun ad4=>?_
    have hall:∀ i,i < ops.size->i∈acc:=fun i hi=>zbn fun hn=>ad4 ⟨i,hi,hn⟩
    have hsub:(List.range ops.size) ⊆ acc:=fun i hi=>hall i (zac.1 hi)
    have:=List.Nodup.length_le_of_subset (List.nodup_range (n:=ops.size)) hsub;simp at this;omega
   obtain ⟨i,hi,hn⟩:=this;obtain ⟨j,o,hj,hjn,ho,hall⟩:=BO hr acc _ i rfl hi hn;have:=(hmem j).2 ⟨hj,hjn,o,ho,hall⟩;rw [h0] at this;simp at this
  have hlen:0 < rs.length:=zb1.2 hne;have hlt:t % rs.length < rs.length:=zc1 _ hlen;rw [za2 hlt];generalize hi:rs[t % rs.length]=i;have hir:i∈rs:=hi▸zaG hlt;obtain ⟨h1,h2,o,ho,hall⟩:=(hmem i).1 hir;refine ih _ _ _ ⟨?_,?_,?_,?_,?_⟩ (by simp;omega)
  ·simp [hI.size]
  ·exact zc2.2 ⟨h2,hI.nodup⟩
  ·intro j hj;rcases zam.1 hj with rfl | hj
   ·exact h1
   ·exact hI.small j hj
  ·intro j hj;by_cases hji:j=i
   ·subst hji;simp [Array.getD,hI.size,hj]
   ·have:=hI.mark j hj;have hij:¬ i=j:=fun h=>hji h.symm
    rw [zb9] at this ⊢;rw [Array.getElem?_setIfInBounds,if_neg hij,this];simp [hji]
  ·intro l1 j l2 hacc o' ho' e he hb
   cases l2 with
   | nil=>
    simp only [zc3,zaE] at hacc;obtain ⟨rfl,rfl⟩:=hacc;rw [ho] at ho';injection ho' with ho';subst ho'
    exact hall e he hb
   | cons x l2=>
    simp only [zaH,zaE] at hacc;exact hI.order l1 j l2 hacc.2 o' ho' e he hb
theorem Fh {m:Region.Mode} {ops:Array Oper} {kX:Nat->Nat} (hr:sO m ops kX) (t:Nat):
 (linearise m ops t).Nodup/\(∀ i,i∈linearise m ops t↔i < ops.size)/\
  ∀ l1 i l2,linearise m ops t=l1++i::l2->∀ o,ops[i]?=some o->∀ e∈o.after.toList,binds m e=true->e.on∈l1:=by
 obtain ⟨HL,acc',h1,hI,hlen⟩:=go_ok hr ops.size t (Array.replicate ops.size false) []
  ⟨by simp,List.nodup_nil,by simp,by intro i hi;simp [Array.getD,hi],by intro l1 i l2 h;simp at h⟩ (by simp)
 unfold linearise;rw [h1];refine ⟨zbA.2 (List.pairwise_reverse.2 ((zbA.1 hI.nodup).imp fun h=>h.symm)),fun i=>?_,fun l1 i l2 h o ho e he hb=>?_⟩
 ·rw [List.mem_reverse];refine ⟨hI.small i,fun hi=>?_⟩;refine zbn fun hn=>?_
  have h2:(i::acc').Nodup:=zc2.2 ⟨hn,hI.nodup⟩;have hsub:(i::acc') ⊆ List.range ops.size:=by
   intro j hj;rcases zam.1 hj with rfl | hj
   ·exact zac.2 hi
   ·exact zac.2 (hI.small j hj)
  have:=List.Nodup.length_le_of_subset h2 hsub;simp at this;omega
 ·have:acc'=l2.reverse++i::l1.reverse:=by
   have:=congrArg List.reverse h;simpa using this
  have:=hI.order _ _ _ this o ho e he hb;simpa using this
end Go.Am
end
