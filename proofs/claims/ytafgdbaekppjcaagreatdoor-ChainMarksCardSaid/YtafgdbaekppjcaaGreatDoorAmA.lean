/- The abstract machine: a deterministic interpreter over resolved operations, without addresses: values, operations, code. No condition. -/
import Derived.Calls
import Derived.LoopN
set_option linter.unusedSectionVars false
set_option linter.unusedVariables false
set_option linter.unusedSimpArgs false
namespace Go.Am
inductive AV where
 | any
 | bool (b:Bool)
 | int (k:IntKind) (n:Int)
 | str (s:List UInt8)
 | gA | bx | jX | lZ | oo
 | eI (l:Nat)
 | mp (id:Nat)
 | oZ (id:Nat)
 | ro (es:List (List AV))
 | own (id ext off len:Nat)
 | bV (cs:List AV)
 | ax (id ext e o:Nat)
 | agg (cs:List AV)
 | bk (vs:List AV)
 | fn (f:Nat) (cap:List AV)
 | bL (f:Nat) (fst:List AV)
 | arr (id ext e o sz len:Nat)
 deriving Inhabited
inductive Fl where
 | norm | nil | ch | wf | W6 | XW | W7
 deriving DecidableEq,Inhabited
def Fl.free:Fl->Bool
 | .norm | .nil=>true
 | _=>false
def Fl.sj:Fl->Bool
 | .norm | .nil | .ch=>true
 | _=>false
def Fl.qX:Fl->Option Fl
 | .wf=>some .XW
 | .W6=>some .W7
 | _=>none
def Fl.sh:Fl->Fl
 | .norm=> .wf
 | .ch=> .W6
 | f=>f
def Fl.res:Fl->Fl
 | .wf | .XW=> .norm
 | .W6 | .W7=> .ch
 | f=>f
def Fl.Ad:Fl->Bool
 | .ch | .W6 | .W7=>true
 | _=>false
def Fl.old:Fl->Bool
 | .XW | .W7=>true
 | _=>false
inductive RX where
 | t (n:Nat)
 | c (v:AV)
 | g (g:Nat)
 deriving Inhabited
inductive CK where
 | bool
 | int (k:IntKind)
 | str
 deriving DecidableEq,Inhabited
inductive RO where
 | bad
 | DZ (x:RX)
 | pick (c a b:RX)
 | box (x:RX)
 | alloc (z:List AV)
 | build (z:List AV) (parts:List (Nat×Nat×RX))
 | sY (sz:Nat) (z:List AV) (len:Nat) (parts:List (Nat×RX))
 | load (n:Nat) (ag:Bool) (a:RX)
 | store (n:Nat) (a x:RX)
 | bin (op:BinOp) (x y:RX)
 | un (op:UnOp) (x:RX)
 | Aa (neg:Bool) (ks:List CK) (x y:RX)
 | D0 (neg:Bool) (x y:RX)
 | yz (neg:Bool) (x y:RX)
 | D1 (neg:Bool) (x y:RX)
 | oh (x:RX)
 | conv (k:IntKind) (x:RX)
 | Ol (off n:Nat) (ag:Bool) (x:RX)
 | sX (off:Nat) (x:RX)
 | iu (sz:Nat) (x i:RX)
 | kN (len sz:Nat) (x i:RX)
 | lW (len n:Nat) (ag:Bool) (x i:RX)
 | nN (x i:RX)
 | slc (sz:Nat) (x:RX) (lo hi:Option RX)
 | nO (x:RX) (lo hi:Option RX)
 | j7 (len sz:Nat) (x:RX) (lo hi:Option RX)
 | Lx (f:Nat) (cap:List RX)
 | Om (f:Nat) (fst:List RX)
 | D2 (sz:Nat) (z:List AV) (bytes:Nat) (len cap:RX)
 | len (st:Bool) (x:RX)
 | app (sz bytes:Nat) (s x:RX)
 | yM (z:List AV) (len:Nat) (parts:List (Nat×RX))
 | qL (sz:Nat) (z:List AV) (bytes:Nat) (s n:RX)
 | CP (x:RX)
 | mn (l:List RX)
 | mx (l:List RX)
 | call (f:Nat) (args:List RX)
 | fJ (f:RX) (args:List RX)
 | qH (f:Nat) (args:List RX)
 | kO (sz bytes:Nat) (s x:RX)
 | lQ (sz:Nat) (z:List AV) (len:Nat) (parts:List (Nat×RX))
 | ext (x:RX) (i:Nat)
 | FB
 | ia (k:CK) (z:AV) (ok:Bool) (m x:RX)
 | hY (k:CK) (m x v:RX)
 | iP (m:RX)
 | Cq (x:RX)
 | sK (x:RX)
 | FA (x:RX)
 | z6 (x:RX)
 deriving Inhabited
structure bD where
 dst:Option Nat
 guard:Option (Nat×Bool)
 op:RO
 deriving Inhabited
inductive GA where
 | kill (l:List Nat)
 | aj (n:Nat)
 | jx (t:Nat)
 | prom (t sz:Nat)
 | fK (t off sz:Nat)
 | iQ (t off:Nat)
 | cut (t:Nat)
 | aB (t:Nat)
 | wk (l:List Nat)
 | sh (t:Nat)
 | res (t:Nat)
 deriving Inhabited
inductive RC where
 | bad
 | skip
 | sZ (ops:List bD)
 | draw (ops:List bD)
 | iY (ops:List bD) (bf:List Nat)
 | jI (ops:List (Nat×bD)) (n:Nat) (ps:List (Nat×Nat))
 | seq (a b:RC)
 | cond (x:RX) (a b:RC)
 | block (id:Nat) (b:RC)
 | loop (b:RC)
 | exit (id:Nat)
 | ret
 | gh (pre:List GA) (r:RC) (post:List GA)
 | yB (g:RX) (ps:List Nat) (b9 body:RC)
 deriving Inhabited
inductive Ex where
 | normal
 | exit (id:Nat)
 | ret
 deriving DecidableEq,Inhabited
inductive Ls where
 | ready | busy
 | done (e:Ex)
 deriving DecidableEq,Inhabited
inductive Obj where
 | live (nl:Fl) (sz:Nat) (es:List (List AV))
 | dead
 | gB
 | mp (es:List (AV×AV))
 | it (s:List UInt8) (pos:Nat)
 | lp (st:Ls) (t:List AV) (ps:List Nat) (b9 body:RC)
 deriving Inhabited
def Obj.sp:Obj->Bool
 | .mp _ | .it .. | .lp ..=>true
 | _=>false
structure RF where
 nargs:Nat
 ntmps:Nat
 results:List (Sum Nat (Nat×Nat×Bool))
 body:RC
 deriving Inhabited
structure Env where
 fns:Nat->Option RF
 aI:Nat->List AV
structure St where
 tmps:List AV
 H:List Obj
mutual
def AV.flat:AV->Bool
 | .ro _ | .own .. | .bV _ | .ax .. | .fn .. | .bL .. | .arr .. | .eI _ | .mp _ | .oZ _=>false
 | .agg cs=>AV.iX cs
 | .bk cs=>AV.iX cs
 | _=>true
def AV.iX:List AV->Bool
 | []=>true
 | x::xs=>x.flat&&AV.iX xs
end
mutual
def AV.bA (n:Nat):AV->Bool
 | .own id _ _ _=>id < n
 | .ax id _ _ _=>id < n
 | .arr id _ _ _ _ _=>id < n
 | .eI id=>id < n
 | .mp id=>id < n
 | .oZ id=>id < n
 | .agg cs=>AV.aS n cs
 | .bk cs=>AV.aS n cs
 | .fn _ cs=>AV.aS n cs
 | .bL _ cs=>AV.aS n cs
 | _=>true
def AV.aS (n:Nat):List AV->Bool
 | []=>true
 | x::xs=>x.bA n&&AV.aS n xs
def AV.bM (n:Nat):List (List AV)->Bool
 | []=>true
 | x::xs=>AV.aS n x&&AV.bM n xs
end
abbrev AV.eS (v:AV):Bool:=v.bA 0
def RX.ev (G:Nat->List AV) (t:List AV):RX->AV
 | .t n=>t.getD n .any
 | .c v=>v
 | .g n=> .bV (G n)
def AV.Fz:AV->AV
 | .bx=> .ro []
 | v=>v
def AV.XN:AV->AV
 | .bx=> .ro []
 | .agg cs=> .agg (cs.map AV.Fz)
 | v=>v
def AV.wk:AV->AV
 | .bx=> .ro []
 | .agg cs=> .agg (cs.map AV.Fz)
 | .bk vs=> .bk (vs.map AV.XN)
 | v=>v
def Obj.wk:Obj->Obj
 | .live nl sz es=> .live nl sz (es.map fun cs=>cs.map AV.Fz)
 | o=>o
def Lo (H:List Obj):AV->List Obj
 | .ax id _ _ _=>(match H[id]? with | some o=>H.set id o.wk | none=>H)
 | .own id _ _ _=>(match H[id]? with | some o=>H.set id o.wk | none=>H)
 | _=>H
def AV.cells:AV->List AV
 | .agg cs=>cs
 | v=>[v]
def AV.one:AV->Bool
 | .any | .agg _ | .bk _=>false
 | _=>true
def putAt:List AV->Nat->List AV->List AV
 | cs,_,[]=>cs
 | cs,o,x::xs=>putAt (cs.set o x) (o+1) xs
def aX:List AV->Bool
 | []=>true
 | x::xs=>x.one&&aX xs
def part (n:Nat) (ag:Bool) (cs:List AV) (o:Nat):Option AV:=
 if ag then (if o+n<=cs.length then some (.agg ((cs.drop o).take n)) else none) else cs[o]?
def aH (H:List Obj) (id:Nat):Option (Nat×List (List AV)):=
 match H[id]? with
 | some (.live _ sz es)=>some (sz,es)
 | _=>none
def cw (H:List Obj) (id:Nat):Fl:=
 match H[id]? with
 | some (.live nl _ _)=>nl
 | _=> .norm
def qJ (_:Fl) (_ es:List (List AV)):AV:= .ro es
def isNil (H:List Obj):AV->Option Bool
 | .bx=>some true
 | .ro es=>(match es with | []=>none | _::_=>some false)
 | .own id ext _ _=>(match aH H id with
  | some (_,es)=>if ext=es.length then some (decide (cw H id= .nil)&&es.isEmpty) else none
  | none=>none)
 | _=>none
def yz (H:List Obj) (neg:Bool) (x y:AV):Option AV:=
 match x,y with
 | x,.bx=>(match isNil H x with | some b=>some (.bool (b !=neg)) | none=>none)
 | .bx,y=>(match isNil H y with | some b=>some (.bool (b !=neg)) | none=>none)
 | _,_=>none
def loadAt (H:List Obj) (n:Nat) (ag:Bool):AV->Option AV
 | .bV cs=>part n ag cs 0
 | .ax id ext e o=>
  match aH H id with
  | some (_,es)=>if ext=es.length then (match es[e]? with | some cs=>part n ag cs o | none=>none) else none
  | none=>none
 | _=>none
def storeAt (H:List Obj) (n:Nat) (a x:AV):Option (List Obj):=
 match a with
 | .ax id ext e o=>
  match aH H id with
  | some (sz,es)=>
   if ext=es.length/\x.cells.length=n/\o+n<=sz/\aX x.cells=true/\(cw H id).free=true then
    (match es[e]? with | some cs=>some (H.set id (.live (cw H id) sz (es.set e (putAt cs o x.cells)))) | none=>none)
   else none
  | none=>none
 | _=>none
def yQ (op:BinOp) (k:IntKind) (x y:Int):Option AV:=
 match op with
 | .add=>some (.int k (k.wrap (x+y)))
 | .sub=>some (.int k (k.wrap (x - y)))
 | .mul=>some (.int k (k.wrap (x*y)))
 | .quo=>if y=0 then none else some (.int k (k.wrap (x.tdiv y)))
 | .rem=>if y=0 then none else some (.int k (x.tmod y))
 | .and=>some (.int k (k.wrap ((BitVec.ofInt k.bits x)&&& (BitVec.ofInt k.bits y)).toNat))
 | .or=>some (.int k (k.wrap ((BitVec.ofInt k.bits x)||| (BitVec.ofInt k.bits y)).toNat))
 | .xor=>some (.int k (k.wrap ((BitVec.ofInt k.bits x) ^^^ (BitVec.ofInt k.bits y)).toNat))
 | .andNot=>some (.int k (k.wrap ((BitVec.ofInt k.bits x)&&& ~~~(BitVec.ofInt k.bits y)).toNat))
 | .eql=>some (.bool (x==y))
 | .neq=>some (.bool (x !=y))
 | .lss=>some (.bool (decide (x < y)))
 | .leq=>some (.bool (decide (x<=y)))
 | .gtr=>some (.bool (decide (x > y)))
 | .geq=>some (.bool (decide (x≥y)))
 | _=>none
def FV (op:BinOp) (x y:List UInt8):Option AV:=
 match op with
 | .add=>if x.length+y.length<=2 ^ 40 then some (.str (x++y)) else none
 | .eql=>some (.bool (x==y))
 | .neq=>some (.bool (!(x==y)))
 | .lss=>some (.bool (Op.bytesLess x y))
 | .leq=>some (.bool (Op.bytesLess x y||x==y))
 | .gtr=>some (.bool (!(Op.bytesLess x y||x==y)))
 | .geq=>some (.bool (!(Op.bytesLess x y)))
 | _=>none
def bin (op:BinOp) (x y:AV):Option AV:=
 match x,y with
 | .int k a,.int k' b=>
  (match op with
   | .shl=>if b < 0 then none else some (.int k (k.wrap (a*2 ^ (min b.toNat k.bits))))
   | .shr=>if b < 0 then none else some (.int k (a.fdiv (2 ^ (min b.toNat k.bits))))
   | op=>if k=k' then yQ op k a b else none)
 | .str a,.str b=>FV op a b
 | _,_=>none
def ec:CK->AV->AV->Option Bool
 | .bool,.bool a,.bool b=>some (a==b)
 | .int k,.int k1 a,.int k2 b=>if k1=k/\k2=k then some (a==b) else none
 | .str,.str a,.str b=>some (a==b)
 | _,_,_=>none
def bE:List CK->List AV->List AV->Option Bool
 | [],[],[]=>some true
 | k::ks,x::xs,y::ys=>(match ec k x y,bE ks xs ys with | some a,some b=>some (a&&b) | _,_=>none)
 | _,_,_=>none
def Aa (neg:Bool) (ks:List CK):AV->AV->Option AV
 | .agg xs,.agg ys=>(match bE ks xs ys with | some b=>some (.bool (b !=neg)) | none=>none)
 | _,_=>none
def D0 (neg:Bool):AV->AV->Option AV
 | .bool a,.bool b=>some (.bool ((a==b) !=neg))
 | _,_=>none
def oD:AV->Option Bool
 | .gA=>some true
 | .bV _=>some false
 | .ax ..=>some false
 | _=>none
def D1 (neg:Bool) (x y:AV):Option AV:=
 match x,y with
 | x,.gA=>(match oD x with | some b=>some (.bool (b !=neg)) | none=>none)
 | .gA,y=>(match oD y with | some b=>some (.bool (b !=neg)) | none=>none)
 | _,_=>none
def oh:AV->Option AV
 | .bV cs=>some (.bV cs)
 | .ax id ext e o=>some (.ax id ext e o)
 | .fn f cap=>some (.fn f cap)
 | .bL f cap=>some (.bL f cap)
 | _=>none
def un (op:UnOp) (x:AV):Option AV:=
 match op,x with
 | .neg,.int k n=>some (.int k (k.wrap (0 - n)))
 | .xor,.int k n=>some (.int k (k.wrap ((BitVec.ofInt k.bits (if k.signed then -1 else k.max)) ^^^ (BitVec.ofInt k.bits n)).toNat))
 | .not,.bool b=>some (.bool (!b))
 | _,_=>none
def bL (d m:Nat):Option AV->Option Nat
 | none=>some d
 | some (.int _ i)=>if 0<=i/\i<=(m:Int) then some i.toNat else none
 | some _=>none
def slc (H:List Obj) (sz:Nat) (x:AV) (lo hi:Option AV):Option AV:=
 match x with
 | .ro es=>
  (match bL es.length es.length hi with
   | some h=>(match bL 0 h lo with
    | some l=>if l=h then some (.ro []) else (match es[l]? with
     | some cs=>if cs.length=sz then some (.ro ((es.drop l).take (h - l))) else none
     | none=>none)
    | none=>none)
   | none=>none)
 | .own id ext off len=>
  (match aH H id with
   | some (sz',es)=>if ext=es.length/\sz'=sz then
    (match bL len len hi with
     | some h=>(match bL 0 h lo with
      | some l=>if l=h then (match lo with | none=>some (.own id ext off 0) | some _=>some (qJ (cw H id) es [])) else some (.own id ext (off+l) (h - l))
      | none=>none)
     | none=>none)
    else none
   | none=>none)
 | .bx=>
  (match bL 0 0 hi with
   | some h=>(match bL 0 h lo with | some _=>some .bx | none=>none)
   | none=>none)
 | _=>none
def nO (x:AV) (lo hi:Option AV):Option AV:=
 match x with
 | .str s=>
  (match bL s.length s.length hi with
   | some h=>(match bL 0 h lo with | some l=>some (.str ((s.drop l).take (h - l))) | none=>none)
   | none=>none)
 | _=>none
def lenOf:AV->Option Int
 | .ro es=>some es.length
 | .own _ _ _ l=>some l
 | .arr _ _ _ _ _ l=>some l
 | .bx=>some 0
 | _=>none
def pB (st:Bool) (x:AV):Option Int:=
 if st then (match x with | .str s=>some s.length | _=>none) else lenOf x
def iu (H:List Obj) (sz:Nat) (x i:AV):Option AV:=
 match x,i with
 | .ro es,.int _ n=>if 0<=n then (match es[n.toNat]? with | some cs=>if cs.length=sz then some (.bV cs) else none | none=>none) else none
 | .own id ext off len,.int _ n=>
  (match aH H id with
   | some (sz',es)=>if ext=es.length/\sz'=sz/\0<=n/\n < (len:Int) then some (.ax id ext (off+n.toNat) 0) else none
   | none=>none)
 | .arr id ext e o sz' len,.int _ n=>if sz'=sz/\0<=n/\n < (len:Int) then some (.ax id ext e (o+n.toNat*sz)) else none
 | _,_=>none
def sX (off:Nat):AV->Option AV
 | .bV cs=>if off<=cs.length then some (.bV (cs.drop off)) else none
 | .ax id ext e o=>some (.ax id ext e (o+off))
 | _=>none
def kN (len sz:Nat) (x i:AV):Option AV:=
 match i with
 | .int _ n=>if 0<=n/\n < (len:Int) then sX (n.toNat*sz) x else none
 | _=>none
def lW (len n:Nat) (ag:Bool) (x i:AV):Option AV:=
 match x,i with
 | .agg cs,.int _ j=>if 0<=j/\j < (len:Int) then part n ag cs (j.toNat*n) else none
 | _,_=>none
def nN (x i:AV):Option AV:=
 match x,i with
 | .str s,.int _ j=>if 0<=j then (match s[j.toNat]? with | some b=>some (.int .u8 (b.toNat:Int)) | none=>none) else none
 | _,_=>none
def chunks (sz:Nat):Nat->List AV->List (List AV)
 | 0,_=>[]
 | n+1,cs=>cs.take sz::chunks sz n (cs.drop sz)
def j7 (H:List Obj) (len sz:Nat) (x:AV) (lo hi:Option AV):Option AV:=
 match bL len len hi with
 | some h=>(match bL 0 h lo with
  | some l=>
   (match x with
    | .bV cs=>if l=h then some (.ro []) else if len*sz<=cs.length then some (.ro (chunks sz (h - l) (cs.drop (l*sz)))) else none
    | .ax id ext e o=>if l=h then some (.ro []) else
     (match aH H id with
      | some (SZ,es)=>if ext=es.length/\e < es.length/\o+len*sz<=SZ then some (.arr id ext e (o+l*sz) sz (h - l)) else none
      | none=>none)
    | _=>none)
  | none=>none)
 | none=>none
def gX (H:List Obj) (id ext e o sz len:Nat):Option (List (List AV)):=
 match aH H id with
 | some (_,es)=>if ext=es.length then (match es[e]? with | some cs=>if o+len*sz<=cs.length then some (chunks sz len (cs.drop o)) else none | none=>none) else none
 | none=>none
def mc:List AV->List (Nat×Nat×AV)->Option (List AV)
 | cs,[]=>some cs
 | cs,(o,n,v)::r=>if v.cells.length=n/\o+n<=cs.length/\aX v.cells=true then mc (putAt cs o v.cells) r else none
def jF (sz:Nat):List (List AV)->List (Nat×AV)->Option (List (List AV))
 | es,[]=>some es
 | es,(i,v)::r=>if v.cells.length=sz/\i < es.length/\aX v.cells=true then jF sz (es.set i v.cells) r else none
def di (H:List Obj):AV->Option (List (List AV))
 | .bx=>some []
 | .ro es=>some es
 | .own id ext off len=>
  (match aH H id with
   | some (_,es)=>if ext=es.length then some ((es.drop off).take len) else none
   | none=>none)
 | .str s=>some (s.map fun b=>[.int .u8 (b.toNat:Int)])
 | .arr id ext e o sz len=>gX H id ext e o sz len
 | _=>none
def putObj (H:List Obj) (pl:Nat) (o:Obj):List Obj:=if pl < H.length then H.set pl o else H++[o]
def append (H:List Obj) (pl sz bytes:Nat) (s x:AV):Option (AV×List Obj):=
 match di H x with
 | none=>none
 | some new=>
  if new.all (fun e=>e.length==sz&&aX e)=true then
  match s with
  | .bx=>
   if new=[] then some (.bx,H)
   else if new.length*bytes<=2 ^ 40/\new.length<=2 ^ 40 then some (.own pl new.length 0 new.length,putObj H pl (.live .norm sz new)) else none
  | .own id ext off len=>
   (match aH H id with
    | some (sz',es)=>
     if ext=es.length/\off=0/\len=es.length/\sz'=sz/\(es.length+new.length)*bytes<=2 ^ 40/\es.length+new.length<=2 ^ 40 then
      (if (cw H id).sj=true then some (.own id (es.length+new.length) 0 (es.length+new.length),H.set id (.live (cw H id) sz (es++new)))
       else match (cw H id).qX with
        | some fl=>if id < pl/\es≠[]/\new≠[] then some (.own pl (es.length+new.length) 0 (es.length+new.length),putObj (H.set id (.live fl sz es)) pl (.live .ch sz (es++new))) else none
        | none=>none)
     else none
    | none=>none)
  | _=>none
  else none
def min2:AV->AV->Option AV
 | .int k x,.int _ y=>some (.int k (if y < x then y else x))
 | _,_=>none
def max2:AV->AV->Option AV
 | .int k x,.int _ y=>some (.int k (if y > x then y else x))
 | _,_=>none
def iT (f:AV->AV->Option AV):AV->List AV->Option AV
 | x,[]=>some x
 | x,y::r=>match f x y with | some z=>iT f z r | none=>none
def eR (f:AV->Option AV):List AV->Option (List AV)
 | []=>some []
 | x::xs=>(match f x,eR f xs with | some y,some ys=>some (y::ys) | _,_=>none)
def fV (f:AV->Option AV):List (List AV)->Option (List (List AV))
 | []=>some []
 | x::xs=>(match eR f x,fV f xs with | some y,some ys=>some (y::ys) | _,_=>none)
def Lv (p:AV->Option AV) (H:List Obj) (v:AV):Option AV:=
 match v with
 | .ax id ext e o=>
  (match aH H id with
   | some (_,es)=>if ext=es.length then
    (match es[e]? with
     | some cs=>(match eR p (cs.drop o) with | some l=>some (.bV l) | none=>none)
     | none=>none)
    else none
   | none=>none)
 | v=>p v
def me (k:CK) (x:AV):Nat->List (AV×AV)->Option (Option (Nat×AV))
 | _,[]=>some none
 | i,(y,v)::r=>(match ec k x y with | some true=>some (some (i,v)) | some false=>me k x (i+1) r | none=>none)
def iU (H:List Obj) (id:Nat):Option (List (AV×AV)):=match H[id]? with
 | some (.mp es)=>some es
 | _=>none
def entries (H:List Obj):AV->Option (List (AV×AV))
 | .oo=>some []
 | .mp id=>iU H id
 | _=>none
def ia (H:List Obj) (k:CK) (z:AV) (ok:Bool) (m x:AV):Option AV:=
 match entries H m with
 | some es=>(match me k x 0 es with
  | some (some (_,v))=>some (if ok then .bk [v,.bool true] else v)
  | some none=>some (if ok then .bk [z,.bool false] else z)
  | none=>none)
 | none=>none
def iP (H:List Obj) (m:AV):Option AV:=match entries H m with
 | some es=>some (.int .i64 es.length)
 | none=>none
def AV.set:AV->Bool
 | .any | .bk _=>false
 | _=>true
def hY (H:List Obj) (k:CK) (m x v:AV):Option (List Obj):=
 match m with
 | .mp id=>(match iU H id with
  | some es=>(match me k x 0 es with
   | some (some (i,_))=>some (H.set id (.mp (es.set i (x,v))))
   | some none=>if (ec k x x).isSome then some (H.set id (.mp (es++[(x,v)]))) else none
   | none=>none)
  | none=>none)
 | _=>none
def sK (H:List Obj) (x:AV):Option (AV×List Obj):=
 match x with
 | .oZ id=>(match H[id]? with
  | some (.it s pos)=>if pos < s.length then
   (match Utf8.decode ⟨s.toArray⟩ pos with
    | (c,w)=>some (.bk [.bool true,.int .i64 pos,.int .i32 c],H.set id (.it s (pos+w))))
   else some (.bk [.bool false],H)
  | _=>none)
 | _=>none
def FA:AV->Option AV
 | .int _ n=>some (.str (Utf8.encode n).data.toList)
 | _=>none
def byteOf:List AV->Option UInt8
 | [.int .u8 n]=>some (UInt8.ofNat n.toNat)
 | _=>none
def uk:List (List AV)->Option (List UInt8)
 | []=>some []
 | e::r=>(match byteOf e,uk r with | some b,some l=>some (b::l) | _,_=>none)
def AV.isStr:AV->Bool
 | .str _=>true
 | _=>false
def z6 (H:List Obj) (x:AV):Option AV:=if x.isStr then none else match di H x with
 | some es=>(match uk es with | some l=>some (.str l) | none=>none)
 | none=>none
def pk:Nat->List Obj->AV->Option AV
 | 0,_,v=>if v.eS then some v else none
 | d+1,H,v=>
  if v.eS then some v else
  match v with
  | .own id ext off len=>
   (match aH H id with
    | some (_,es)=>if ext=es.length then
     (match fV (pk d H) ((es.drop off).take len) with | some l=>some (qJ (cw H id) es l) | none=>none)
     else none
    | none=>none)
  | .arr id ext e o sz len=>
   (match gX H id ext e o sz len with
    | some l=>(match fV (pk d H) l with | some l'=>some (.ro l') | none=>none)
    | none=>none)
  | .agg cs=>(match eR (pk d H) cs with | some l=>some (.agg l) | none=>none)
  | .bk cs=>(match eR (pk d H) cs with | some l=>some (.bk l) | none=>none)
  | .fn f cap=>(match eR (Lv (pk d H) H) cap with | some l=>some (.fn f l) | none=>none)
  | _=>none
def snaps (H:List Obj) (xs:List AV):Option (List AV):=eR (pk 6 H) xs
def pack (H:List Obj) (v:AV):Option AV:=pk 6 H v
end Go.Am
