/- The abstract machine: a deterministic interpreter over resolved operations, without addresses: values, operations, code. No condition. -/
import Derived.Calls
import Derived.LoopN
set_option linter.unusedSectionVars false
set_option linter.unusedVariables false
set_option linter.unusedSimpArgs false
namespace Go.Am
inductive AV where
 | any
 | bool (b:Bool)
 | int (k:IntKind) (n:Int)
 | str (s:List UInt8)
 | nilp | nils | nilf | nili | nilm
 | yld (l:Nat)
 | mp (id:Nat)
 | itr (id:Nat)
 | ro (es:List (List AV))
 | own (id ext off len:Nat)
 | pro (cs:List AV)
 | pown (id ext e o:Nat)
 | agg (cs:List AV)
 | tup (vs:List AV)
 | fn (f:Nat) (cap:List AV)
 | bnd (f:Nat) (fst:List AV)
 | arr (id ext e o sz len:Nat)
 deriving Inhabited
inductive Fl where
 | norm | nil | ch | wf | wch | sus | sch
 deriving DecidableEq,Inhabited
def Fl.free:Fl→Bool
 | .norm | .nil=>true
 | _=>false
def Fl.grows:Fl→Bool
 | .norm | .nil | .ch=>true
 | _=>false
def Fl.forked:Fl→Option Fl
 | .wf=>some .sus
 | .wch=>some .sch
 | _=>none
def Fl.sh:Fl→Fl
 | .norm=> .wf
 | .ch=> .wch
 | f=>f
def Fl.res:Fl→Fl
 | .wf | .sus=> .norm
 | .wch | .sch=> .ch
 | f=>f
def Fl.kid:Fl→Bool
 | .ch | .wch | .sch=>true
 | _=>false
def Fl.old:Fl→Bool
 | .sus | .sch=>true
 | _=>false
inductive RX where
 | t (n:Nat)
 | c (v:AV)
 | g (g:Nat)
 deriving Inhabited
inductive CK where
 | bool
 | int (k:IntKind)
 | str
 deriving DecidableEq,Inhabited
inductive RO where
 | bad
 | mov (x:RX)
 | pick (c a b:RX)
 | box (x:RX)
 | alloc (z:List AV)
 | build (z:List AV) (parts:List (Nat×Nat×RX))
 | bsl (sz:Nat) (z:List AV) (len:Nat) (parts:List (Nat×RX))
 | load (n:Nat) (ag:Bool) (a:RX)
 | store (n:Nat) (a x:RX)
 | bin (op:BinOp) (x y:RX)
 | un (op:UnOp) (x:RX)
 | eqA (neg:Bool) (ks:List CK) (x y:RX)
 | eqB (neg:Bool) (x y:RX)
 | eqN (neg:Bool) (x y:RX)
 | eqP (neg:Bool) (x y:RX)
 | nchk (x:RX)
 | conv (k:IntKind) (x:RX)
 | fld (off n:Nat) (ag:Bool) (x:RX)
 | fad (off:Nat) (x:RX)
 | iadS (sz:Nat) (x i:RX)
 | iadA (len sz:Nat) (x i:RX)
 | idxA (len n:Nat) (ag:Bool) (x i:RX)
 | idxS (x i:RX)
 | slc (sz:Nat) (x:RX) (lo hi:Option RX)
 | slcS (x:RX) (lo hi:Option RX)
 | slcA (len sz:Nat) (x:RX) (lo hi:Option RX)
 | mkf (f:Nat) (cap:List RX)
 | mkb (f:Nat) (fst:List RX)
 | mks (sz:Nat) (z:List AV) (bytes:Nat) (len cap:RX)
 | len (st:Bool) (x:RX)
 | app (sz bytes:Nat) (s x:RX)
 | bslr (z:List AV) (len:Nat) (parts:List (Nat×RX))
 | appn (sz:Nat) (z:List AV) (bytes:Nat) (s n:RX)
 | capn (x:RX)
 | mn (l:List RX)
 | mx (l:List RX)
 | call (f:Nat) (args:List RX)
 | callv (f:RX) (args:List RX)
 | mkc (f:Nat) (args:List RX)
 | appf (sz bytes:Nat) (s x:RX)
 | bslf (sz:Nat) (z:List AV) (len:Nat) (parts:List (Nat×RX))
 | ext (x:RX) (i:Nat)
 | mkm
 | mget (k:CK) (z:AV) (ok:Bool) (m x:RX)
 | mset (k:CK) (m x v:RX)
 | mlen (m:RX)
 | rng (x:RX)
 | nxt (x:RX)
 | i2s (x:RX)
 | b2s (x:RX)
 deriving Inhabited
structure ROp where
 dst:Option Nat
 guard:Option (Nat×Bool)
 op:RO
 deriving Inhabited
inductive GA where
 | kill (l:List Nat)
 | trunc (n:Nat)
 | frz (t:Nat)
 | prom (t sz:Nat)
 | promf (t off sz:Nat)
 | frzb (t off:Nat)
 | cut (t:Nat)
 | frzp (t:Nat)
 | wk (l:List Nat)
 | sh (t:Nat)
 | res (t:Nat)
 deriving Inhabited
inductive RC where
 | bad
 | skip
 | reg (ops:List ROp)
 | draw (ops:List ROp)
 | drawX (ops:List ROp) (bf:List Nat)
 | drawW (ops:List (Nat×ROp)) (n:Nat) (ps:List (Nat×Nat))
 | seq (a b:RC)
 | cond (x:RX) (a b:RC)
 | block (id:Nat) (b:RC)
 | loop (b:RC)
 | exit (id:Nat)
 | ret
 | gh (pre:List GA) (r:RC) (post:List GA)
 | rfn (g:RX) (ps:List Nat) (asg body:RC)
 deriving Inhabited
inductive Ex where
 | normal
 | exit (id:Nat)
 | ret
 deriving DecidableEq,Inhabited
inductive Ls where
 | ready | busy
 | done (e:Ex)
 deriving DecidableEq,Inhabited
inductive Obj where
 | live (nl:Fl) (sz:Nat) (es:List (List AV))
 | dead
 | rsv
 | mp (es:List (AV×AV))
 | it (s:List UInt8) (pos:Nat)
 | lp (st:Ls) (t:List AV) (ps:List Nat) (asg body:RC)
 deriving Inhabited
def Obj.sp:Obj→Bool
 | .mp _ | .it .. | .lp ..=>true
 | _=>false
structure RF where
 nargs:Nat
 ntmps:Nat
 results:List (Sum Nat (Nat×Nat×Bool))
 body:RC
 deriving Inhabited
structure Env where
 fns:Nat→Option RF
 glob:Nat→List AV
structure St where
 tmps:List AV
 H:List Obj
mutual
def AV.flat:AV→Bool
 | .ro _ | .own .. | .pro _ | .pown .. | .fn .. | .bnd .. | .arr .. | .yld _ | .mp _ | .itr _=>false
 | .agg cs=>AV.flats cs
 | .tup cs=>AV.flats cs
 | _=>true
def AV.flats:List AV→Bool
 | []=>true
 | x::xs=>x.flat&&AV.flats xs
end
mutual
def AV.bel (n:Nat):AV→Bool
 | .own id _ _ _=>id < n
 | .pown id _ _ _=>id < n
 | .arr id _ _ _ _ _=>id < n
 | .yld id=>id < n
 | .mp id=>id < n
 | .itr id=>id < n
 | .agg cs=>AV.bels n cs
 | .tup cs=>AV.bels n cs
 | .fn _ cs=>AV.bels n cs
 | .bnd _ cs=>AV.bels n cs
 | _=>true
def AV.bels (n:Nat):List AV→Bool
 | []=>true
 | x::xs=>x.bel n&&AV.bels n xs
def AV.belss (n:Nat):List (List AV)→Bool
 | []=>true
 | x::xs=>AV.bels n x&&AV.belss n xs
end
abbrev AV.refFree (v:AV):Bool:=v.bel 0
def RX.ev (G:Nat→List AV) (t:List AV):RX→AV
 | .t n=>t.getD n .any
 | .c v=>v
 | .g n=> .pro (G n)
def AV.wk1:AV→AV
 | .nils=> .ro []
 | v=>v
def AV.wk2:AV→AV
 | .nils=> .ro []
 | .agg cs=> .agg (cs.map AV.wk1)
 | v=>v
def AV.wk:AV→AV
 | .nils=> .ro []
 | .agg cs=> .agg (cs.map AV.wk1)
 | .tup vs=> .tup (vs.map AV.wk2)
 | v=>v
def Obj.wk:Obj→Obj
 | .live nl sz es=> .live nl sz (es.map fun cs=>cs.map AV.wk1)
 | o=>o
def wkH (H:List Obj):AV→List Obj
 | .pown id _ _ _=>(match H[id]? with | some o=>H.set id o.wk | none=>H)
 | .own id _ _ _=>(match H[id]? with | some o=>H.set id o.wk | none=>H)
 | _=>H
def AV.cells:AV→List AV
 | .agg cs=>cs
 | v=>[v]
def AV.one:AV→Bool
 | .any | .agg _ | .tup _=>false
 | _=>true
def putAt:List AV→Nat→List AV→List AV
 | cs,_,[]=>cs
 | cs,o,x::xs=>putAt (cs.set o x) (o+1) xs
def allOne:List AV→Bool
 | []=>true
 | x::xs=>x.one&&allOne xs
def part (n:Nat) (ag:Bool) (cs:List AV) (o:Nat):Option AV:=
 if ag then (if o+n≤cs.length then some (.agg ((cs.drop o).take n)) else none) else cs[o]?
def getLive (H:List Obj) (id:Nat):Option (Nat×List (List AV)):=
 match H[id]? with
 | some (.live _ sz es)=>some (sz,es)
 | _=>none
def nlAt (H:List Obj) (id:Nat):Fl:=
 match H[id]? with
 | some (.live nl _ _)=>nl
 | _=> .norm
def roOf (_:Fl) (_ es:List (List AV)):AV:= .ro es
def isNil (H:List Obj):AV→Option Bool
 | .nils=>some true
 | .ro es=>(match es with | []=>none | _::_=>some false)
 | .own id ext _ _=>(match getLive H id with
  | some (_,es)=>if ext=es.length then some (decide (nlAt H id= .nil)&&es.isEmpty) else none
  | none=>none)
 | _=>none
def eqN (H:List Obj) (neg:Bool) (x y:AV):Option AV:=
 match x,y with
 | x,.nils=>(match isNil H x with | some b=>some (.bool (b !=neg)) | none=>none)
 | .nils,y=>(match isNil H y with | some b=>some (.bool (b !=neg)) | none=>none)
 | _,_=>none
def loadAt (H:List Obj) (n:Nat) (ag:Bool):AV→Option AV
 | .pro cs=>part n ag cs 0
 | .pown id ext e o=>
  match getLive H id with
  | some (_,es)=>if ext=es.length then (match es[e]? with | some cs=>part n ag cs o | none=>none) else none
  | none=>none
 | _=>none
def storeAt (H:List Obj) (n:Nat) (a x:AV):Option (List Obj):=
 match a with
 | .pown id ext e o=>
  match getLive H id with
  | some (sz,es)=>
   if ext=es.length∧x.cells.length=n∧o+n≤sz∧allOne x.cells=true∧(nlAt H id).free=true then
    (match es[e]? with | some cs=>some (H.set id (.live (nlAt H id) sz (es.set e (putAt cs o x.cells)))) | none=>none)
   else none
  | none=>none
 | _=>none
def binI (op:BinOp) (k:IntKind) (x y:Int):Option AV:=
 match op with
 | .add=>some (.int k (k.wrap (x+y)))
 | .sub=>some (.int k (k.wrap (x - y)))
 | .mul=>some (.int k (k.wrap (x*y)))
 | .quo=>if y=0 then none else some (.int k (k.wrap (x.tdiv y)))
 | .rem=>if y=0 then none else some (.int k (x.tmod y))
 | .and=>some (.int k (k.wrap ((BitVec.ofInt k.bits x)&&& (BitVec.ofInt k.bits y)).toNat))
 | .or=>some (.int k (k.wrap ((BitVec.ofInt k.bits x)||| (BitVec.ofInt k.bits y)).toNat))
 | .xor=>some (.int k (k.wrap ((BitVec.ofInt k.bits x) ^^^ (BitVec.ofInt k.bits y)).toNat))
 | .andNot=>some (.int k (k.wrap ((BitVec.ofInt k.bits x)&&& ~~~(BitVec.ofInt k.bits y)).toNat))
 | .eql=>some (.bool (x==y))
 | .neq=>some (.bool (x !=y))
 | .lss=>some (.bool (decide (x < y)))
 | .leq=>some (.bool (decide (x≤y)))
 | .gtr=>some (.bool (decide (x > y)))
 | .geq=>some (.bool (decide (x≥y)))
 | _=>none
def binS (op:BinOp) (x y:List UInt8):Option AV:=
 match op with
 | .add=>if x.length+y.length≤2 ^ 40 then some (.str (x++y)) else none
 | .eql=>some (.bool (x==y))
 | .neq=>some (.bool (!(x==y)))
 | .lss=>some (.bool (Op.bytesLess x y))
 | .leq=>some (.bool (Op.bytesLess x y||x==y))
 | .gtr=>some (.bool (!(Op.bytesLess x y||x==y)))
 | .geq=>some (.bool (!(Op.bytesLess x y)))
 | _=>none
def bin (op:BinOp) (x y:AV):Option AV:=
 match x,y with
 | .int k a,.int k' b=>
  (match op with
   | .shl=>if b < 0 then none else some (.int k (k.wrap (a*2 ^ (min b.toNat k.bits))))
   | .shr=>if b < 0 then none else some (.int k (a.fdiv (2 ^ (min b.toNat k.bits))))
   | op=>if k=k' then binI op k a b else none)
 | .str a,.str b=>binS op a b
 | _,_=>none
def eqCell:CK→AV→AV→Option Bool
 | .bool,.bool a,.bool b=>some (a==b)
 | .int k,.int k1 a,.int k2 b=>if k1=k∧k2=k then some (a==b) else none
 | .str,.str a,.str b=>some (a==b)
 | _,_,_=>none
def eqCells:List CK→List AV→List AV→Option Bool
 | [],[],[]=>some true
 | k::ks,x::xs,y::ys=>(match eqCell k x y,eqCells ks xs ys with | some a,some b=>some (a&&b) | _,_=>none)
 | _,_,_=>none
def eqA (neg:Bool) (ks:List CK):AV→AV→Option AV
 | .agg xs,.agg ys=>(match eqCells ks xs ys with | some b=>some (.bool (b !=neg)) | none=>none)
 | _,_=>none
def eqB (neg:Bool):AV→AV→Option AV
 | .bool a,.bool b=>some (.bool ((a==b) !=neg))
 | _,_=>none
def isNilP:AV→Option Bool
 | .nilp=>some true
 | .pro _=>some false
 | .pown ..=>some false
 | _=>none
def eqP (neg:Bool) (x y:AV):Option AV:=
 match x,y with
 | x,.nilp=>(match isNilP x with | some b=>some (.bool (b !=neg)) | none=>none)
 | .nilp,y=>(match isNilP y with | some b=>some (.bool (b !=neg)) | none=>none)
 | _,_=>none
def nchk:AV→Option AV
 | .pro cs=>some (.pro cs)
 | .pown id ext e o=>some (.pown id ext e o)
 | .fn f cap=>some (.fn f cap)
 | .bnd f cap=>some (.bnd f cap)
 | _=>none
def un (op:UnOp) (x:AV):Option AV:=
 match op,x with
 | .neg,.int k n=>some (.int k (k.wrap (0 - n)))
 | .xor,.int k n=>some (.int k (k.wrap ((BitVec.ofInt k.bits (if k.signed then -1 else k.max)) ^^^ (BitVec.ofInt k.bits n)).toNat))
 | .not,.bool b=>some (.bool (!b))
 | _,_=>none
def bnd (d m:Nat):Option AV→Option Nat
 | none=>some d
 | some (.int _ i)=>if 0≤i∧i≤(m:Int) then some i.toNat else none
 | some _=>none
def slc (H:List Obj) (sz:Nat) (x:AV) (lo hi:Option AV):Option AV:=
 match x with
 | .ro es=>
  (match bnd es.length es.length hi with
   | some h=>(match bnd 0 h lo with
    | some l=>if l=h then some (.ro []) else (match es[l]? with
     | some cs=>if cs.length=sz then some (.ro ((es.drop l).take (h - l))) else none
     | none=>none)
    | none=>none)
   | none=>none)
 | .own id ext off len=>
  (match getLive H id with
   | some (sz',es)=>if ext=es.length∧sz'=sz then
    (match bnd len len hi with
     | some h=>(match bnd 0 h lo with
      | some l=>if l=h then (match lo with | none=>some (.own id ext off 0) | some _=>some (roOf (nlAt H id) es [])) else some (.own id ext (off+l) (h - l))
      | none=>none)
     | none=>none)
    else none
   | none=>none)
 | .nils=>
  (match bnd 0 0 hi with
   | some h=>(match bnd 0 h lo with | some _=>some .nils | none=>none)
   | none=>none)
 | _=>none
def slcS (x:AV) (lo hi:Option AV):Option AV:=
 match x with
 | .str s=>
  (match bnd s.length s.length hi with
   | some h=>(match bnd 0 h lo with | some l=>some (.str ((s.drop l).take (h - l))) | none=>none)
   | none=>none)
 | _=>none
def lenOf:AV→Option Int
 | .ro es=>some es.length
 | .own _ _ _ l=>some l
 | .arr _ _ _ _ _ l=>some l
 | .nils=>some 0
 | _=>none
def lenOp (st:Bool) (x:AV):Option Int:=
 if st then (match x with | .str s=>some s.length | _=>none) else lenOf x
def iadS (H:List Obj) (sz:Nat) (x i:AV):Option AV:=
 match x,i with
 | .ro es,.int _ n=>if 0≤n then (match es[n.toNat]? with | some cs=>if cs.length=sz then some (.pro cs) else none | none=>none) else none
 | .own id ext off len,.int _ n=>
  (match getLive H id with
   | some (sz',es)=>if ext=es.length∧sz'=sz∧0≤n∧n < (len:Int) then some (.pown id ext (off+n.toNat) 0) else none
   | none=>none)
 | .arr id ext e o sz' len,.int _ n=>if sz'=sz∧0≤n∧n < (len:Int) then some (.pown id ext e (o+n.toNat*sz)) else none
 | _,_=>none
def fad (off:Nat):AV→Option AV
 | .pro cs=>if off≤cs.length then some (.pro (cs.drop off)) else none
 | .pown id ext e o=>some (.pown id ext e (o+off))
 | _=>none
def iadA (len sz:Nat) (x i:AV):Option AV:=
 match i with
 | .int _ n=>if 0≤n∧n < (len:Int) then fad (n.toNat*sz) x else none
 | _=>none
def idxA (len n:Nat) (ag:Bool) (x i:AV):Option AV:=
 match x,i with
 | .agg cs,.int _ j=>if 0≤j∧j < (len:Int) then part n ag cs (j.toNat*n) else none
 | _,_=>none
def idxS (x i:AV):Option AV:=
 match x,i with
 | .str s,.int _ j=>if 0≤j then (match s[j.toNat]? with | some b=>some (.int .u8 (b.toNat:Int)) | none=>none) else none
 | _,_=>none
def chunks (sz:Nat):Nat→List AV→List (List AV)
 | 0,_=>[]
 | n+1,cs=>cs.take sz::chunks sz n (cs.drop sz)
def slcA (H:List Obj) (len sz:Nat) (x:AV) (lo hi:Option AV):Option AV:=
 match bnd len len hi with
 | some h=>(match bnd 0 h lo with
  | some l=>
   (match x with
    | .pro cs=>if l=h then some (.ro []) else if len*sz≤cs.length then some (.ro (chunks sz (h - l) (cs.drop (l*sz)))) else none
    | .pown id ext e o=>if l=h then some (.ro []) else
     (match getLive H id with
      | some (SZ,es)=>if ext=es.length∧e < es.length∧o+len*sz≤SZ then some (.arr id ext e (o+l*sz) sz (h - l)) else none
      | none=>none)
    | _=>none)
  | none=>none)
 | none=>none
def arrElems (H:List Obj) (id ext e o sz len:Nat):Option (List (List AV)):=
 match getLive H id with
 | some (_,es)=>if ext=es.length then (match es[e]? with | some cs=>if o+len*sz≤cs.length then some (chunks sz len (cs.drop o)) else none | none=>none) else none
 | none=>none
def fillA:List AV→List (Nat×Nat×AV)→Option (List AV)
 | cs,[]=>some cs
 | cs,(o,n,v)::r=>if v.cells.length=n∧o+n≤cs.length∧allOne v.cells=true then fillA (putAt cs o v.cells) r else none
def fillS (sz:Nat):List (List AV)→List (Nat×AV)→Option (List (List AV))
 | es,[]=>some es
 | es,(i,v)::r=>if v.cells.length=sz∧i < es.length∧allOne v.cells=true then fillS sz (es.set i v.cells) r else none
def elemsOf (H:List Obj):AV→Option (List (List AV))
 | .nils=>some []
 | .ro es=>some es
 | .own id ext off len=>
  (match getLive H id with
   | some (_,es)=>if ext=es.length then some ((es.drop off).take len) else none
   | none=>none)
 | .str s=>some (s.map fun b=>[.int .u8 (b.toNat:Int)])
 | .arr id ext e o sz len=>arrElems H id ext e o sz len
 | _=>none
def putObj (H:List Obj) (pl:Nat) (o:Obj):List Obj:=if pl < H.length then H.set pl o else H++[o]
def append (H:List Obj) (pl sz bytes:Nat) (s x:AV):Option (AV×List Obj):=
 match elemsOf H x with
 | none=>none
 | some new=>
  if new.all (fun e=>e.length==sz&&allOne e)=true then
  match s with
  | .nils=>
   if new=[] then some (.nils,H)
   else if new.length*bytes≤2 ^ 40∧new.length≤2 ^ 40 then some (.own pl new.length 0 new.length,putObj H pl (.live .norm sz new)) else none
  | .own id ext off len=>
   (match getLive H id with
    | some (sz',es)=>
     if ext=es.length∧off=0∧len=es.length∧sz'=sz∧(es.length+new.length)*bytes≤2 ^ 40∧es.length+new.length≤2 ^ 40 then
      (if (nlAt H id).grows=true then some (.own id (es.length+new.length) 0 (es.length+new.length),H.set id (.live (nlAt H id) sz (es++new)))
       else match (nlAt H id).forked with
        | some fl=>if id < pl∧es≠[]∧new≠[] then some (.own pl (es.length+new.length) 0 (es.length+new.length),putObj (H.set id (.live fl sz es)) pl (.live .ch sz (es++new))) else none
        | none=>none)
     else none
    | none=>none)
  | _=>none
  else none
def min2:AV→AV→Option AV
 | .int k x,.int _ y=>some (.int k (if y < x then y else x))
 | _,_=>none
def max2:AV→AV→Option AV
 | .int k x,.int _ y=>some (.int k (if y > x then y else x))
 | _,_=>none
def foldO (f:AV→AV→Option AV):AV→List AV→Option AV
 | x,[]=>some x
 | x,y::r=>match f x y with | some z=>foldO f z r | none=>none
def mapO (f:AV→Option AV):List AV→Option (List AV)
 | []=>some []
 | x::xs=>(match f x,mapO f xs with | some y,some ys=>some (y::ys) | _,_=>none)
def mapOO (f:AV→Option AV):List (List AV)→Option (List (List AV))
 | []=>some []
 | x::xs=>(match mapO f x,mapOO f xs with | some y,some ys=>some (y::ys) | _,_=>none)
def pkc (p:AV→Option AV) (H:List Obj) (v:AV):Option AV:=
 match v with
 | .pown id ext e o=>
  (match getLive H id with
   | some (_,es)=>if ext=es.length then
    (match es[e]? with
     | some cs=>(match mapO p (cs.drop o) with | some l=>some (.pro l) | none=>none)
     | none=>none)
    else none
   | none=>none)
 | v=>p v
def mfind (k:CK) (x:AV):Nat→List (AV×AV)→Option (Option (Nat×AV))
 | _,[]=>some none
 | i,(y,v)::r=>(match eqCell k x y with | some true=>some (some (i,v)) | some false=>mfind k x (i+1) r | none=>none)
def getMp (H:List Obj) (id:Nat):Option (List (AV×AV)):=match H[id]? with
 | some (.mp es)=>some es
 | _=>none
def entries (H:List Obj):AV→Option (List (AV×AV))
 | .nilm=>some []
 | .mp id=>getMp H id
 | _=>none
def mget (H:List Obj) (k:CK) (z:AV) (ok:Bool) (m x:AV):Option AV:=
 match entries H m with
 | some es=>(match mfind k x 0 es with
  | some (some (_,v))=>some (if ok then .tup [v,.bool true] else v)
  | some none=>some (if ok then .tup [z,.bool false] else z)
  | none=>none)
 | none=>none
def mlen (H:List Obj) (m:AV):Option AV:=match entries H m with
 | some es=>some (.int .i64 es.length)
 | none=>none
def AV.set:AV→Bool
 | .any | .tup _=>false
 | _=>true
def mset (H:List Obj) (k:CK) (m x v:AV):Option (List Obj):=
 match m with
 | .mp id=>(match getMp H id with
  | some es=>(match mfind k x 0 es with
   | some (some (i,_))=>some (H.set id (.mp (es.set i (x,v))))
   | some none=>if (eqCell k x x).isSome then some (H.set id (.mp (es++[(x,v)]))) else none
   | none=>none)
  | none=>none)
 | _=>none
def nxt (H:List Obj) (x:AV):Option (AV×List Obj):=
 match x with
 | .itr id=>(match H[id]? with
  | some (.it s pos)=>if pos < s.length then
   (match Utf8.decode ⟨s.toArray⟩ pos with
    | (c,w)=>some (.tup [.bool true,.int .i64 pos,.int .i32 c],H.set id (.it s (pos+w))))
   else some (.tup [.bool false],H)
  | _=>none)
 | _=>none
def i2s:AV→Option AV
 | .int _ n=>some (.str (Utf8.encode n).data.toList)
 | _=>none
def byteOf:List AV→Option UInt8
 | [.int .u8 n]=>some (UInt8.ofNat n.toNat)
 | _=>none
def bytesO:List (List AV)→Option (List UInt8)
 | []=>some []
 | e::r=>(match byteOf e,bytesO r with | some b,some l=>some (b::l) | _,_=>none)
def AV.isStr:AV→Bool
 | .str _=>true
 | _=>false
def b2s (H:List Obj) (x:AV):Option AV:=if x.isStr then none else match elemsOf H x with
 | some es=>(match bytesO es with | some l=>some (.str l) | none=>none)
 | none=>none
def pk:Nat→List Obj→AV→Option AV
 | 0,_,v=>if v.refFree then some v else none
 | d+1,H,v=>
  if v.refFree then some v else
  match v with
  | .own id ext off len=>
   (match getLive H id with
    | some (_,es)=>if ext=es.length then
     (match mapOO (pk d H) ((es.drop off).take len) with | some l=>some (roOf (nlAt H id) es l) | none=>none)
     else none
    | none=>none)
  | .arr id ext e o sz len=>
   (match arrElems H id ext e o sz len with
    | some l=>(match mapOO (pk d H) l with | some l'=>some (.ro l') | none=>none)
    | none=>none)
  | .agg cs=>(match mapO (pk d H) cs with | some l=>some (.agg l) | none=>none)
  | .tup cs=>(match mapO (pk d H) cs with | some l=>some (.tup l) | none=>none)
  | .fn f cap=>(match mapO (pkc (pk d H) H) cap with | some l=>some (.fn f l) | none=>none)
  | _=>none
def snaps (H:List Obj) (xs:List AV):Option (List AV):=mapO (pk 6 H) xs
def pack (H:List Obj) (v:AV):Option AV:=pk 6 H v
end Go.Am
