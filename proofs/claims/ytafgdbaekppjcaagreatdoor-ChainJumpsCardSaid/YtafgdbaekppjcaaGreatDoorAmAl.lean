/- Parts of my machine and its laws, joined: AmAl AmA. No condition. -/
import Derived.Calls
import Derived.Lib.SlicesCompact
import Derived.LoopN
set_option linter.unusedSectionVars false
set_option linter.unusedVariables false
set_option linter.unusedSimpArgs false
section
theorem za:type_of% @Option.bind_some:=@Option.bind_some
theorem za0:type_of% @Bool.and_eq_true:=@Bool.and_eq_true
theorem za1:type_of% @List.getElem?_eq_getElem:=@List.getElem?_eq_getElem
theorem za2:type_of% @Option.some.injEq:=@Option.some.injEq
theorem za3:type_of% @Nat.eq_of_beq_eq_true:=@Nat.eq_of_beq_eq_true
theorem za4:type_of% @Prod.mk.injEq:=@Prod.mk.injEq
theorem za5:type_of% @List.map_cons:=@List.map_cons
theorem za6:type_of% @List.getElem?_set_ne:=@List.getElem?_set_ne
theorem za7:type_of% @Nat.le_refl:=@Nat.le_refl
theorem za8:type_of% @List.length_append:=@List.length_append
theorem za9:type_of% @Bool.false_eq_true:=@Bool.false_eq_true
theorem zaa:type_of% @List.length_map:=@List.length_map
theorem zab:type_of% @List.getElem?_eq_some_iff:=@List.getElem?_eq_some_iff
theorem zac:type_of% @List.mem_range:=@List.mem_range
theorem zad:type_of% @List.mem_cons:=@List.mem_cons
theorem zae:type_of% @List.exists_of_findSome?_eq_some:=@List.exists_of_findSome?_eq_some
theorem zaf:type_of% @List.all_eq_true:=@List.all_eq_true
theorem zag:type_of% @Nat.mul_le_mul_right:=@Nat.mul_le_mul_right
theorem zah:type_of% @List.take_of_length_le:=@List.take_of_length_le
theorem zai:type_of% @List.getElem?_append_left:=@List.getElem?_append_left
theorem zaj:type_of% @List.getElem?_append_right:=@List.getElem?_append_right
theorem zak:type_of% @Nat.lt_or_ge:=@Nat.lt_or_ge
theorem zal:type_of% @List.map_append:=@List.map_append
theorem zam:type_of% @Array.getElem?_eq_getElem:=@Array.getElem?_eq_getElem
theorem zan:type_of% @Array.getElem?_eq_none:=@Array.getElem?_eq_none
theorem zao:type_of% @List.getElem?_eq_none:=@List.getElem?_eq_none
theorem zap:type_of% @List.length_replicate:=@List.length_replicate
theorem zaq:type_of% @List.getElem?_cons_zero:=@List.getElem?_cons_zero
theorem zar:type_of% @List.getElem_take:=@List.getElem_take
theorem zas:type_of% @List.getElem_drop:=@List.getElem_drop
theorem zat:type_of% @Bool.or_eq_true:=@Bool.or_eq_true
theorem zau:type_of% @List.mem_cons_of_mem:=@List.mem_cons_of_mem
theorem zav:type_of% @List.getElem?_map:=@List.getElem?_map
theorem zaw:type_of% @Int.toNat_natCast:=@Int.toNat_natCast
theorem zax:type_of% @List.getElem_mem:=@List.getElem_mem
theorem zay:type_of% @List.getElem_map:=@List.getElem_map
theorem zaz:type_of% @Option.getD_some:=@Option.getD_some
theorem zaA:type_of% @List.length_singleton:=@List.length_singleton
theorem zaB:type_of% @Nat.le_of_ble_eq_true:=@Nat.le_of_ble_eq_true
theorem zaC:type_of% @Nat.add_mul:=@Nat.add_mul
theorem zaD:type_of% @Nat.zero_add:=@Nat.zero_add
theorem zaE:type_of% @List.getElem_of_mem:=@List.getElem_of_mem
theorem zaF:type_of% @List.getElem_cons_zero:=@List.getElem_cons_zero
theorem zaG:type_of% @List.getElem?_set_self:=@List.getElem?_set_self
theorem zaH:type_of% @List.append_assoc:=@List.append_assoc
theorem zaI:type_of% @Nat.le_trans:=@Nat.le_trans
theorem zaJ:type_of% @List.pairwise_cons:=@List.pairwise_cons
theorem zaK:type_of% @List.length_cons:=@List.length_cons
theorem zaL:type_of% @List.cons.injEq:=@List.cons.injEq
theorem zaM:type_of% @List.cons_append:=@List.cons_append
theorem zaN:type_of% @Option.map_some:=@Option.map_some
theorem zaO:type_of% @Nat.zero_le:=@Nat.zero_le
theorem zaP:type_of% @List.mem_cons_self:=@List.mem_cons_self
theorem zaQ:type_of% @List.getElem_append_right:=@List.getElem_append_right
theorem zaR:type_of% @List.map_congr_left:=@List.map_congr_left
theorem zaS:type_of% @Bool.true_and:=@Bool.true_and
theorem zaT:type_of% @List.mem_map:=@List.mem_map
theorem zaU:type_of% @List.getElem_append_left:=@List.getElem_append_left
theorem zaV:type_of% @List.not_mem_nil:=@List.not_mem_nil
theorem zaW:type_of% @List.drop_zero:=@List.drop_zero
theorem zaX:type_of% @Array.getElem?_eq_some_iff:=@Array.getElem?_eq_some_iff
theorem zaY:type_of% @List.findSome?_cons:=@List.findSome?_cons
theorem zaZ:type_of% @List.mem_append:=@List.mem_append
theorem zb:type_of% @List.flatten_cons:=@List.flatten_cons
theorem zb0:type_of% @List.flatMap_cons:=@List.flatMap_cons
theorem zb1:type_of% @Bool.not_true:=@Bool.not_true
theorem zb2:type_of% @Nat.one_mul:=@Nat.one_mul
theorem zb3:type_of% @List.length_pos_iff:=@List.length_pos_iff
theorem zb4:type_of% @List.ext_getElem:=@List.ext_getElem
theorem zb5:type_of% @Array.getElem?_append_left:=@Array.getElem?_append_left
theorem zb6:type_of% @List.map_map:=@List.map_map
theorem zb7:type_of% @Nat.add_zero:=@Nat.add_zero
theorem zb8:type_of% @List.take_add_one:=@List.take_add_one
theorem zb9:type_of% @Nat.lt_of_lt_of_le:=@Nat.lt_of_lt_of_le
theorem zba:type_of% @List.mem_singleton:=@List.mem_singleton
theorem zbb:type_of% @List.length_set:=@List.length_set
theorem zbc:type_of% @List.length_take:=@List.length_take
theorem zbd:type_of% @List.any_eq_false:=@List.any_eq_false
theorem zbe:type_of% @Bool.not_eq_true':=@Bool.not_eq_true'
theorem zbf:type_of% @Option.bind_eq_some_iff:=@Option.bind_eq_some_iff
theorem zbg:type_of% @Option.some.inj:=@Option.some.inj
theorem zbh:type_of% @List.set_cons_zero:=@List.set_cons_zero
theorem zbi:type_of% @List.getElem_range:=@List.getElem_range
theorem zbj:type_of% @Nat.lt_of_succ_lt_succ:=@Nat.lt_of_succ_lt_succ
theorem zbk:type_of% @Classical.byContradiction:=@Classical.byContradiction
theorem zbl:type_of% @Nat.sub_self:=@Nat.sub_self
theorem zbm:type_of% @List.append_nil:=@List.append_nil
theorem zbn:type_of% @List.getElem?_take:=@List.getElem?_take
theorem zbo:type_of% @Array.getD_eq_getD_getElem?:=@Array.getD_eq_getD_getElem?
theorem zbp:type_of% @Array.ext':=@Array.ext'
theorem zbq:type_of% @List.any_eq_true:=@List.any_eq_true
theorem zbr:type_of% @List.take_length:=@List.take_length
theorem zbs:type_of% @Nat.le_max_right:=@Nat.le_max_right
theorem zbt:type_of% @List.findSome?_eq_none_iff:=@List.findSome?_eq_none_iff
theorem zbu:type_of% @List.getD_eq_getElem?_getD:=@List.getD_eq_getElem?_getD
theorem zbv:type_of% @Nat.mul_one:=@Nat.mul_one
theorem zbw:type_of% @List.getElem_set_ne:=@List.getElem_set_ne
theorem zbx:type_of% @Array.getElem?_push:=@Array.getElem?_push
theorem zby:type_of% @Nat.le_max_left:=@Nat.le_max_left
theorem zbz:type_of% @List.getElem?_toArray:=@List.getElem?_toArray
theorem zbA:type_of% @List.eq_nil_of_length_eq_zero:=@List.eq_nil_of_length_eq_zero
theorem zbB:type_of% @List.map_replicate:=@List.map_replicate
theorem zbC:type_of% @Array.getElem_toList:=@Array.getElem_toList
theorem zbD:type_of% @List.pairwise_append:=@List.pairwise_append
theorem zbE:type_of% @List.getElem?_cons_succ:=@List.getElem?_cons_succ
theorem zbF:type_of% @List.nodup_cons:=@List.nodup_cons
theorem zbG:type_of% @List.replicate_succ:=@List.replicate_succ
theorem zbH:type_of% @List.map_take:=@List.map_take
theorem zbI:type_of% @List.all_cons:=@List.all_cons
theorem zbJ:type_of% @List.nodup_iff_pairwise_ne:=@List.nodup_iff_pairwise_ne
theorem zbK:type_of% @Bool.or_true:=@Bool.or_true
theorem zbL:type_of% @List.ext_getElem?:=@List.ext_getElem?
theorem zbM:type_of% @Bool.and_self:=@Bool.and_self
theorem zbN:type_of% @Bool.false_or:=@Bool.false_or
theorem zbO:type_of% @List.getElem?_replicate:=@List.getElem?_replicate
theorem zbP:type_of% @List.drop_drop:=@List.drop_drop
theorem zbQ:type_of% @List.getElem_cons_succ:=@List.getElem_cons_succ
theorem zbR:type_of% @Array.getElem?_extract:=@Array.getElem?_extract
theorem zbS:type_of% @List.map_set:=@List.map_set
theorem zbT:type_of% @List.singleton_append:=@List.singleton_append
theorem zbU:type_of% @List.take_append_drop:=@List.take_append_drop
theorem zbV:type_of% @Nat.blt_eq:=@Nat.blt_eq
theorem zbW:type_of% @Bool.or_eq_false_iff:=@Bool.or_eq_false_iff
theorem zbX:type_of% @List.range_eq_range':=@List.range_eq_range'
theorem zbY:type_of% @List.getElem_set:=@List.getElem_set
theorem zbZ:type_of% @List.take_succ_cons:=@List.take_succ_cons
theorem zc:type_of% @List.map_drop:=@List.map_drop
theorem zc0:type_of% @Nat.lt_irrefl:=@Nat.lt_irrefl
theorem zc1:type_of% @List.any_cons:=@List.any_cons
theorem zc2:type_of% @List.range_succ:=@List.range_succ
theorem zc3:type_of% @List.nil_append:=@List.nil_append
theorem zc4:type_of% @Nat.mod_lt:=@Nat.mod_lt
end
section
namespace Go.Am
inductive AV where
 | any
 | bool (b:Bool)
 | int (k:IntKind) (n:Int)
 | str (s:List UInt8)
 | gZ | bF | jw | nu | pO
 | fA (l:Nat)
 | mp (id:Nat)
 | qB (id:Nat)
 | ro (es:List (List AV))
 | own (id ext off len:Nat)
 | bR (cs:List AV)
 | aJ (id ext e o:Nat)
 | agg (cs:List AV)
 | aY (vs:List AV)
 | fn (f:Nat) (cap:List AV)
 | eD (f:Nat) (fst:List AV)
 | arr (id ext e o sz len:Nat)
 deriving Inhabited
inductive Fl where
 | norm | nil | ch | wf | wch | sus | sch
 deriving DecidableEq,Inhabited
def Fl.free:Fl->Bool
 | .norm | .nil=>true
 | _=>false
def Fl.uf:Fl->Bool
 | .norm | .nil | .ch=>true
 | _=>false
def Fl.sR:Fl->Option Fl
 | .wf=>some .sus
 | .wch=>some .sch
 | _=>none
def Fl.sh:Fl->Fl
 | .norm=> .wf
 | .ch=> .wch
 | f=>f
def Fl.res:Fl->Fl
 | .wf | .sus=> .norm
 | .wch | .sch=> .ch
 | f=>f
def Fl.CC:Fl->Bool
 | .ch | .wch | .sch=>true
 | _=>false
def Fl.old:Fl->Bool
 | .sus | .sch=>true
 | _=>false
inductive RX where
 | t (n:Nat)
 | c (v:AV)
 | g (g:Nat)
 deriving Inhabited
inductive CK where
 | bool
 | int (k:IntKind)
 | str
 deriving DecidableEq,Inhabited
inductive RO where
 | bad
 | Ho (x:RX)
 | pick (c a b:RX)
 | box (x:RX)
 | alloc (z:List AV)
 | build (z:List AV) (parts:List (Nat×Nat×RX))
 | u0 (sz:Nat) (z:List AV) (len:Nat) (parts:List (Nat×RX))
 | load (n:Nat) (ag:Bool) (a:RX)
 | store (n:Nat) (a x:RX)
 | bin (op:BinOp) (x y:RX)
 | un (op:UnOp) (x:RX)
 | Cz (neg:Bool) (ks:List CK) (x y:RX)
 | Hp (neg:Bool) (x y:RX)
 | AS (neg:Bool) (x y:RX)
 | Hq (neg:Bool) (x y:RX)
 | pJ (x:RX)
 | conv (k:IntKind) (x:RX)
 | Tj (off n:Nat) (ag:Bool) (x:RX)
 | uZ (off:Nat) (x:RX)
 | jd (sz:Nat) (x i:RX)
 | mm (len sz:Nat) (x i:RX)
 | nk (len n:Nat) (ag:Bool) (x i:RX)
 | oV (x i:RX)
 | slc (sz:Nat) (x:RX) (lo hi:Option RX)
 | oW (x:RX) (lo hi:Option RX)
 | k8 (len sz:Nat) (x:RX) (lo hi:Option RX)
 | Qk (f:Nat) (cap:List RX)
 | Tk (f:Nat) (fst:List RX)
 | Hr (sz:Nat) (z:List AV) (bytes:Nat) (len cap:RX)
 | len (st:Bool) (x:RX)
 | app (sz bytes:Nat) (s x:RX)
 | A5 (z:List AV) (len:Nat) (parts:List (Nat×RX))
 | sH (sz:Nat) (z:List AV) (bytes:Nat) (s n:RX)
 | FE (x:RX)
 | mn (l:List RX)
 | mx (l:List RX)
 | call (f:Nat) (args:List RX)
 | gf (f:RX) (args:List RX)
 | iD (f:Nat) (args:List RX)
 | mo (sz bytes:Nat) (s x:RX)
 | m8 (sz:Nat) (z:List AV) (len:Nat) (parts:List (Nat×RX))
 | ext (x:RX) (i:Nat)
 | Js
 | gY (k:CK) (z:AV) (ok:Bool) (m x:RX)
 | gX (k:CK) (m x v:RX)
 | jv (m:RX)
 | Fh (x:RX)
 | uK (x:RX)
 | Jr (x:RX)
 | Cs (x:RX)
 deriving Inhabited
structure bH where
 dst:Option Nat
 guard:Option (Nat×Bool)
 op:RO
 deriving Inhabited
inductive GA where
 | kill (l:List Nat)
 | ku (n:Nat)
 | uc (t:Nat)
 | prom (t sz:Nat)
 | pz (t off sz:Nat)
 | yX (t off:Nat)
 | cut (t:Nat)
 | nq (t:Nat)
 | wk (l:List Nat)
 | sh (t:Nat)
 | res (t:Nat)
 deriving Inhabited
inductive RC where
 | bad
 | skip
 | u5 (ops:List bH)
 | draw (ops:List bH)
 | jG (ops:List bH) (bf:List Nat)
 | kB (ops:List (Nat×bH)) (n:Nat) (ps:List (Nat×Nat))
 | seq (a b:RC)
 | cond (x:RX) (a b:RC)
 | block (id:Nat) (b:RC)
 | loop (b:RC)
 | exit (id:Nat)
 | ret
 | gh (pre:List GA) (r:RC) (post:List GA)
 | AT (g:RX) (ps:List Nat) (b6 body:RC)
 deriving Inhabited
inductive Ex where
 | normal
 | exit (id:Nat)
 | ret
 deriving DecidableEq,Inhabited
inductive Ls where
 | ready | busy
 | done (e:Ex)
 deriving DecidableEq,Inhabited
inductive Obj where
 | live (nl:Fl) (sz:Nat) (es:List (List AV))
 | dead
 | ew
 | mp (es:List (AV×AV))
 | it (s:List UInt8) (pos:Nat)
 | lp (st:Ls) (t:List AV) (ps:List Nat) (b6 body:RC)
 deriving Inhabited
def Obj.sp:Obj->Bool
 | .mp _ | .it .. | .lp ..=>true
 | _=>false
structure RF where
 nargs:Nat
 ntmps:Nat
 results:List (Sum Nat (Nat×Nat×Bool))
 body:RC
 deriving Inhabited
structure Env where
 fns:Nat->Option RF
 aF:Nat->List AV
structure St where
 tmps:List AV
 H:List Obj
mutual
def AV.flat:AV->Bool
 | .ro _ | .own .. | .bR _ | .aJ .. | .fn .. | .eD .. | .arr .. | .fA _ | .mp _ | .qB _=>false
 | .agg cs=>AV.jF cs
 | .aY cs=>AV.jF cs
 | _=>true
def AV.jF:List AV->Bool
 | []=>true
 | x::xs=>x.flat&&AV.jF xs
end
mutual
def AV.bD (n:Nat):AV->Bool
 | .own id _ _ _=>id < n
 | .aJ id _ _ _=>id < n
 | .arr id _ _ _ _ _=>id < n
 | .fA id=>id < n
 | .mp id=>id < n
 | .qB id=>id < n
 | .agg cs=>AV.aR n cs
 | .aY cs=>AV.aR n cs
 | .fn _ cs=>AV.aR n cs
 | .eD _ cs=>AV.aR n cs
 | _=>true
def AV.aR (n:Nat):List AV->Bool
 | []=>true
 | x::xs=>x.bD n&&AV.aR n xs
def AV.bO (n:Nat):List (List AV)->Bool
 | []=>true
 | x::xs=>AV.aR n x&&AV.bO n xs
end
abbrev AV.eN (v:AV):Bool:=v.bD 0
def RX.ev (G:Nat->List AV) (t:List AV):RX->AV
 | .t n=>t.getD n .any
 | .c v=>v
 | .g n=> .bR (G n)
def AV.Jq:AV->AV
 | .bF=> .ro []
 | v=>v
def AV.wk2:AV->AV
 | .bF=> .ro []
 | .agg cs=> .agg (cs.map AV.Jq)
 | v=>v
def AV.wk:AV->AV
 | .bF=> .ro []
 | .agg cs=> .agg (cs.map AV.Jq)
 | .aY vs=> .aY (vs.map AV.wk2)
 | v=>v
def Obj.wk:Obj->Obj
 | .live nl sz es=> .live nl sz (es.map fun cs=>cs.map AV.Jq)
 | o=>o
def P6 (H:List Obj):AV->List Obj
 | .aJ id _ _ _=>(match H[id]? with | some o=>H.set id o.wk | none=>H)
 | .own id _ _ _=>(match H[id]? with | some o=>H.set id o.wk | none=>H)
 | _=>H
def AV.cells:AV->List AV
 | .agg cs=>cs
 | v=>[v]
def AV.one:AV->Bool
 | .any | .agg _ | .aY _=>false
 | _=>true
def putAt:List AV->Nat->List AV->List AV
 | cs,_,[]=>cs
 | cs,o,x::xs=>putAt (cs.set o x) (o+1) xs
def aW:List AV->Bool
 | []=>true
 | x::xs=>x.one&&aW xs
def part (n:Nat) (ag:Bool) (cs:List AV) (o:Nat):Option AV:=
 if ag then (if o+n<=cs.length then some (.agg ((cs.drop o).take n)) else none) else cs[o]?
def aC (H:List Obj) (id:Nat):Option (Nat×List (List AV)):=
 match H[id]? with
 | some (.live _ sz es)=>some (sz,es)
 | _=>none
def cy (H:List Obj) (id:Nat):Fl:=
 match H[id]? with
 | some (.live nl _ _)=>nl
 | _=> .norm
def sF (_:Fl) (_ es:List (List AV)):AV:= .ro es
def isNil (H:List Obj):AV->Option Bool
 | .bF=>some true
 | .ro es=>(match es with | []=>none | _::_=>some false)
 | .own id ext _ _=>(match aC H id with
  | some (_,es)=>if ext=es.length then some (decide (cy H id= .nil)&&es.isEmpty) else none
  | none=>none)
 | .arr ..=>some false
 | _=>none
def AS (H:List Obj) (neg:Bool) (x y:AV):Option AV:=
 match x,y with
 | x,.bF=>(match isNil H x with | some b=>some (.bool (b !=neg)) | none=>none)
 | .bF,y=>(match isNil H y with | some b=>some (.bool (b !=neg)) | none=>none)
 | _,_=>none
def loadAt (H:List Obj) (n:Nat) (ag:Bool):AV->Option AV
 | .bR cs=>part n ag cs 0
 | .aJ id ext e o=>
  match aC H id with
  | some (_,es)=>if ext=es.length then (match es[e]? with | some cs=>part n ag cs o | none=>none) else none
  | none=>none
 | _=>none
def storeAt (H:List Obj) (n:Nat) (a x:AV):Option (List Obj):=
 match a with
 | .aJ id ext e o=>
  match aC H id with
  | some (sz,es)=>
   if ext=es.length/\x.cells.length=n/\o+n<=sz/\aW x.cells=true/\(cy H id).free=true then
    (match es[e]? with | some cs=>some (H.set id (.live (cy H id) sz (es.set e (putAt cs o x.cells)))) | none=>none)
   else none
  | none=>none
 | _=>none
def Bc (op:BinOp) (k:IntKind) (x y:Int):Option AV:=
 match op with
 | .add=>some (.int k (k.wrap (x+y)))
 | .sub=>some (.int k (k.wrap (x - y)))
 | .mul=>some (.int k (k.wrap (x*y)))
 | .quo=>if y=0 then none else some (.int k (k.wrap (x.tdiv y)))
 | .rem=>if y=0 then none else some (.int k (x.tmod y))
 | .and=>some (.int k (k.wrap ((BitVec.ofInt k.bits x)&&& (BitVec.ofInt k.bits y)).toNat))
 | .or=>some (.int k (k.wrap ((BitVec.ofInt k.bits x)||| (BitVec.ofInt k.bits y)).toNat))
 | .xor=>some (.int k (k.wrap ((BitVec.ofInt k.bits x) ^^^ (BitVec.ofInt k.bits y)).toNat))
 | .andNot=>some (.int k (k.wrap ((BitVec.ofInt k.bits x)&&& ~~~(BitVec.ofInt k.bits y)).toNat))
 | .eql=>some (.bool (x==y))
 | .neq=>some (.bool (x !=y))
 | .lss=>some (.bool (decide (x < y)))
 | .leq=>some (.bool (decide (x<=y)))
 | .gtr=>some (.bool (decide (x > y)))
 | .geq=>some (.bool (decide (x≥y)))
 | _=>none
def JM (op:BinOp) (x y:List UInt8):Option AV:=
 match op with
 | .add=>if x.length+y.length<=2 ^ 40 then some (.str (x++y)) else none
 | .eql=>some (.bool (x==y))
 | .neq=>some (.bool (!(x==y)))
 | .lss=>some (.bool (Op.bytesLess x y))
 | .leq=>some (.bool (Op.bytesLess x y||x==y))
 | .gtr=>some (.bool (!(Op.bytesLess x y||x==y)))
 | .geq=>some (.bool (!(Op.bytesLess x y)))
 | _=>none
def bin (op:BinOp) (x y:AV):Option AV:=
 match x,y with
 | .int k a,.int k' b=>
  (match op with
   | .shl=>if b < 0 then none else some (.int k (k.wrap (a*2 ^ (min b.toNat k.bits))))
   | .shr=>if b < 0 then none else some (.int k (a.fdiv (2 ^ (min b.toNat k.bits))))
   | op=>if k=k' then Bc op k a b else none)
 | .str a,.str b=>JM op a b
 | _,_=>none
def dj:CK->AV->AV->Option Bool
 | .bool,.bool a,.bool b=>some (a==b)
 | .int k,.int k1 a,.int k2 b=>if k1=k/\k2=k then some (a==b) else none
 | .str,.str a,.str b=>some (a==b)
 | _,_,_=>none
def bI:List CK->List AV->List AV->Option Bool
 | [],[],[]=>some true
 | k::ks,x::xs,y::ys=>(match dj k x y,bI ks xs ys with | some a,some b=>some (a&&b) | _,_=>none)
 | _,_,_=>none
def Cz (neg:Bool) (ks:List CK):AV->AV->Option AV
 | .agg xs,.agg ys=>(match bI ks xs ys with | some b=>some (.bool (b !=neg)) | none=>none)
 | _,_=>none
def Hp (neg:Bool):AV->AV->Option AV
 | .bool a,.bool b=>some (.bool ((a==b) !=neg))
 | _,_=>none
def p6:AV->Option Bool
 | .gZ=>some true
 | .bR _=>some false
 | .aJ ..=>some false
 | _=>none
def Hq (neg:Bool) (x y:AV):Option AV:=
 match x,y with
 | x,.gZ=>(match p6 x with | some b=>some (.bool (b !=neg)) | none=>none)
 | .gZ,y=>(match p6 y with | some b=>some (.bool (b !=neg)) | none=>none)
 | _,_=>none
def pJ:AV->Option AV
 | .bR cs=>some (.bR cs)
 | .aJ id ext e o=>some (.aJ id ext e o)
 | .fn f cap=>some (.fn f cap)
 | .eD f cap=>some (.eD f cap)
 | _=>none
def un (op:UnOp) (x:AV):Option AV:=
 match op,x with
 | .neg,.int k n=>some (.int k (k.wrap (0 - n)))
 | .xor,.int k n=>some (.int k (k.wrap ((BitVec.ofInt k.bits (if k.signed then -1 else k.max)) ^^^ (BitVec.ofInt k.bits n)).toNat))
 | .not,.bool b=>some (.bool (!b))
 | _,_=>none
def eD (d m:Nat):Option AV->Option Nat
 | none=>some d
 | some (.int _ i)=>if 0<=i/\i<=(m:Int) then some i.toNat else none
 | some _=>none
def slc (H:List Obj) (sz:Nat) (x:AV) (lo hi:Option AV):Option AV:=
 match x with
 | .ro es=>
  (match eD es.length es.length hi with
   | some h=>(match eD 0 h lo with
    | some l=>if l=h then some (.ro []) else (match es[l]? with
     | some cs=>if cs.length=sz then some (.ro ((es.drop l).take (h - l))) else none
     | none=>none)
    | none=>none)
   | none=>none)
 | .own id ext off len=>
  (match aC H id with
   | some (sz',es)=>if ext=es.length/\sz'=sz then
    (match eD len len hi with
     | some h=>(match eD 0 h lo with
      | some l=>if l=h then (match lo with | none=>some (.own id ext off 0) | some _=>some (sF (cy H id) es [])) else some (.own id ext (off+l) (h - l))
      | none=>none)
     | none=>none)
    else none
   | none=>none)
 | .bF=>
  (match eD 0 0 hi with
   | some h=>(match eD 0 h lo with | some _=>some .bF | none=>none)
   | none=>none)
 | _=>none
def oW (x:AV) (lo hi:Option AV):Option AV:=
 match x with
 | .str s=>
  (match eD s.length s.length hi with
   | some h=>(match eD 0 h lo with | some l=>some (.str ((s.drop l).take (h - l))) | none=>none)
   | none=>none)
 | _=>none
def lenOf:AV->Option Int
 | .ro es=>some es.length
 | .own _ _ _ l=>some l
 | .arr _ _ _ _ _ l=>some l
 | .bF=>some 0
 | _=>none
def qP (st:Bool) (x:AV):Option Int:=
 if st then (match x with | .str s=>some s.length | _=>none) else lenOf x
def jd (H:List Obj) (sz:Nat) (x i:AV):Option AV:=
 match x,i with
 | .ro es,.int _ n=>if 0<=n then (match es[n.toNat]? with | some cs=>if cs.length=sz then some (.bR cs) else none | none=>none) else none
 | .own id ext off len,.int _ n=>
  (match aC H id with
   | some (sz',es)=>if ext=es.length/\sz'=sz/\0<=n/\n < (len:Int) then some (.aJ id ext (off+n.toNat) 0) else none
   | none=>none)
 | .arr id ext e o sz' len,.int _ n=>if sz'=sz/\0<=n/\n < (len:Int) then some (.aJ id ext e (o+n.toNat*sz)) else none
 | _,_=>none
def uZ (off:Nat):AV->Option AV
 | .bR cs=>if off<=cs.length then some (.bR (cs.drop off)) else none
 | .aJ id ext e o=>some (.aJ id ext e (o+off))
 | _=>none
def mm (len sz:Nat) (x i:AV):Option AV:=
 match i with
 | .int _ n=>if 0<=n/\n < (len:Int) then uZ (n.toNat*sz) x else none
 | _=>none
def nk (len n:Nat) (ag:Bool) (x i:AV):Option AV:=
 match x,i with
 | .agg cs,.int _ j=>if 0<=j/\j < (len:Int) then part n ag cs (j.toNat*n) else none
 | _,_=>none
def oV (x i:AV):Option AV:=
 match x,i with
 | .str s,.int _ j=>if 0<=j then (match s[j.toNat]? with | some b=>some (.int .u8 (b.toNat:Int)) | none=>none) else none
 | _,_=>none
def chunks (sz:Nat):Nat->List AV->List (List AV)
 | 0,_=>[]
 | n+1,cs=>cs.take sz::chunks sz n (cs.drop sz)
def k8 (H:List Obj) (len sz:Nat) (x:AV) (lo hi:Option AV):Option AV:=
 match eD len len hi with
 | some h=>(match eD 0 h lo with
  | some l=>
   (match x with
    | .bR cs=>if l=h then some (.ro []) else if len*sz<=cs.length then some (.ro (chunks sz (h - l) (cs.drop (l*sz)))) else none
    | .aJ id ext e o=>if l=h then some (.ro []) else
     (match aC H id with
      | some (SZ,es)=>if ext=es.length/\e < es.length/\o+len*sz<=SZ then some (.arr id ext e (o+l*sz) sz (h - l)) else none
      | none=>none)
    | _=>none)
  | none=>none)
 | none=>none
def fJ (H:List Obj) (id ext e o sz len:Nat):Option (List (List AV)):=
 match aC H id with
 | some (_,es)=>if ext=es.length then (match es[e]? with | some cs=>if o+len*sz<=cs.length then some (chunks sz len (cs.drop o)) else none | none=>none) else none
 | none=>none
def nx:List AV->List (Nat×Nat×AV)->Option (List AV)
 | cs,[]=>some cs
 | cs,(o,n,v)::r=>if v.cells.length=n/\o+n<=cs.length/\aW v.cells=true then nx (putAt cs o v.cells) r else none
def kr (sz:Nat):List (List AV)->List (Nat×AV)->Option (List (List AV))
 | es,[]=>some es
 | es,(i,v)::r=>if v.cells.length=sz/\i < es.length/\aW v.cells=true then kr sz (es.set i v.cells) r else none
def dz (H:List Obj):AV->Option (List (List AV))
 | .bF=>some []
 | .ro es=>some es
 | .own id ext off len=>
  (match aC H id with
   | some (_,es)=>if ext=es.length then some ((es.drop off).take len) else none
   | none=>none)
 | .str s=>some (s.map fun b=>[.int .u8 (b.toNat:Int)])
 | .arr id ext e o sz len=>fJ H id ext e o sz len
 | _=>none
def putObj (H:List Obj) (pl:Nat) (o:Obj):List Obj:=if pl < H.length then H.set pl o else H++[o]
def append (H:List Obj) (pl sz bytes:Nat) (s x:AV):Option (AV×List Obj):=
 match dz H x with
 | none=>none
 | some new=>
  if new.all (fun e=>e.length==sz&&aW e)=true then
  match s with
  | .bF=>
   if new=[] then some (.bF,H)
   else if new.length*bytes<=2 ^ 40/\new.length<=2 ^ 40 then some (.own pl new.length 0 new.length,putObj H pl (.live .norm sz new)) else none
  | .own id ext off len=>
   (match aC H id with
    | some (sz',es)=>
     if ext=es.length/\off=0/\len=es.length/\sz'=sz/\(es.length+new.length)*bytes<=2 ^ 40/\es.length+new.length<=2 ^ 40 then
      (if (cy H id).uf=true then some (.own id (es.length+new.length) 0 (es.length+new.length),H.set id (.live (cy H id) sz (es++new)))
       else match (cy H id).sR with
        | some fl=>if id < pl/\es≠[]/\new≠[] then some (.own pl (es.length+new.length) 0 (es.length+new.length),putObj (H.set id (.live fl sz es)) pl (.live .ch sz (es++new))) else none
        | none=>none)
     else none
    | none=>none)
  | _=>none
  else none
def min2:AV->AV->Option AV
 | .int k x,.int _ y=>some (.int k (if y < x then y else x))
 | _,_=>none
def max2:AV->AV->Option AV
 | .int k x,.int _ y=>some (.int k (if y > x then y else x))
 | _,_=>none
def jA (f:AV->AV->Option AV):AV->List AV->Option AV
 | x,[]=>some x
 | x,y::r=>match f x y with | some z=>jA f z r | none=>none
def ey (f:AV->Option AV):List AV->Option (List AV)
 | []=>some []
 | x::xs=>(match f x,ey f xs with | some y,some ys=>some (y::ys) | _,_=>none)
def gB (f:AV->Option AV):List (List AV)->Option (List (List AV))
 | []=>some []
 | x::xs=>(match ey f x,gB f xs with | some y,some ys=>some (y::ys) | _,_=>none)
def Qh (p:AV->Option AV) (H:List Obj) (v:AV):Option AV:=
 match v with
 | .aJ id ext e o=>
  (match aC H id with
   | some (_,es)=>if ext=es.length then
    (match es[e]? with
     | some cs=>(match ey p (cs.drop o) with | some l=>some (.bR l) | none=>none)
     | none=>none)
    else none
   | none=>none)
 | v=>p v
def iZ (k:CK) (x:AV):Nat->List (AV×AV)->Option (Option (Nat×AV))
 | _,[]=>some none
 | i,(y,v)::r=>(match dj k x y with | some true=>some (some (i,v)) | some false=>iZ k x (i+1) r | none=>none)
def gC (H:List Obj) (id:Nat):Option (List (AV×AV)):=match H[id]? with
 | some (.mp es)=>some es
 | _=>none
def entries (H:List Obj):AV->Option (List (AV×AV))
 | .pO=>some []
 | .mp id=>gC H id
 | _=>none
def gY (H:List Obj) (k:CK) (z:AV) (ok:Bool) (m x:AV):Option AV:=
 match entries H m with
 | some es=>(match iZ k x 0 es with
  | some (some (_,v))=>some (if ok then .aY [v,.bool true] else v)
  | some none=>some (if ok then .aY [z,.bool false] else z)
  | none=>none)
 | none=>none
def jv (H:List Obj) (m:AV):Option AV:=match entries H m with
 | some es=>some (.int .i64 es.length)
 | none=>none
def AV.set:AV->Bool
 | .any | .aY _=>false
 | _=>true
def gX (H:List Obj) (k:CK) (m x v:AV):Option (List Obj):=
 match m with
 | .mp id=>(match gC H id with
  | some es=>(match iZ k x 0 es with
   | some (some (i,_))=>some (H.set id (.mp (es.set i (x,v))))
   | some none=>if (dj k x x).isSome then some (H.set id (.mp (es++[(x,v)]))) else none
   | none=>none)
  | none=>none)
 | _=>none
def uK (H:List Obj) (x:AV):Option (AV×List Obj):=
 match x with
 | .qB id=>(match H[id]? with
  | some (.it s pos)=>if pos < s.length then
   (match Utf8.decode ⟨s.toArray⟩ pos with
    | (c,w)=>some (.aY [.bool true,.int .i64 pos,.int .i32 c],H.set id (.it s (pos+w))))
   else some (.aY [.bool false],H)
  | _=>none)
 | _=>none
def Jr:AV->Option AV
 | .int _ n=>some (.str (Utf8.encode n).data.toList)
 | _=>none
def byteOf:List AV->Option UInt8
 | [.int .u8 n]=>some (UInt8.ofNat n.toNat)
 | _=>none
def wB:List (List AV)->Option (List UInt8)
 | []=>some []
 | e::r=>(match byteOf e,wB r with | some b,some l=>some (b::l) | _,_=>none)
def AV.isStr:AV->Bool
 | .str _=>true
 | _=>false
def Cs (H:List Obj) (x:AV):Option AV:=if x.isStr then none else match dz H x with
 | some es=>(match wB es with | some l=>some (.str l) | none=>none)
 | none=>none
def pk:Nat->List Obj->AV->Option AV
 | 0,_,v=>if v.eN then some v else none
 | d+1,H,v=>
  if v.eN then some v else
  match v with
  | .own id ext off len=>
   (match aC H id with
    | some (_,es)=>if ext=es.length then
     (match gB (pk d H) ((es.drop off).take len) with | some l=>some (sF (cy H id) es l) | none=>none)
     else none
    | none=>none)
  | .arr id ext e o sz len=>
   (match fJ H id ext e o sz len with
    | some l=>(match gB (pk d H) l with | some l'=>some (.ro l') | none=>none)
    | none=>none)
  | .agg cs=>(match ey (pk d H) cs with | some l=>some (.agg l) | none=>none)
  | .aY cs=>(match ey (pk d H) cs with | some l=>some (.aY l) | none=>none)
  | .fn f cap=>(match ey (Qh (pk d H) H) cap with | some l=>some (.fn f l) | none=>none)
  | _=>none
def snaps (H:List Obj) (xs:List AV):Option (List AV):=ey (pk 6 H) xs
def pack (H:List Obj) (v:AV):Option AV:=pk 6 H v
end Go.Am
end
