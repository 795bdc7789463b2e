/- The machine with known calls, in small pieces, which the kernel runs faster: it is the same machine. No condition. -/
import Derived.Test.YtafgdbaekppjcaaGreatDoorAmZk
set_option linter.unusedSectionVars false
set_option linter.unusedVariables false
set_option linter.unusedSimpArgs false
namespace Go.Am.As
set_option linter.unusedVariables false
set_option linter.unusedSimpArgs false
noncomputable def getF (n:Nat) (l:List (Nat×AV)):AV:=List.rec (motive:=fun _=>AV) .any (fun p _ ih=>cond (Nat.beq p.1 n) p.2 ih) l
theorem getF_eq (n:Nat):∀ l,getF n l=T.getL l n
 | []=>rfl
 | (k,v)::r=>by
  show cond (Nat.beq k n) v (getF n r)=_
  rw [getF_eq n r,T.getL,T.beq1]
  by_cases h:k=n<;>simp [h]
noncomputable def putF (n:Nat) (x:AV) (l:List (Nat×AV)):List (Nat×AV):=
 List.rec (motive:=fun _=>List (Nat×AV)) [(n,x)] (fun p r ih=>cond (Nat.beq p.1 n) ((n,x)::r) (cond (Nat.ble p.1 n) (p::ih) ((n,x)::p::r))) l
theorem putF_eq (n:Nat) (x:AV):∀ l,putF n x l=T.putL l n x
 | []=>rfl
 | (k,v)::r=>by
  show cond (Nat.beq k n) ((n,x)::r) (cond (Nat.ble k n) ((k,v)::putF n x r) ((n,x)::(k,v)::r))=_
  rw [putF_eq n x r,T.putL,T.beq1]
  by_cases h:k=n
  ·simp [h]
  ·by_cases h2:n < k
   ·have e:Nat.ble k n=false:=by cases hb:Nat.ble k n with
     | false=>rfl
     | true=>have:=Nat.le_of_ble_eq_true hb;omega
    simp [h,h2,e]
   ·have e:Nat.ble k n=true:=Nat.ble_eq_true_of_le (by omega)
    simp [h,h2,e]
noncomputable def maskF (ds:List Nat):Nat:=List.rec (motive:=fun _=>Nat) 0 (fun d _ ih=>Nat.lor (Nat.shiftLeft 1 d) ih) ds
noncomputable def filtF (m:Nat) (l:List (Nat×AV)):List (Nat×AV):=
 List.rec (motive:=fun _=>List (Nat×AV)) [] (fun p _ ih=>cond (Nat.beq (Nat.land (Nat.shiftRight m p.1) 1) 1) ih (p::ih)) l
theorem bit_eq (m k:Nat):Nat.beq (Nat.land (Nat.shiftRight m k) 1) 1=m.testBit k:=by
 have e:Nat.land (Nat.shiftRight m k) 1=m / 2 ^ k % 2:=by
  show (m >>> k)&&& 1=_
  rw [Nat.and_one_is_mod,Nat.shiftRight_eq_div_pow]
 rw [e,T.beq1,Nat.testBit_eq_decide_div_mod_eq]
theorem mask_bit (k:Nat):∀ ds:List Nat,(maskF ds).testBit k=decide (k∈ds)
 | []=>by show Nat.testBit 0 k=_;simp
 | d::ds=>by
  show Nat.testBit (Nat.lor (Nat.shiftLeft 1 d) (maskF ds)) k=_
  have e:Nat.testBit (Nat.lor (Nat.shiftLeft 1 d) (maskF ds)) k=(Nat.testBit (2 ^ d) k||Nat.testBit (maskF ds) k):=by
   have:Nat.shiftLeft 1 d=2 ^ d:=Nat.one_shiftLeft d
   rw [this];exact Nat.testBit_or ..
  rw [e,mask_bit k ds,Nat.testBit_two_pow]
  by_cases h:d=k
  ·simp [h]
  ·have h2:¬ k=d:=fun e=>h e.symm
   simp [h,h2]
theorem filtF_eq (m:Nat):∀ l:List (Nat×AV),filtF m l=l.filter fun p=> !m.testBit p.1
 | []=>rfl
 | p::r=>by
  show cond (Nat.beq (Nat.land (Nat.shiftRight m p.1) 1) 1) (filtF m r) (p::filtF m r)=_
  rw [bit_eq,filtF_eq m r,List.filter_cons]
  cases m.testBit p.1<;>rfl
theorem delL_filter (d:Nat):∀ l:List (Nat×AV),T.delL l d=l.filter fun p=> !decide (p.1=d)
 | []=>rfl
 | (k,v)::r=>by
  rw [T.delL,delL_filter d r,List.filter_cons]
  by_cases h:k=d<;>simp [h]
theorem kills_filter:∀ (ds:List Nat) (n:Nat) (l:List (Nat×AV)),T.kills ds ⟨n,l⟩=⟨n,l.filter fun p=> !decide (p.1∈ds)⟩
 | [],n,l=>by
  rw [T.kills]
  have:(l.filter fun p=> !decide (p.1∈([]:List Nat)))=l:=List.filter_eq_self.2 (fun p _=>by simp)
  rw [this]
 | d::ds,n,l=>by
  rw [T.kills,kills_filter ds,delL_filter,List.filter_filter]
  congr 1
  apply List.filter_congr
  intro p _
  by_cases h1:p.1=d<;>by_cases h2:p.1∈ds<;>simp [h1,h2]
noncomputable def killF (ds:List Nat) (t:T):T:=⟨t.sz,filtF (maskF ds) t.l⟩
theorem killF_eq (ds:List Nat) (t:T):killF ds t=T.kills ds t:=by
 cases t with
 | mk n l=>
  rw [kills_filter]
  show (⟨n,filtF (maskF ds) l⟩:T)=_
  rw [filtF_eq]
  congr 1
  apply List.filter_congr
  intro p _
  rw [mask_bit]
noncomputable def putT (n:Nat) (x:AV) (t:T):T:=cond (Nat.ble t.sz n) t ⟨t.sz,putF n x t.l⟩
theorem putT_eq (n:Nat) (x:AV) (t:T):putT n x t=t.put n x:=by
 unfold putT T.put
 rw [putF_eq]
 by_cases h:n < t.sz
 ·have e:Nat.ble t.sz n=false:=by cases hb:Nat.ble t.sz n with
   | false=>rfl
   | true=>have:=Nat.le_of_ble_eq_true hb;omega
  rw [if_pos h,e];rfl
 ·have e:Nat.ble t.sz n=true:=Nat.ble_eq_true_of_le (by omega)
  rw [if_neg h,e];rfl
noncomputable def evF (G:Nat→List AV) (t:T):RX→AV
 | .t n=>getF n t.l
 | .c v=>v
 | .g g=> .pro (G g)
theorem evF_eq (G:Nat→List AV) (t:T):evF G t=evT G t:=by
 funext r
 cases r with
 | t n=>exact getF_eq n t.l
 | _=>rfl
noncomputable def putDF (t:T) (d:Option Nat) (v:AV):T:=match d with | some d=>putT d v t | none=>t
theorem putDF_eq (t:T) (d:Option Nat) (v:AV):putDF t d v=putD t d v:=by
 cases d with
 | none=>rfl
 | some d=>exact putT_eq d v t
def wantV (b:Bool):AV→Option Bool
 | .bool c=>some (c==b)
 | .tup []=>some false
 | _=>none
noncomputable def wantF (t:T):Option (Nat×Bool)→Option Bool
 | none=>some true
 | some p=>wantV p.2 (getF p.1 t.l)
theorem wantF_eq (t:T) (g:Option (Nat×Bool)):wantF t g=wantT t g:=by
 cases g with
 | none=>rfl
 | some p=>
  show wantV p.2 (getF p.1 t.l)=_
  rw [getF_eq];rfl
def wrapN (k:IntKind) (m:Nat):Int:=cond (Nat.blt m 128) (Int.ofNat m) (k.wrap (Int.ofNat m))
theorem wrap_small (k:IntKind) {m:Nat} (h:m < 128):k.wrap (Int.ofNat m)=Int.ofNat m:=by
 have:∀ m:Fin 128,k.wrap (Int.ofNat m.1)=Int.ofNat m.1:=by cases k<;>decide
 exact this ⟨m,h⟩
theorem wrapN_eq (k:IntKind) (m:Nat):wrapN k m=k.wrap (Int.ofNat m):=by
 unfold wrapN
 cases h:Nat.blt m 128 with
 | false=>rfl
 | true=>exact (wrap_small k (Nat.le_of_ble_eq_true h)).symm
def wrapF (k:IntKind):Int→Int
 | .ofNat m=>wrapN k m
 | n=>k.wrap n
theorem wrapF_eq (k:IntKind) (n:Int):wrapF k n=k.wrap n:=by
 cases n with
 | ofNat m=>exact wrapN_eq k m
 | negSucc m=>rfl
def addF (k:IntKind):Int→Int→Int
 | .ofNat a,.ofNat b=>wrapN k (Nat.add a b)
 | x,y=>k.wrap (x+y)
def mulF (k:IntKind):Int→Int→Int
 | .ofNat a,.ofNat b=>wrapN k (Nat.mul a b)
 | x,y=>k.wrap (x*y)
def subF (k:IntKind):Int→Int→Int
 | .ofNat a,.ofNat b=>cond (Nat.ble b a) (wrapN k (Nat.sub a b)) (k.wrap (Int.ofNat a - Int.ofNat b))
 | x,y=>k.wrap (x - y)
def ltF:Int→Int→Bool
 | .ofNat a,.ofNat b=>Nat.blt a b
 | x,y=>decide (x < y)
def leF:Int→Int→Bool
 | .ofNat a,.ofNat b=>Nat.ble a b
 | x,y=>decide (x≤y)
def eqF:Int→Int→Bool
 | .ofNat a,.ofNat b=>Nat.beq a b
 | x,y=>x==y
theorem addF_eq (k:IntKind) (x y:Int):addF k x y=k.wrap (x+y):=by
 cases x<;>cases y<;>first | rfl | exact wrapN_eq k _
theorem mulF_eq (k:IntKind) (x y:Int):mulF k x y=k.wrap (x*y):=by
 cases x<;>cases y<;>first | rfl | exact wrapN_eq k _
theorem subF_eq (k:IntKind) (x y:Int):subF k x y=k.wrap (x - y):=by
 cases x with
 | negSucc a=>cases y<;>rfl
 | ofNat a=>
  cases y with
  | negSucc b=>rfl
  | ofNat b=>
   show cond (Nat.ble b a) (wrapN k (Nat.sub a b)) (k.wrap (Int.ofNat a - Int.ofNat b))=_
   cases h:Nat.ble b a with
   | false=>rfl
   | true=>
    have:=Nat.le_of_ble_eq_true h
    show wrapN k (Nat.sub a b)=_
    rw [wrapN_eq]
    congr 1
    show ((a - b:Nat):Int)=(a:Int) - (b:Int)
    omega
theorem ltF_eq (x y:Int):ltF x y=decide (x < y):=by
 cases x with
 | negSucc a=>cases y<;>rfl
 | ofNat a=>
  cases y with
  | negSucc b=>rfl
  | ofNat b=>
   show Nat.blt a b=_
   have e:Nat.blt a b=decide (a < b):=by
    cases h:Nat.blt a b with
    | true=>have h3:a < b:=Nat.le_of_ble_eq_true h;simp [h3]
    | false=>
     have:¬ a < b:=fun hc=>by
      have:=Nat.ble_eq_true_of_le hc
      rw [Nat.blt] at h;rw [h] at this;cases this
     simp [this]
   rw [e]
   congr 1
   exact propext ⟨fun h=>Int.ofNat_lt.2 h,fun h=>Int.ofNat_lt.1 h⟩
theorem leF_eq (x y:Int):leF x y=decide (x≤y):=by
 cases x with
 | negSucc a=>cases y<;>rfl
 | ofNat a=>
  cases y with
  | negSucc b=>rfl
  | ofNat b=>
   show Nat.ble a b=_
   have e:Nat.ble a b=decide (a≤b):=by
    cases h:Nat.ble a b with
    | true=>simp [Nat.le_of_ble_eq_true h]
    | false=>
     have:¬ a≤b:=fun hc=>by
      have:=Nat.ble_eq_true_of_le hc
      rw [h] at this;cases this
     simp [this]
   rw [e]
   congr 1
   exact propext ⟨fun h=>Int.ofNat_le.2 h,fun h=>Int.ofNat_le.1 h⟩
theorem eqF_eq (x y:Int):eqF x y=(x==y):=by
 cases x with
 | negSucc a=>cases y<;>rfl
 | ofNat a=>
  cases y with
  | negSucc b=>rfl
  | ofNat b=>
   show Nat.beq a b=_
   rw [T.beq1]
   by_cases h:a=b
   ·simp [h]
   ·have:((a:Int)==(b:Int))=false:=by simp;omega
    have e:(Int.ofNat a==Int.ofNat b)=false:=this
    rw [e];simp [h]
def binIF (op:BinOp) (k:IntKind) (x y:Int):Option AV:=
 match op with
 | .add=>some (.int k (addF k x y))
 | .sub=>some (.int k (subF k x y))
 | .mul=>some (.int k (mulF k x y))
 | .eql=>some (.bool (eqF x y))
 | .neq=>some (.bool (!(eqF x y)))
 | .lss=>some (.bool (ltF x y))
 | .leq=>some (.bool (leF x y))
 | .gtr=>some (.bool (ltF y x))
 | .geq=>some (.bool (leF y x))
 | op=>binI op k x y
theorem binIF_eq (op:BinOp) (k:IntKind) (x y:Int):binIF op k x y=binI op k x y:=by
 cases op<;>first | rfl | (simp only [binIF,binI,addF_eq,subF_eq,mulF_eq,eqF_eq,ltF_eq,leF_eq,bne,gt_iff_lt,ge_iff_le])
def binK (op:BinOp) (k k':IntKind) (a b:Int):Option AV:=match op with
 | .shl=>if b < 0 then none else some (.int k (k.wrap (a*2 ^ (min b.toNat k.bits))))
 | .shr=>if b < 0 then none else some (.int k (a.fdiv (2 ^ (min b.toNat k.bits))))
 | op=>if k=k' then binIF op k a b else none
def binV (op:BinOp) (k:IntKind) (a:Int):AV→Option AV
 | .int k' b=>binK op k k' a b
 | _=>none
def binT (op:BinOp) (a:List UInt8):AV→Option AV
 | .str b=>binS op a b
 | _=>none
def binF (op:BinOp) (x y:AV):Option AV:=match x with
 | .int k a=>binV op k a y
 | .str a=>binT op a y
 | _=>none
theorem binF_eq (op:BinOp) (x y:AV):binF op x y=bin op x y:=by
 cases x<;>try rfl
 case int k a=>
  cases y<;>try rfl
  case int k' b=>cases op<;>first | rfl | (show (if k=k' then binIF _ k a b else none)=_;rw [binIF_eq];rfl)
 case str a=>cases y<;>rfl
def pPick (c a b:AV):Option AV:=match c with | .bool true=>some a | .bool false=>some b | _=>none
def pAgg:Option (List AV)→Option AV
 | some cs=>some (.agg cs)
 | none=>none
def pBuild (ev:RX→AV) (z:List AV) (parts:List (Nat×Nat×RX)):Option AV:=pAgg (fillA z (parts.map fun (o,n,x)=>(o,n,ev x)))
def pConv (k:IntKind):AV→Option AV
 | .int _ n=>some (.int k (wrapF k n))
 | _=>none
def pFld (off n:Nat) (ag:Bool):AV→Option AV
 | .agg cs=>part n ag cs off
 | _=>none
def pLen:Option Int→Option AV
 | some n=>some (.int .i64 n)
 | none=>none
def pMn:List AV→Option AV
 | x::r=>foldO min2 x r
 | []=>none
def pMx:List AV→Option AV
 | x::r=>foldO max2 x r
 | []=>none
def pExt (i:Nat):AV→Option AV
 | .tup vs=>vs[i]?
 | _=>none
def pCapn:AV→Option AV
 | .nils=>some (.int .i64 0)
 | _=>none
def evalPf (ev:RX→AV):RO→Option AV
 | .mov x=>some (ev x)
 | .pick c a b=>pPick (ev c) (ev a) (ev b)
 | .build z parts=>pBuild ev z parts
 | .bin op x y=>binF op (ev x) (ev y)
 | .un op x=>un op (ev x)
 | .eqA neg ks x y=>eqA neg ks (ev x) (ev y)
 | .eqB neg x y=>eqB neg (ev x) (ev y)
 | .eqP neg x y=>eqP neg (ev x) (ev y)
 | .nchk x=>nchk (ev x)
 | .conv k x=>pConv k (ev x)
 | .fld off n ag x=>pFld off n ag (ev x)
 | .fad off x=>fad off (ev x)
 | .iadA len sz x i=>iadA len sz (ev x) (ev i)
 | .idxA len n ag x i=>idxA len n ag (ev x) (ev i)
 | .idxS x i=>idxS (ev x) (ev i)
 | .slcS x lo hi=>slcS (ev x) (lo.map ev) (hi.map ev)
 | .mkf f cap=>some (.fn f (cap.map ev))
 | .mkb f l=>some (.bnd f (l.map ev))
 | .len st x=>pLen (lenOp st (ev x))
 | .mn l=>pMn (l.map ev)
 | .mx l=>pMx (l.map ev)
 | .ext x i=>pExt i (ev x)
 | .i2s x=>i2s (ev x)
 | .capn x=>pCapn (ev x)
 | _=>none
theorem evalPf_eq (ev:RX→AV) (x:RO):evalPf ev x=evalPe ev x:=by
 cases x<;>try rfl
 case bin op x y=>exact binF_eq op (ev x) (ev y)
 case conv k x=>
  show pConv k (ev x)=(match ev x with | .int _ n=>some (.int k (k.wrap n)) | _=>none)
  cases ev x<;>try rfl
  exact congrArg (fun n=>some (AV.int k n)) (wrapF_eq k _)
def wVal (H:List Obj):Option AV→Option (AV×List Obj)
 | some v=>some (v,H)
 | none=>none
def wMem:Option (List Obj)→Option (AV×List Obj)
 | some H'=>some (.tup [],H')
 | none=>none
def wBox (pl:Nat) (cs:List AV) (H:List Obj):Option (AV×List Obj):=if allOne cs=true then some (.pown pl 1 0 0,putObj H pl (.live .norm cs.length [cs])) else none
def wBsl (ev:RX→AV) (H:List Obj) (pl sz:Nat) (z:List AV) (len:Nat) (parts:List (Nat×RX)):Option (AV×List Obj):=evalWe ev H pl (.bsl sz z len parts)
def wMks (ev:RX→AV) (H:List Obj) (pl sz:Nat) (z:List AV) (bytes:Nat) (l c:RX):Option (AV×List Obj):=evalWe ev H pl (.mks sz z bytes l c)
def wBslr (ev:RX→AV) (H:List Obj) (pl:Nat) (z:List AV) (len:Nat) (parts:List (Nat×RX)):Option (AV×List Obj):=evalWe ev H pl (.bslr z len parts)
def wAppn (ev:RX→AV) (H:List Obj) (pl sz:Nat) (z:List AV) (bytes:Nat) (s n:RX):Option (AV×List Obj):=evalWe ev H pl (.appn sz z bytes s n)
def wRng (H:List Obj) (pl:Nat):AV→Option (AV×List Obj)
 | .str s=>some (.itr pl,putObj H pl (.it s 0))
 | _=>none
def evalWf (ev:RX→AV) (H:List Obj) (pl:Nat):RO→Option (AV×List Obj)
 | .box x=>wBox pl (ev x).cells H
 | .alloc z=>wBox pl z H
 | .bsl sz z len parts=>wBsl ev H pl sz z len parts
 | .store n a x=>wMem (storeAt H n (ev a) (ev x))
 | .mks sz z bytes l c=>wMks ev H pl sz z bytes l c
 | .app sz bytes s x=>append H pl sz bytes (ev s) (ev x)
 | .bslr z len parts=>wBslr ev H pl z len parts
 | .appn sz z bytes s n=>wAppn ev H pl sz z bytes s n
 | .mkm=>some (.mp pl,putObj H pl (.mp []))
 | .mset k m x v=>wMem (mset H k (ev m) (ev x) (ev v))
 | .rng x=>wRng H pl (ev x)
 | .nxt x=>nxt H (ev x)
 | .mget k z ok m x=>wVal H (mget H k z ok (ev m) (ev x))
 | .mlen m=>wVal H (mlen H (ev m))
 | .b2s x=>wVal H (b2s H (ev x))
 | _=>none
theorem evalWf_eq (ev:RX→AV) (H:List Obj) (pl:Nat) (x:RO):evalWf ev H pl x=evalWe ev H pl x:=by cases x<;>rfl
def callV (hp:Nat→Bool) (cI:CI) (cH:CH) (l:List AV) (H:List Obj):AV→Option (AV×List Obj)
 | .fn f cap=>doCall hp cI cH f (l++cap) H
 | .bnd f l'=>doCall hp cI cH f (l'++l) H
 | .yld i=>cH none (.yld i::l) H
 | _=>none
def callF (ev:RX→AV) (hp:Nat→Bool) (cI:CI) (cH:CH) (H:List Obj):RO→Option (AV×List Obj)
 | .call f args=>doCall hp cI cH f (args.map ev) H
 | .callv fx args=>callV hp cI cH (args.map ev) H (ev fx)
 | _=>none
def evalOpF (ev:RX→AV) (hp:Nat→Bool) (cI:CI) (cH:CH) (pl:Nat) (x:RO) (H:List Obj):Option (AV×List Obj):=
 match x.kind with
 | .pure=>wVal H (evalPf ev x)
 | .read=>wVal H (evalRe ev H x)
 | .write=>evalWf ev H pl x
 | .call=>callF ev hp cI cH H x
theorem evalOpF_eq (ev:RX→AV) (hp:Nat→Bool) (cI:CI) (cH:CH) (pl:Nat) (x:RO) (H:List Obj):evalOpF ev hp cI cH pl x H=evalOpe ev hp cI cH pl x H:=by
 unfold evalOpF evalOpe
 cases x.kind with
 | pure=>dsimp only;rw [evalPf_eq];rfl
 | read=>rfl
 | write=>exact evalWf_eq ev H pl x
 | call=>dsimp only;cases x<;>rfl
def dCall (ev:RX→AV) (cI:CI) (f:Nat) (args:List AV) (H:List Obj):Option (AV×List Obj):=
 if lentOk H args=true then doCall (fun _=>false) cI (fun _ _ _=>none) f args H else none
def evalDF (ev:RX→AV) (cI:CI) (pl:Nat) (x:RO) (H:List Obj):Option (AV×List Obj):=
 match x with
 | .mkc f args=>mkObj cI f (args.map ev) pl H
 | .appf sz bytes a b=>frzRes (pl::refs (ev a)) (evalWf ev H pl (.app sz bytes a b))
 | .bslf sz z len parts=>frzRes [pl] (evalWf ev H pl (.bsl sz z len parts))
 | .call f args=>dCall ev cI f (args.map ev) H
 | x=>evalOpF ev (fun _=>false) cI (fun _ _ _=>none) pl x H
theorem evalDF_eq (ev:RX→AV) (cI:CI) (pl:Nat) (x:RO) (H:List Obj):evalDF ev cI pl x H=evalDe ev cI pl x H:=by
 cases x<;>first | rfl | (simp only [evalDF,evalDe];exact evalOpF_eq ev (fun _=>false) cI (fun _ _ _=>none) pl _ H)
abbrev OK2:=Option (T×List Obj)
noncomputable def opK (k:T→List Obj→OK2) (t:T) (d:Option Nat):Option (AV×List Obj)→OK2
 | some p=>frc p.1 fun v=>k (putDF t d v) p.2
 | none=>none
noncomputable def opF (G:Nat→List AV) (hp:Nat→Bool) (cI:CI) (cH:CH) (o:ROp) (k:T→List Obj→OK2) (t:T) (H:List Obj):OK2:=
 match wantF t o.guard with
 | some true=>opK k t o.dst (evalOpF (evF G t) hp cI cH H.length o.op H)
 | some false=>k (putDF t o.dst (.tup [])) H
 | none=>none
noncomputable def runOpsF (G:Nat→List AV) (hp:Nat→Bool) (cI:CI) (cH:CH) (os:List ROp):T→List Obj→OK2:=
 List.rec (motive:=fun _=>T→List Obj→OK2) (fun t H=>some (t,H)) (fun o _ ih t H=>opF G hp cI cH o ih t H) os
theorem runOpsF_eq (G:Nat→List AV) (hp:Nat→Bool) (cI:CI) (cH:CH):∀ (os:List ROp) (t:T) (H:List Obj),runOpsF G hp cI cH os t H=runOpsT G hp cI cH os t H
 | [],t,H=>rfl
 | o::os,t,H=>by
  show opF G hp cI cH o (runOpsF G hp cI cH os) t H=_
  unfold opF
  rw [wantF_eq,evF_eq,evalOpF_eq,putDF_eq,runOpsT]
  cases wantT t o.guard with
  | none=>rfl
  | some b=>
   cases b with
   | false=>exact runOpsF_eq G hp cI cH os _ _
   | true=>
    dsimp only
    cases evalOpe (evT G t) hp cI cH H.length o.op H with
    | none=>rfl
    | some p=>
     show frc p.1 (fun v=>runOpsF G hp cI cH os (putDF t o.dst v) p.2)=frc p.1 fun v=>runOpsT G hp cI cH os (putD t o.dst v) p.2
     congr 1
     funext v
     rw [putDF_eq];exact runOpsF_eq G hp cI cH os _ _
noncomputable def actDF (G:Nat→List AV) (cI:CI) (pl:Nat) (o:ROp) (t:T) (H:List Obj):Option (AV×List Obj×FP):=
 match wantF t o.guard with
 | some true=>if plOk H pl o.op=true then
  (match evalDF (evF G t) cI pl o.op H with
   | some (v,H')=>some (v,H',fpOfe (evF G t) pl o.op)
   | none=>none) else none
 | some false=>some (.tup [],H,{})
 | none=>none
theorem actDF_eq (G:Nat→List AV) (cI:CI) (pl:Nat) (o:ROp) (t:T) (H:List Obj):actDF G cI pl o t H=actDT G cI pl o t H:=by
 unfold actDF actDT
 rw [wantF_eq,evF_eq,evalDF_eq]
 rfl
abbrev OK3:=Option (T×List Obj×List FP)
def dCons (f:FP):OK3→OK3
 | some r=>some (r.1,r.2.1,f::r.2.2)
 | none=>none
noncomputable def dK (k:T→List Obj→OK3) (t:T) (d:Option Nat):Option (AV×List Obj×FP)→OK3
 | some p=>frc p.1 fun v=>dCons p.2.2 (k (putDF t d v) p.2.1)
 | none=>none
noncomputable def runDF (G:Nat→List AV) (cI:CI) (b:Nat) (os:List (Nat×ROp)):T→List Obj→OK3:=
 List.rec (motive:=fun _=>T→List Obj→OK3) (fun t H=>some (t,H,[])) (fun o _ ih t H=>dK ih t o.2.dst (actDF G cI (b+o.1) o.2 t H)) os
theorem runDF_eq (G:Nat→List AV) (cI:CI) (b:Nat):∀ (os:List (Nat×ROp)) (t:T) (H:List Obj),runDF G cI b os t H=runDT G cI b os t H
 | [],t,H=>rfl
 | (j,o)::os,t,H=>by
  show dK (runDF G cI b os) t o.dst (actDF G cI (b+j) o t H)=_
  rw [actDF_eq,runDT]
  cases actDT G cI (b+j) o t H with
  | none=>rfl
  | some p=>
   obtain ⟨v,H',f⟩:=p
   show frc v (fun v=>dCons f (runDF G cI b os (putDF t o.dst v) H'))=frc v _
   congr 1
   funext v
   rw [putDF_eq,runDF_eq G cI b os]
   cases runDT G cI b os (putD t o.dst v) H' with
   | none=>rfl
   | some r=>rfl
noncomputable def wksF (ts:List Nat) (s:ST):ST:=
 List.rec (motive:=fun _=>ST→ST) (fun s=>s) (fun t _ ih s=>ih ⟨putT t (getF t s.tmps.l).wk s.tmps,wkH s.H (getF t s.tmps.l)⟩) ts s
theorem wksF_eq:∀ (ts:List Nat) (s:ST),wksF ts s=wksT ts s
 | [],s=>rfl
 | t::ts,s=>by
  show wksF ts ⟨putT t (getF t s.tmps.l).wk s.tmps,wkH s.H (getF t s.tmps.l)⟩=_
  rw [wksF_eq ts,wksT,putT_eq,getF_eq];rfl
noncomputable def ghostF (base:Nat) (s:ST) (g:GA):Option ST:=match g with
 | .wk l=>some (wksF l s)
 | .kill l=>some ⟨killF l s.tmps,s.H⟩
 | g=>ghost1T base s g
theorem ghostF_eq (base:Nat) (s:ST) (g:GA):ghostF base s g=ghost1T base s g:=by
 cases g with
 | wk l=>show some (wksF l s)=some (wksT l s);rw [wksF_eq]
 | kill l=>show some (⟨killF l s.tmps,s.H⟩:ST)=some ⟨T.kills l s.tmps,s.H⟩;rw [killF_eq]
 | _=>rfl
noncomputable def gK (k:ST→Option ST):Option ST→Option ST
 | some s=>k s
 | none=>none
noncomputable def ghostsF (base:Nat) (gs:List GA):ST→Option ST:=
 List.rec (motive:=fun _=>ST→Option ST) (fun s=>some s) (fun g _ ih s=>gK ih (ghostF base s g)) gs
theorem ghostsF_eq (base:Nat):∀ (gs:List GA) (s:ST),ghostsF base gs s=ghostsT base gs s
 | [],s=>rfl
 | g::gs,s=>by
  show gK (ghostsF base gs) (ghostF base s g)=_
  rw [ghostF_eq,ghostsT]
  cases ghost1T base s g with
  | none=>rfl
  | some s'=>exact ghostsF_eq base gs s'
noncomputable def lookF (tab:List (Nat×List AV×AV)) (f:Nat) (xs:List AV):Option AV:=
 List.rec (motive:=fun _=>Option AV) none (fun e _ ih=>cond (Nat.beq e.1 f) (cond (AV.sames e.2.1 xs) (some e.2.2) ih) ih) tab
theorem lookF_eq (f:Nat) (xs:List AV):∀ tab,lookF tab f xs=look tab f xs
 | []=>rfl
 | (g,ys,r)::l=>by
  show cond (Nat.beq g f) (cond (AV.sames ys xs) (some r) (lookF l f xs)) (lookF l f xs)=_
  rw [lookF_eq f xs l,look]
  cases Nat.beq g f<;>cases AV.sames ys xs<;>rfl
def orI (x:Option AV) (y:Option AV):Option AV:=match x with
 | some r=>some r
 | none=>y
noncomputable def cIF (tab:List (Nat×List AV×AV)) (fns:Nat→Option RF) (ex:EXT):CI:=fun f args=>orI (lookF tab f args) (cIT fns ex f args)
theorem cIF_eq (tab:List (Nat×List AV×AV)) (fns:Nat→Option RF) (ex:EXT):cIF tab fns ex=cIK tab fns ex:=by
 funext f args
 unfold cIF cIK
 rw [lookF_eq]
 cases look tab f args<;>rfl
abbrev OE:=Option (Ex×ST)
def seqK (k:ST→OE) (r:OE):OE:=match r with
 | some (.normal,s')=>k s'
 | r=>r
def condK (a b:OE):AV→OE
 | .bool true=>a
 | .bool false=>b
 | _=>none
def blockK (id:Nat) (r:OE):OE:=match r with
 | some (.exit i,s')=>if i=id then some (.normal,s') else some (.exit i,s')
 | r=>r
def memK:OK2→OE
 | some p=>some (.normal,⟨p.1,p.2⟩)
 | none=>none
def memD (ps:List (Nat×Nat)):OK3→OE
 | some p=>if pairsDisj p.2.2 ps=true then some (.normal,⟨p.1,p.2.1⟩) else none
 | none=>none
def ghK (r:Option ST):OE:=match r with
 | some s''=>some (.normal,s'')
 | none=>none
noncomputable def ghN (base:Nat) (post:List GA) (r:OE):OE:=match r with
 | some (.normal,s')=>ghK (ghostsF base post s')
 | r=>r
noncomputable def ghP (ex:EXT) (base:Nat) (r:RC) (post:List GA):Option ST→OE
 | some s0=>ghN base post (ex r base s0)
 | none=>none
def rfnE (s:ST):Option (AV×List Obj)→OE
 | some p=>(match lpEnd p.2 s.H.length with
  | some e=>some (e,⟨s.tmps,p.2.set s.H.length .dead⟩)
  | none=>none)
 | none=>none
noncomputable def rfnK (E:Env) (ex:EXT) (ps:List Nat) (asg body:RC) (s:ST):AV→OE
 | .fn f cap=>rfnE s (cHT E.fns ex (some f) (.yld s.H.length::cap) (s.H++[.lp .ready s.tmps.toL ps asg body]))
 | _=>none
noncomputable def stepF (E:Env) (hp:Nat→Bool) (tab:List (Nat×List AV×AV)) (ex:EXT) (c:RC) (base:Nat) (s:ST):OE:=
 match c with
 | .bad=>none
 | .skip=>some (.normal,s)
 | .ret=>some (.ret,s)
 | .exit id=>some (.exit id,s)
 | .seq a b=>seqK (ex b base) (ex a base s)
 | .cond x a b=>condK (ex a base s) (ex b base s) (evF E.glob s.tmps x)
 | .block id b=>blockK id (ex b base s)
 | .loop b=>seqK (ex (.loop b) base) (ex b base s)
 | .reg ops=>memK (runOpsF E.glob hp (cIF tab E.fns ex) (cHT E.fns ex) ops s.tmps s.H)
 | .draw ops=>memK (runOpsF E.glob (fun _=>false) (cIF tab E.fns ex) (fun _ _ _=>none) ops s.tmps s.H)
 | .drawX ops bf=>memK (runXT E.glob hp (cIF tab E.fns ex) (cHT E.fns ex) bf ops 0 [] [] s.tmps s.H)
 | .drawW ops k ps=>memD ps (runDF E.glob (cIF tab E.fns ex) s.H.length ops s.tmps (s.H++List.replicate k .rsv))
 | .gh pre r post=>ghP ex base r post (ghostsF base pre s)
 | .rfn g ps asg body=>rfnK E ex ps asg body s (evF E.glob s.tmps g)
noncomputable def execF (E:Env) (hp:Nat→Bool) (tab:List (Nat×List AV×AV)) (n:Nat):EXT:=
 Nat.rec (motive:=fun _=>EXT) (fun _ _ _=>none) (fun _ ih c base s=>stepF E hp tab ih c base s) n
theorem execF_eq (E:Env) (hp:Nat→Bool) (tab:List (Nat×List AV×AV)):∀ n,execF E hp tab n=execK E hp tab n
 | 0=>by funext c base s;rfl
 | n+1=>by
  funext c base s
  show stepF E hp tab (execF E hp tab n) c base s=_
  rw [execF_eq E hp tab n]
  cases c with
  | bad=>rfl
  | skip=>rfl
  | ret=>rfl
  | exit i=>rfl
  | seq a b=>
   rw [execK]
   show seqK _ _=_
   rcases execK E hp tab n a base s with _ | ⟨e,s'⟩
   ·rfl
   ·cases e<;>rfl
  | cond x a b=>
   rw [execK]
   show condK _ _ _=_
   rw [evF_eq];rfl
  | block i b=>
   rw [execK]
   show blockK _ _=_
   rcases execK E hp tab n b base s with _ | ⟨e,s'⟩
   ·rfl
   ·cases e<;>rfl
  | loop b=>
   rw [execK]
   show seqK _ _=_
   rcases execK E hp tab n b base s with _ | ⟨e,s'⟩
   ·rfl
   ·cases e<;>rfl
  | reg ops=>
   rw [execK]
   show memK _=_
   rw [runOpsF_eq,cIF_eq]
   rcases runOpsT E.glob hp (cIK tab E.fns (execK E hp tab n)) (cHT E.fns (execK E hp tab n)) ops s.tmps s.H with _ | ⟨t,H⟩<;>rfl
  | draw ops=>
   rw [execK]
   show memK _=_
   rw [runOpsF_eq,cIF_eq]
   rcases runOpsT E.glob (fun _=>false) (cIK tab E.fns (execK E hp tab n)) (fun _ _ _=>none) ops s.tmps s.H with _ | ⟨t,H⟩<;>rfl
  | drawX ops bf=>
   rw [execK]
   show memK _=_
   rw [cIF_eq]
   rcases runXT E.glob hp (cIK tab E.fns (execK E hp tab n)) (cHT E.fns (execK E hp tab n)) bf ops 0 [] [] s.tmps s.H with _ | ⟨t,H⟩<;>rfl
  | drawW ops k ps=>
   rw [execK]
   show memD _ _=_
   rw [runDF_eq,cIF_eq]
   rcases hx:runDT E.glob (cIK tab E.fns (execK E hp tab n)) s.H.length ops s.tmps (s.H++List.replicate k .rsv) with _ | ⟨t,H,fs⟩<;>simp only [hx]<;>rfl
  | gh pre r post=>
   rw [execK]
   show ghP _ _ _ _ _=_
   rw [ghostsF_eq]
   cases ghostsT base pre s with
   | none=>rfl
   | some s0=>
    show ghN base post (execK E hp tab n r base s0)=_
    rcases hx:execK E hp tab n r base s0 with _ | ⟨e,s'⟩
    ·simp only [hx];rfl
    ·simp only [hx]
     cases e<;>try rfl
     show ghK (ghostsF base post s')=_
     rw [ghostsF_eq];rfl
  | rfn g ps asg body=>
   rw [execK]
   show rfnK _ _ _ _ _ _ _=_
   rw [evF_eq]
   cases evT E.glob s.tmps g<;>try rfl
   rename_i f cap
   show rfnE s _=_
   dsimp only
   rcases hx:cHT E.fns (execK E hp tab n) (some f) (.yld s.H.length::cap) (s.H++[.lp .ready s.tmps.toL ps asg body]) with _ | ⟨u,H'⟩<;>simp only [hx]<;>rfl
end Go.Am.As
