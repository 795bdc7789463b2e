/- The machine with known calls, in small pieces, which the kernel runs faster: it is the same machine. No condition. -/
import Derived.Test.YtafgdbaekppjcaaGreatDoorAmZk
set_option linter.unusedSectionVars false
set_option linter.unusedVariables false
set_option linter.unusedSimpArgs false
namespace Go.Am.As
noncomputable def Bi (n:Nat) (l:List (Nat×AV)):AV:=List.rec (motive:=fun _=>AV) .any (fun p _ ih=>cond (Nat.beq p.1 n) p.2 ih) l
theorem vu (n:Nat):∀ l,Bi n l=T.eY l n
 | []=>rfl
 | (k,v)::r=>by
  show cond (Nat.beq k n) v (Bi n r)=_;rw [vu n r,T.eY,T.Q2];by_cases h:k=n<;>simp [h]
noncomputable def Vz (n:Nat) (x:AV) (l:List (Nat×AV)):List (Nat×AV):=
 List.rec (motive:=fun _=>List (Nat×AV)) [(n,x)] (fun p r ih=>cond (Nat.beq p.1 n) ((n,x)::r) (cond (Nat.ble p.1 n) (p::ih) ((n,x)::p::r))) l
theorem IS (n:Nat) (x:AV):∀ l,Vz n x l=T.sJ l n x
 | []=>rfl
 | (k,v)::r=>by
  show cond (Nat.beq k n) ((n,x)::r) (cond (Nat.ble k n) ((k,v)::Vz n x r) ((n,x)::(k,v)::r))=_;rw [IS n x r,T.sJ,T.Q2];by_cases h:k=n
  ·simp [h]
  ·by_cases h2:n < k
   ·have e:Nat.ble k n=false:=by cases hb:Nat.ble k n with
     | false=>rfl
     | true=>have:=zaB hb;omega
    simp [h,h2,e]
   ·have e:Nat.ble k n=true:=Nat.ble_eq_true_of_le (by omega);simp [h,h2,e]
noncomputable def zE (ds:List Nat):Nat:=List.rec (motive:=fun _=>Nat) 0 (fun d _ ih=>Nat.lor (Nat.shiftLeft 1 d) ih) ds
noncomputable def C8 (m:Nat) (l:List (Nat×AV)):List (Nat×AV):=
 List.rec (motive:=fun _=>List (Nat×AV)) [] (fun p _ ih=>cond (Nat.beq (Nat.land (Nat.shiftRight m p.1) 1) 1) ih (p::ih)) l
theorem W8 (m k:Nat):Nat.beq (Nat.land (Nat.shiftRight m k) 1) 1=m.testBit k:=by
 have e:Nat.land (Nat.shiftRight m k) 1=m / 2 ^ k % 2:=by
  show (m >>> k)&&& 1=_;rw [Nat.and_one_is_mod,Nat.shiftRight_eq_div_pow]
 rw [e,T.Q2,Nat.testBit_eq_decide_div_mod_eq]
theorem DW (k:Nat):∀ ds:List Nat,(zE ds).testBit k=decide (k∈ds)
 | []=>by show Nat.testBit 0 k=_;simp
 | d::ds=>by
  show Nat.testBit (Nat.lor (Nat.shiftLeft 1 d) (zE ds)) k=_;have e:Nat.testBit (Nat.lor (Nat.shiftLeft 1 d) (zE ds)) k=(Nat.testBit (2 ^ d) k||Nat.testBit (zE ds) k):=by
   have:Nat.shiftLeft 1 d=2 ^ d:=Nat.one_shiftLeft d;rw [this];exact Nat.testBit_or ..
  rw [e,DW k ds,Nat.testBit_two_pow];by_cases h:d=k
  ·simp [h]
  ·have h2:¬ k=d:=fun e=>h e.symm
   simp [h,h2]
theorem DX (m:Nat):∀ l:List (Nat×AV),C8 m l=l.filter fun p=> !m.testBit p.1
 | []=>rfl
 | p::r=>by
  show cond (Nat.beq (Nat.land (Nat.shiftRight m p.1) 1) 1) (C8 m r) (p::C8 m r)=_;rw [W8,DX m r,List.filter_cons]
  cases m.testBit p.1<;>rfl
theorem uw (d:Nat):∀ l:List (Nat×AV),T.nh l d=l.filter fun p=> !decide (p.1=d)
 | []=>rfl
 | (k,v)::r=>by
  rw [T.nh,uw d r,List.filter_cons];by_cases h:k=d<;>simp [h]
theorem sx:∀ (ds:List Nat) (n:Nat) (l:List (Nat×AV)),T.fI ds ⟨n,l⟩=⟨n,l.filter fun p=> !decide (p.1∈ds)⟩
 | [],n,l=>by
  rw [T.fI];have:(l.filter fun p=> !decide (p.1∈([]:List Nat)))=l:=List.filter_eq_self.2 (fun p _=>by simp);rw [this]
 | d::ds,n,l=>by
  rw [T.fI,sx ds,uw,List.filter_filter];congr 1;apply List.filter_congr
  intro p _;by_cases h1:p.1=d<;>by_cases h2:p.1∈ds<;>simp [h1,h2]
noncomputable def L6 (ds:List Nat) (t:T):T:=⟨t.sz,C8 (zE ds) t.l⟩
theorem OZ (ds:List Nat) (t:T):L6 ds t=T.fI ds t:=by
 cases t with
 | mk n l=>
  rw [sx];show (⟨n,C8 (zE ds) l⟩:T)=_;rw [DX];congr 1;apply List.filter_congr
  intro p _;rw [DW]
noncomputable def Lm (n:Nat) (x:AV) (t:T):T:=cond (Nat.ble t.sz n) t ⟨t.sz,Vz n x t.l⟩
theorem IT (n:Nat) (x:AV) (t:T):Lm n x t=t.put n x:=by
 unfold Lm T.put;rw [IS];by_cases h:n < t.sz
 ·have e:Nat.ble t.sz n=false:=by cases hb:Nat.ble t.sz n with
   | false=>rfl
   | true=>have:=zaB hb;omega
  rw [if_pos h,e];rfl
 ·have e:Nat.ble t.sz n=true:=Nat.ble_eq_true_of_le (by omega);rw [if_neg h,e];rfl
noncomputable def X9 (G:Nat->List AV) (t:T):RX->AV
 | .t n=>Bi n t.l
 | .c v=>v
 | .g g=> .bR (G g)
theorem Bx (G:Nat->List AV) (t:T):X9 G t=ga G t:=by
 funext r
 cases r with
 | t n=>exact vu n t.l
 | _=>rfl
noncomputable def zF (t:T) (d:Option Nat) (v:AV):T:=match d with | some d=>Lm d v t | none=>t
theorem xE (t:T) (d:Option Nat) (v:AV):zF t d v=cS t d v:=by
 cases d with
 | none=>rfl
 | some d=>exact IT d v t
def TX (b:Bool):AV->Option Bool
 | .bool c=>some (c==b)
 | .aY []=>some false
 | _=>none
noncomputable def L7 (t:T):Option (Nat×Bool)->Option Bool
 | none=>some true
 | some p=>TX p.2 (Bi p.1 t.l)
theorem DY (t:T) (g:Option (Nat×Bool)):L7 t g=dh t g:=by
 cases g with
 | none=>rfl
 | some p=>
  show TX p.2 (Bi p.1 t.l)=_;rw [vu];rfl
def um (k:IntKind) (m:Nat):Int:=cond (Nat.blt m 128) (Int.ofNat m) (k.wrap (Int.ofNat m))
theorem GI (k:IntKind) {m:Nat} (h:m < 128):k.wrap (Int.ofNat m)=Int.ofNat m:=by
 have:∀ m:Fin 128,k.wrap (Int.ofNat m.1)=Int.ofNat m.1:=by cases k<;>decide
 exact this ⟨m,h⟩
theorem sg (k:IntKind) (m:Nat):um k m=k.wrap (Int.ofNat m):=by
 unfold um
 cases h:Nat.blt m 128 with
 | false=>rfl
 | true=>exact (GI k (zaB h)).symm
def TY (k:IntKind):Int->Int
 | .ofNat m=>um k m
 | n=>k.wrap n
theorem O4 (k:IntKind) (n:Int):TY k n=k.wrap n:=by
 cases n with
 | ofNat m=>exact sg k m
 | negSucc m=>rfl
def ZI (k:IntKind):Int->Int->Int
 | .ofNat a,.ofNat b=>um k (Nat.add a b)
 | x,y=>k.wrap (x+y)
def ZJ (k:IntKind):Int->Int->Int
 | .ofNat a,.ofNat b=>um k (Nat.mul a b)
 | x,y=>k.wrap (x*y)
def ZK (k:IntKind):Int->Int->Int
 | .ofNat a,.ofNat b=>cond (Nat.ble b a) (um k (Nat.sub a b)) (k.wrap (Int.ofNat a - Int.ofNat b))
 | x,y=>k.wrap (x - y)
def ltF:Int->Int->Bool
 | .ofNat a,.ofNat b=>Nat.blt a b
 | x,y=>decide (x < y)
def leF:Int->Int->Bool
 | .ofNat a,.ofNat b=>Nat.ble a b
 | x,y=>decide (x<=y)
def eqF:Int->Int->Bool
 | .ofNat a,.ofNat b=>Nat.beq a b
 | x,y=>x==y
theorem Sn (k:IntKind) (x y:Int):ZI k x y=k.wrap (x+y):=by
 cases x<;>cases y<;>first | rfl | exact sg k _
theorem So (k:IntKind) (x y:Int):ZJ k x y=k.wrap (x*y):=by
 cases x<;>cases y<;>first | rfl | exact sg k _
theorem Sq (k:IntKind) (x y:Int):ZK k x y=k.wrap (x - y):=by
 cases x with
 | negSucc a=>cases y<;>rfl
 | ofNat a=>
  cases y with
  | negSucc b=>rfl
  | ofNat b=>
   show cond (Nat.ble b a) (um k (Nat.sub a b)) (k.wrap (Int.ofNat a - Int.ofNat b))=_
   cases h:Nat.ble b a with
   | false=>rfl
   | true=>
    have:=zaB h;show um k (Nat.sub a b)=_;rw [sg];congr 1;show ((a - b:Nat):Int)=(a:Int) - (b:Int);omega
theorem W9 (x y:Int):ltF x y=decide (x < y):=by
 cases x with
 | negSucc a=>cases y<;>rfl
 | ofNat a=>
  cases y with
  | negSucc b=>rfl
  | ofNat b=>
   show Nat.blt a b=_;have e:Nat.blt a b=decide (a < b):=by
    cases h:Nat.blt a b with
    | true=>have h3:a < b:=zaB h;simp [h3]
    | false=>
     have:¬ a < b:=fun hc=>by
      have:=Nat.ble_eq_true_of_le hc;rw [Nat.blt] at h;rw [h] at this;cases this
     simp [this]
   rw [e];congr 1;exact propext ⟨fun h=>Int.ofNat_lt.2 h,fun h=>Int.ofNat_lt.1 h⟩
theorem Xa (x y:Int):leF x y=decide (x<=y):=by
 cases x with
 | negSucc a=>cases y<;>rfl
 | ofNat a=>
  cases y with
  | negSucc b=>rfl
  | ofNat b=>
   show Nat.ble a b=_;have e:Nat.ble a b=decide (a<=b):=by
    cases h:Nat.ble a b with
    | true=>simp [zaB h]
    | false=>
     have:¬ a<=b:=fun hc=>by
      have:=Nat.ble_eq_true_of_le hc;rw [h] at this;cases this
     simp [this]
   rw [e];congr 1;exact propext ⟨fun h=>Int.ofNat_le.2 h,fun h=>Int.ofNat_le.1 h⟩
theorem Xb (x y:Int):eqF x y=(x==y):=by
 cases x with
 | negSucc a=>cases y<;>rfl
 | ofNat a=>
  cases y with
  | negSucc b=>rfl
  | ofNat b=>
   show Nat.beq a b=_;rw [T.Q2];by_cases h:a=b
   ·simp [h]
   ·have:((a:Int)==(b:Int))=false:=by simp;omega
    have e:(Int.ofNat a==Int.ofNat b)=false:=this;rw [e];simp [h]
def HO (op:BinOp) (k:IntKind) (x y:Int):Option AV:=
 match op with
 | .add=>some (.int k (ZI k x y))
 | .sub=>some (.int k (ZK k x y))
 | .mul=>some (.int k (ZJ k x y))
 | .eql=>some (.bool (eqF x y))
 | .neq=>some (.bool (!(eqF x y)))
 | .lss=>some (.bool (ltF x y))
 | .leq=>some (.bool (leF x y))
 | .gtr=>some (.bool (ltF y x))
 | .geq=>some (.bool (leF y x))
 | op=>Bc op k x y
theorem O6 (op:BinOp) (k:IntKind) (x y:Int):HO op k x y=Bc op k x y:=by
 cases op<;>first | rfl | (simp only [HO,Bc,Sn,Sq,So,Xb,W9,Xa,bne,gt_iff_lt,ge_iff_le])
def adx (op:BinOp) (k k':IntKind) (a b:Int):Option AV:=match op with
 | .shl=>if b < 0 then none else some (.int k (k.wrap (a*2 ^ (min b.toNat k.bits))))
 | .shr=>if b < 0 then none else some (.int k (a.fdiv (2 ^ (min b.toNat k.bits))))
 | op=>if k=k' then HO op k a b else none
def Ln (op:BinOp) (k:IntKind) (a:Int):AV->Option AV
 | .int k' b=>adx op k k' a b
 | _=>none
def ady (op:BinOp) (a:List UInt8):AV->Option AV
 | .str b=>JM op a b
 | _=>none
def ZL (op:BinOp) (x y:AV):Option AV:=match x with
 | .int k a=>Ln op k a y
 | .str a=>ady op a y
 | _=>none
theorem Sr (op:BinOp) (x y:AV):ZL op x y=bin op x y:=by
 cases x<;>try rfl
 case int k a=>
  cases y<;>try rfl
  case int k' b=>cases op<;>first | rfl | (show (if k=k' then HO _ k a b else none)=_;rw [O6];rfl)
 case str a=>cases y<;>rfl
def abe (c a b:AV):Option AV:=match c with | .bool true=>some a | .bool false=>some b | _=>none
def adz:Option (List AV)->Option AV
 | some cs=>some (.agg cs)
 | none=>none
def Xc (ev:RX->AV) (z:List AV) (parts:List (Nat×Nat×RX)):Option AV:=adz (nx z (parts.map fun (o,n,x)=>(o,n,ev x)))
def TZ (k:IntKind):AV->Option AV
 | .int _ n=>some (.int k (TY k n))
 | _=>none
def adA (off n:Nat) (ag:Bool):AV->Option AV
 | .agg cs=>part n ag cs off
 | _=>none
def adB:Option Int->Option AV
 | some n=>some (.int .i64 n)
 | none=>none
def pMn:List AV->Option AV
 | x::r=>jA min2 x r
 | []=>none
def pMx:List AV->Option AV
 | x::r=>jA max2 x r
 | []=>none
def adC (i:Nat):AV->Option AV
 | .aY vs=>vs[i]?
 | _=>none
def abf:AV->Option AV
 | .bF=>some (.int .i64 0)
 | _=>none
def M1 (ev:RX->AV):RO->Option AV
 | .Ho x=>some (ev x)
 | .pick c a b=>abe (ev c) (ev a) (ev b)
 | .build z parts=>Xc ev z parts
 | .bin op x y=>ZL op (ev x) (ev y)
 | .un op x=>un op (ev x)
 | .Cz neg ks x y=>Cz neg ks (ev x) (ev y)
 | .Hp neg x y=>Hp neg (ev x) (ev y)
 | .Hq neg x y=>Hq neg (ev x) (ev y)
 | .pJ x=>pJ (ev x)
 | .conv k x=>TZ k (ev x)
 | .Tj off n ag x=>adA off n ag (ev x)
 | .uZ off x=>uZ off (ev x)
 | .mm len sz x i=>mm len sz (ev x) (ev i)
 | .nk len n ag x i=>nk len n ag (ev x) (ev i)
 | .oV x i=>oV (ev x) (ev i)
 | .oW x lo hi=>oW (ev x) (lo.map ev) (hi.map ev)
 | .Qk f cap=>some (.fn f (cap.map ev))
 | .Tk f l=>some (.eD f (l.map ev))
 | .len st x=>adB (qP st (ev x))
 | .mn l=>pMn (l.map ev)
 | .mx l=>pMx (l.map ev)
 | .ext x i=>adC i (ev x)
 | .Jr x=>Jr (ev x)
 | .FE x=>abf (ev x)
 | _=>none
theorem J6 (ev:RX->AV) (x:RO):M1 ev x=cA ev x:=by
 cases x<;>try rfl
 case bin op x y=>exact Sr op (ev x) (ev y)
 case conv k x=>
  show TZ k (ev x)=(match ev x with | .int _ n=>some (.int k (k.wrap n)) | _=>none)
  cases ev x<;>try rfl
  exact congrArg (fun n=>some (AV.int k n)) (O4 k _)
def Lo (H:List Obj):Option AV->Option (AV×List Obj)
 | some v=>some (v,H)
 | none=>none
def ZM:Option (List Obj)->Option (AV×List Obj)
 | some H'=>some (.aY [],H')
 | none=>none
def ZN (pl:Nat) (cs:List AV) (H:List Obj):Option (AV×List Obj):=if aW cs=true then some (.aJ pl 1 0 0,putObj H pl (.live .norm cs.length [cs])) else none
def adD (ev:RX->AV) (H:List Obj) (pl sz:Nat) (z:List AV) (len:Nat) (parts:List (Nat×RX)):Option (AV×List Obj):=cP ev H pl (.u0 sz z len parts)
def adE (ev:RX->AV) (H:List Obj) (pl sz:Nat) (z:List AV) (bytes:Nat) (l c:RX):Option (AV×List Obj):=cP ev H pl (.Hr sz z bytes l c)
def abg (ev:RX->AV) (H:List Obj) (pl:Nat) (z:List AV) (len:Nat) (parts:List (Nat×RX)):Option (AV×List Obj):=cP ev H pl (.A5 z len parts)
def abh (ev:RX->AV) (H:List Obj) (pl sz:Nat) (z:List AV) (bytes:Nat) (s n:RX):Option (AV×List Obj):=cP ev H pl (.sH sz z bytes s n)
def adF (H:List Obj) (pl:Nat):AV->Option (AV×List Obj)
 | .str s=>some (.qB pl,putObj H pl (.it s 0))
 | _=>none
def By (ev:RX->AV) (H:List Obj) (pl:Nat):RO->Option (AV×List Obj)
 | .box x=>ZN pl (ev x).cells H
 | .alloc z=>ZN pl z H
 | .u0 sz z len parts=>adD ev H pl sz z len parts
 | .store n a x=>ZM (storeAt H n (ev a) (ev x))
 | .Hr sz z bytes l c=>adE ev H pl sz z bytes l c
 | .app sz bytes s x=>append H pl sz bytes (ev s) (ev x)
 | .A5 z len parts=>abg ev H pl z len parts
 | .sH sz z bytes s n=>abh ev H pl sz z bytes s n
 | .Js=>some (.mp pl,putObj H pl (.mp []))
 | .gX k m x v=>ZM (gX H k (ev m) (ev x) (ev v))
 | .Fh x=>adF H pl (ev x)
 | .uK x=>uK H (ev x)
 | .gY k z ok m x=>Lo H (gY H k z ok (ev m) (ev x))
 | .jv m=>Lo H (jv H (ev m))
 | .Cs x=>Lo H (Cs H (ev x))
 | _=>none
theorem J7 (ev:RX->AV) (H:List Obj) (pl:Nat) (x:RO):By ev H pl x=cP ev H pl x:=by cases x<;>rfl
def abi (hp:Nat->Bool) (cI:CI) (cH:CH) (l:List AV) (H:List Obj):AV->Option (AV×List Obj)
 | .fn f cap=>bJ hp cI cH f (l++cap) H
 | .eD f l'=>bJ hp cI cH f (l'++l) H
 | .fA i=>cH none (.fA i::l) H
 | _=>none
def abj (ev:RX->AV) (hp:Nat->Bool) (cI:CI) (cH:CH) (H:List Obj):RO->Option (AV×List Obj)
 | .call f args=>bJ hp cI cH f (args.map ev) H
 | .gf fx args=>abi hp cI cH (args.map ev) H (ev fx)
 | _=>none
def vv (ev:RX->AV) (hp:Nat->Bool) (cI:CI) (cH:CH) (pl:Nat) (x:RO) (H:List Obj):Option (AV×List Obj):=
 match x.kind with
 | .pure=>Lo H (M1 ev x)
 | .read=>Lo H (dS ev H x)
 | .write=>By ev H pl x
 | .call=>abj ev hp cI cH H x
theorem yg (ev:RX->AV) (hp:Nat->Bool) (cI:CI) (cH:CH) (pl:Nat) (x:RO) (H:List Obj):vv ev hp cI cH pl x H=bW ev hp cI cH pl x H:=by
 unfold vv bW
 cases x.kind with
 | pure=>dsimp only;rw [J6];rfl
 | read=>rfl
 | write=>exact J7 ev H pl x
 | call=>dsimp only;cases x<;>rfl
def abk (ev:RX->AV) (cI:CI) (f:Nat) (args:List AV) (H:List Obj):Option (AV×List Obj):=
 if mC H args=true then bJ (fun _=>false) cI (fun _ _ _=>none) f args H else none
def Gg (ev:RX->AV) (cI:CI) (pl:Nat) (x:RO) (H:List Obj):Option (AV×List Obj):=
 match x with
 | .iD f args=>mkObj cI f (args.map ev) pl H
 | .mo sz bytes a b=>eL (pl::refs (ev a)) (By ev H pl (.app sz bytes a b))
 | .m8 sz z len parts=>eL [pl] (By ev H pl (.u0 sz z len parts))
 | .call f args=>abk ev cI f (args.map ev) H
 | x=>vv ev (fun _=>false) cI (fun _ _ _=>none) pl x H
theorem J8 (ev:RX->AV) (cI:CI) (pl:Nat) (x:RO) (H:List Obj):Gg ev cI pl x H=fF ev cI pl x H:=by
 cases x<;>first | rfl | (simp only [Gg,fF];exact yg ev (fun _=>false) cI (fun _ _ _=>none) pl _ H)
abbrev UD:=Option (T×List Obj)
noncomputable def opK (k:T->List Obj->UD) (t:T) (d:Option Nat):Option (AV×List Obj)->UD
 | some p=>KL p.1 fun v=>k (zF t d v) p.2
 | none=>none
noncomputable def opF (G:Nat->List AV) (hp:Nat->Bool) (cI:CI) (cH:CH) (o:bH) (k:T->List Obj->UD) (t:T) (H:List Obj):UD:=
 match L7 t o.guard with
 | some true=>opK k t o.dst (vv (X9 G t) hp cI cH H.length o.op H)
 | some false=>k (zF t o.dst (.aY [])) H
 | none=>none
noncomputable def rE (G:Nat->List AV) (hp:Nat->Bool) (cI:CI) (cH:CH) (os:List bH):T->List Obj->UD:=
 List.rec (motive:=fun _=>T->List Obj->UD) (fun t H=>some (t,H)) (fun o _ ih t H=>opF G hp cI cH o ih t H) os
theorem mJ (G:Nat->List AV) (hp:Nat->Bool) (cI:CI) (cH:CH):∀ (os:List bH) (t:T) (H:List Obj),rE G hp cI cH os t H=aZ G hp cI cH os t H
 | [],t,H=>rfl
 | o::os,t,H=>by
  show opF G hp cI cH o (rE G hp cI cH os) t H=_;unfold opF;rw [DY,Bx,yg,xE,aZ]
  cases dh t o.guard with
  | none=>rfl
  | some b=>
   cases b with
   | false=>exact mJ G hp cI cH os _ _
   | true=>
    dsimp only
    cases bW (ga G t) hp cI cH H.length o.op H with
    | none=>rfl
    | some p=>
     show KL p.1 (fun v=>rE G hp cI cH os (zF t o.dst v) p.2)=KL p.1 fun v=>aZ G hp cI cH os (cS t o.dst v) p.2
     congr 1;funext v
     rw [xE];exact mJ G hp cI cH os _ _
noncomputable def HP (G:Nat->List AV) (cI:CI) (pl:Nat) (o:bH) (t:T) (H:List Obj):Option (AV×List Obj×FP):=
 match L7 t o.guard with
 | some true=>if sI H pl o.op=true then
  (match Gg (X9 G t) cI pl o.op H with
   | some (v,H')=>some (v,H',mU (X9 G t) pl o.op)
   | none=>none) else none
 | some false=>some (.aY [],H,{})
 | none=>none
theorem O8 (G:Nat->List AV) (cI:CI) (pl:Nat) (o:bH) (t:T) (H:List Obj):HP G cI pl o t H=nE G cI pl o t H:=by
 unfold HP nE;rw [DY,Bx,J8];rfl
abbrev UE:=Option (T×List Obj×List FP)
def T0 (f:FP):UE->UE
 | some r=>some (r.1,r.2.1,f::r.2.2)
 | none=>none
noncomputable def dK (k:T->List Obj->UE) (t:T) (d:Option Nat):Option (AV×List Obj×FP)->UE
 | some p=>KL p.1 fun v=>T0 p.2.2 (k (zF t d v) p.2.1)
 | none=>none
noncomputable def HQ (G:Nat->List AV) (cI:CI) (b:Nat) (os:List (Nat×bH)):T->List Obj->UE:=
 List.rec (motive:=fun _=>T->List Obj->UE) (fun t H=>some (t,H,[])) (fun o _ ih t H=>dK ih t o.2.dst (HP G cI (b+o.1) o.2 t H)) os
theorem DZ (G:Nat->List AV) (cI:CI) (b:Nat):∀ (os:List (Nat×bH)) (t:T) (H:List Obj),HQ G cI b os t H=gD G cI b os t H
 | [],t,H=>rfl
 | (j,o)::os,t,H=>by
  show dK (HQ G cI b os) t o.dst (HP G cI (b+j) o t H)=_;rw [O8,gD]
  cases nE G cI (b+j) o t H with
  | none=>rfl
  | some p=>
   obtain ⟨v,H',f⟩:=p;show KL v (fun v=>T0 f (HQ G cI b os (zF t o.dst v) H'))=KL v _;congr 1;funext v
   rw [xE,DZ G cI b os]
   cases gD G cI b os (cS t o.dst v) H' with
   | none=>rfl
   | some r=>rfl
noncomputable def Q3 (ts:List Nat) (s:ST):ST:=
 List.rec (motive:=fun _=>ST->ST) (fun s=>s) (fun t _ ih s=>ih ⟨Lm t (Bi t s.tmps.l).wk s.tmps,P6 s.H (Bi t s.tmps.l)⟩) ts s
theorem IU:∀ (ts:List Nat) (s:ST),Q3 ts s=vO ts s
 | [],s=>rfl
 | t::ts,s=>by
  show Q3 ts ⟨Lm t (Bi t s.tmps.l).wk s.tmps,P6 s.H (Bi t s.tmps.l)⟩=_;rw [IU ts,vO,IT,vu];rfl
noncomputable def Gh (base:Nat) (s:ST) (g:GA):Option ST:=match g with
 | .wk l=>some (Q3 l s)
 | .kill l=>some ⟨L6 l s.tmps,s.H⟩
 | g=>aD base s g
theorem J9 (base:Nat) (s:ST) (g:GA):Gh base s g=aD base s g:=by
 cases g with
 | wk l=>show some (Q3 l s)=some (vO l s);rw [IU]
 | kill l=>show some (⟨L6 l s.tmps,s.H⟩:ST)=some ⟨T.fI l s.tmps,s.H⟩;rw [OZ]
 | _=>rfl
noncomputable def gK (k:ST->Option ST):Option ST->Option ST
 | some s=>k s
 | none=>none
noncomputable def rF (base:Nat) (gs:List GA):ST->Option ST:=
 List.rec (motive:=fun _=>ST->Option ST) (fun s=>some s) (fun g _ ih s=>gK ih (Gh base s g)) gs
theorem qt (base:Nat):∀ (gs:List GA) (s:ST),rF base gs s=cF base gs s
 | [],s=>rfl
 | g::gs,s=>by
  show gK (rF base gs) (Gh base s g)=_;rw [J9,cF]
  cases aD base s g with
  | none=>rfl
  | some s'=>exact qt base gs s'
noncomputable def HS (eg:List (Nat×List AV×AV)) (f:Nat) (xs:List AV):Option AV:=
 List.rec (motive:=fun _=>Option AV) none (fun e _ ih=>cond (Nat.beq e.1 f) (cond (AV.iJ e.2.1 xs) (some e.2.2) ih) ih) eg
theorem D0 (f:Nat) (xs:List AV):∀ eg,HS eg f xs=look eg f xs
 | []=>rfl
 | (g,ys,r)::l=>by
  show cond (Nat.beq g f) (cond (AV.iJ ys xs) (some r) (HS l f xs)) (HS l f xs)=_;rw [D0 f xs l,look]
  cases Nat.beq g f<;>cases AV.iJ ys xs<;>rfl
def orI (x:Option AV) (y:Option AV):Option AV:=match x with
 | some r=>some r
 | none=>y
noncomputable def m6 (eg:List (Nat×List AV×AV)) (fns:Nat->Option RF) (ex:qF):CI:=fun f args=>orI (HS eg f args) (kh fns ex f args)
theorem wH (eg:List (Nat×List AV×AV)) (fns:Nat->Option RF) (ex:qF):m6 eg fns ex=Hw eg fns ex:=by
 funext f args
 unfold m6 Hw;rw [D0]
 cases look eg f args<;>rfl
abbrev OE:=Option (Ex×ST)
def Q4 (k:ST->OE) (r:OE):OE:=match r with
 | some (.normal,s')=>k s'
 | r=>r
def T1 (a b:OE):AV->OE
 | .bool true=>a
 | .bool false=>b
 | _=>none
def M3 (id:Nat) (r:OE):OE:=match r with
 | some (.exit i,s')=>if i=id then some (.normal,s') else some (.exit i,s')
 | r=>r
def JN:UD->OE
 | some p=>some (.normal,⟨p.1,p.2⟩)
 | none=>none
def ZO (ps:List (Nat×Nat)):UE->OE
 | some p=>if gm p.2.2 ps=true then some (.normal,⟨p.1,p.2.1⟩) else none
 | none=>none
def ghK (r:Option ST):OE:=match r with
 | some s''=>some (.normal,s'')
 | none=>none
noncomputable def ghN (base:Nat) (post:List GA) (r:OE):OE:=match r with
 | some (.normal,s')=>ghK (rF base post s')
 | r=>r
noncomputable def ghP (ex:qF) (base:Nat) (r:RC) (post:List GA):Option ST->OE
 | some s0=>ghN base post (ex r base s0)
 | none=>none
def ZP (s:ST):Option (AV×List Obj)->OE
 | some p=>(match lg p.2 s.H.length with
  | some e=>some (e,⟨s.tmps,p.2.set s.H.length .dead⟩)
  | none=>none)
 | none=>none
noncomputable def ZQ (E:Env) (ex:qF) (ps:List Nat) (b6 body:RC) (s:ST):AV->OE
 | .fn f cap=>ZP s (kg E.fns ex (some f) (.fA s.H.length::cap) (s.H++[.lp .ready s.tmps.toL ps b6 body]))
 | _=>none
noncomputable def T2 (E:Env) (hp:Nat->Bool) (eg:List (Nat×List AV×AV)) (ex:qF) (c:RC) (base:Nat) (s:ST):OE:=
 match c with
 | .bad=>none
 | .skip=>some (.normal,s)
 | .ret=>some (.ret,s)
 | .exit id=>some (.exit id,s)
 | .seq a b=>Q4 (ex b base) (ex a base s)
 | .cond x a b=>T1 (ex a base s) (ex b base s) (X9 E.aF s.tmps x)
 | .block id b=>M3 id (ex b base s)
 | .loop b=>Q4 (ex (.loop b) base) (ex b base s)
 | .u5 ops=>JN (rE E.aF hp (m6 eg E.fns ex) (kg E.fns ex) ops s.tmps s.H)
 | .draw ops=>JN (rE E.aF (fun _=>false) (m6 eg E.fns ex) (fun _ _ _=>none) ops s.tmps s.H)
 | .jG ops bf=>JN (g9 E.aF hp (m6 eg E.fns ex) (kg E.fns ex) bf ops 0 [] [] s.tmps s.H)
 | .kB ops k ps=>ZO ps (HQ E.aF (m6 eg E.fns ex) s.H.length ops s.tmps (s.H++List.replicate k .ew))
 | .gh pre r post=>ghP ex base r post (rF base pre s)
 | .AT g ps b6 body=>ZQ E ex ps b6 body s (X9 E.aF s.tmps g)
noncomputable def L8 (E:Env) (hp:Nat->Bool) (eg:List (Nat×List AV×AV)) (n:Nat):qF:=
 Nat.rec (motive:=fun _=>qF) (fun _ _ _=>none) (fun _ ih c base s=>T2 E hp eg ih c base s) n
theorem D1 (E:Env) (hp:Nat->Bool) (eg:List (Nat×List AV×AV)):∀ n,L8 E hp eg n=bG E hp eg n
 | 0=>by funext c base s;rfl
 | n+1=>by
  funext c base s
  show T2 E hp eg (L8 E hp eg n) c base s=_;rw [D1 E hp eg n]
  cases c with
  | bad=>rfl
  | skip=>rfl
  | ret=>rfl
  | exit i=>rfl
  | seq a b=>
   rw [bG];show Q4 _ _=_;rcases bG E hp eg n a base s with _ | ⟨e,s'⟩
   ·rfl
   ·cases e<;>rfl
  | cond x a b=>
   rw [bG];show T1 _ _ _=_;rw [Bx];rfl
  | block i b=>
   rw [bG];show M3 _ _=_;rcases bG E hp eg n b base s with _ | ⟨e,s'⟩
   ·rfl
   ·cases e<;>rfl
  | loop b=>
   rw [bG];show Q4 _ _=_;rcases bG E hp eg n b base s with _ | ⟨e,s'⟩
   ·rfl
   ·cases e<;>rfl
  | u5 ops=>
   rw [bG];show JN _=_;rw [mJ,wH];rcases aZ E.aF hp (Hw eg E.fns (bG E hp eg n)) (kg E.fns (bG E hp eg n)) ops s.tmps s.H with _ | ⟨t,H⟩<;>rfl
  | draw ops=>
   rw [bG];show JN _=_;rw [mJ,wH];rcases aZ E.aF (fun _=>false) (Hw eg E.fns (bG E hp eg n)) (fun _ _ _=>none) ops s.tmps s.H with _ | ⟨t,H⟩<;>rfl
  | jG ops bf=>
   rw [bG];show JN _=_;rw [wH];rcases g9 E.aF hp (Hw eg E.fns (bG E hp eg n)) (kg E.fns (bG E hp eg n)) bf ops 0 [] [] s.tmps s.H with _ | ⟨t,H⟩<;>rfl
  | kB ops k ps=>
   rw [bG];show ZO _ _=_;rw [DZ,wH];rcases hx:gD E.aF (Hw eg E.fns (bG E hp eg n)) s.H.length ops s.tmps (s.H++List.replicate k .ew) with _ | ⟨t,H,fs⟩<;>simp only [hx]<;>rfl
  | gh pre r post=>
   rw [bG];show ghP _ _ _ _ _=_;rw [qt]
   cases cF base pre s with
   | none=>rfl
   | some s0=>
    show ghN base post (bG E hp eg n r base s0)=_;rcases hx:bG E hp eg n r base s0 with _ | ⟨e,s'⟩
    ·simp only [hx];rfl
    ·simp only [hx]
     cases e<;>try rfl
     show ghK (rF base post s')=_;rw [qt];rfl
  | AT g ps b6 body=>
   rw [bG];show ZQ _ _ _ _ _ _ _=_;rw [Bx]
   cases ga E.aF s.tmps g<;>try rfl
   rename_i f cap;show ZP s _=_;dsimp only;rcases hx:kg E.fns (bG E hp eg n) (some f) (.fA s.H.length::cap) (s.H++[.lp .ready s.tmps.toL ps b6 body]) with _ | ⟨u,H'⟩<;>simp only [hx]<;>rfl
end Go.Am.As
