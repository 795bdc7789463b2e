/- The machine with known calls, in small pieces, which the kernel runs faster: it is the same machine. No condition. -/
import Derived.Test.YtafgdbaekppjcaaGreatDoorAmZk
set_option linter.unusedSectionVars false
set_option linter.unusedVariables false
set_option linter.unusedSimpArgs false
namespace Go.Am.As
set_option linter.unusedVariables false
set_option linter.unusedSimpArgs false
noncomputable def yU (n:Nat) (l:List (Nat×AV)):AV:=List.rec (motive:=fun _=>AV) .any (fun p _ ih=>cond (Nat.beq p.1 n) p.2 ih) l
theorem tG (n:Nat):∀ l,yU n l=T.eK l n
 | []=>rfl
 | (k,v)::r=>by
  show cond (Nat.beq k n) v (yU n r)=_;rw [tG n r,T.eK,T.Mj];by_cases h:k=n<;>simp [h]
noncomputable def QF (n:Nat) (x:AV) (l:List (Nat×AV)):List (Nat×AV):=
 List.rec (motive:=fun _=>List (Nat×AV)) [(n,x)] (fun p r ih=>cond (Nat.beq p.1 n) ((n,x)::r) (cond (Nat.ble p.1 n) (p::ih) ((n,x)::p::r))) l
theorem E4 (n:Nat) (x:AV):∀ l,QF n x l=T.qP l n x
 | []=>rfl
 | (k,v)::r=>by
  show cond (Nat.beq k n) ((n,x)::r) (cond (Nat.ble k n) ((k,v)::QF n x r) ((n,x)::(k,v)::r))=_;rw [E4 n x r,T.qP,T.Mj];by_cases h:k=n
  ·simp [h]
  ·by_cases h2:n < k
   ·have e:Nat.ble k n=false:=by cases hb:Nat.ble k n with
     | false=>rfl
     | true=>have:=Nat.le_of_ble_eq_true hb;omega
    simp [h,h2,e]
   ·have e:Nat.ble k n=true:=Nat.ble_eq_true_of_le (by omega);simp [h,h2,e]
noncomputable def xl (ds:List Nat):Nat:=List.rec (motive:=fun _=>Nat) 0 (fun d _ ih=>Nat.lor (Nat.shiftLeft 1 d) ih) ds
noncomputable def AH (m:Nat) (l:List (Nat×AV)):List (Nat×AV):=
 List.rec (motive:=fun _=>List (Nat×AV)) [] (fun p _ ih=>cond (Nat.beq (Nat.land (Nat.shiftRight m p.1) 1) 1) ih (p::ih)) l
theorem RU (m k:Nat):Nat.beq (Nat.land (Nat.shiftRight m k) 1) 1=m.testBit k:=by
 have e:Nat.land (Nat.shiftRight m k) 1=m / 2 ^ k % 2:=by
  show (m >>> k)&&& 1=_;rw [Nat.and_one_is_mod,Nat.shiftRight_eq_div_pow]
 rw [e,T.Mj,Nat.testBit_eq_decide_div_mod_eq]
theorem Bj (k:Nat):∀ ds:List Nat,(xl ds).testBit k=decide (k∈ds)
 | []=>by show Nat.testBit 0 k=_;simp
 | d::ds=>by
  show Nat.testBit (Nat.lor (Nat.shiftLeft 1 d) (xl ds)) k=_;have e:Nat.testBit (Nat.lor (Nat.shiftLeft 1 d) (xl ds)) k=(Nat.testBit (2 ^ d) k||Nat.testBit (xl ds) k):=by
   have:Nat.shiftLeft 1 d=2 ^ d:=Nat.one_shiftLeft d;rw [this];exact Nat.testBit_or ..
  rw [e,Bj k ds,Nat.testBit_two_pow];by_cases h:d=k
  ·simp [h]
  ·have h2:¬ k=d:=fun e=>h e.symm
   simp [h,h2]
theorem Bk (m:Nat):∀ l:List (Nat×AV),AH m l=l.filter fun p=> !m.testBit p.1
 | []=>rfl
 | p::r=>by
  show cond (Nat.beq (Nat.land (Nat.shiftRight m p.1) 1) 1) (AH m r) (p::AH m r)=_;rw [RU,Bk m r,List.filter_cons]
  cases m.testBit p.1<;>rfl
theorem sx (d:Nat):∀ l:List (Nat×AV),T.lT l d=l.filter fun p=> !decide (p.1=d)
 | []=>rfl
 | (k,v)::r=>by
  rw [T.lT,sx d r,List.filter_cons];by_cases h:k=d<;>simp [h]
theorem qA:∀ (ds:List Nat) (n:Nat) (l:List (Nat×AV)),T.fe ds ⟨n,l⟩=⟨n,l.filter fun p=> !decide (p.1∈ds)⟩
 | [],n,l=>by
  rw [T.fe];have:(l.filter fun p=> !decide (p.1∈([]:List Nat)))=l:=List.filter_eq_self.2 (fun p _=>by simp);rw [this]
 | d::ds,n,l=>by
  rw [T.fe,qA ds,sx,List.filter_filter];congr 1;apply List.filter_congr
  intro p _;by_cases h1:p.1=d<;>by_cases h2:p.1∈ds<;>simp [h1,h2]
noncomputable def H7 (ds:List Nat) (t:T):T:=⟨t.sz,AH (xl ds) t.l⟩
theorem Kt (ds:List Nat) (t:T):H7 ds t=T.fe ds t:=by
 cases t with
 | mk n l=>
  rw [qA];show (⟨n,AH (xl ds) l⟩:T)=_;rw [Bk];congr 1;apply List.filter_congr
  intro p _;rw [Bj]
noncomputable def Hp (n:Nat) (x:AV) (t:T):T:=cond (Nat.ble t.sz n) t ⟨t.sz,QF n x t.l⟩
theorem E5 (n:Nat) (x:AV) (t:T):Hp n x t=t.put n x:=by
 unfold Hp T.put;rw [E4];by_cases h:n < t.sz
 ·have e:Nat.ble t.sz n=false:=by cases hb:Nat.ble t.sz n with
   | false=>rfl
   | true=>have:=Nat.le_of_ble_eq_true hb;omega
  rw [if_pos h,e];rfl
 ·have e:Nat.ble t.sz n=true:=Nat.ble_eq_true_of_le (by omega);rw [if_neg h,e];rfl
noncomputable def Td (G:Nat->List AV) (t:T):RX->AV
 | .t n=>yU n t.l
 | .c v=>v
 | .g g=> .bV (G g)
theorem zc (G:Nat->List AV) (t:T):Td G t=fI G t:=by
 funext r
 cases r with
 | t n=>exact tG n t.l
 | _=>rfl
noncomputable def xm (t:T) (d:Option Nat) (v:AV):T:=match d with | some d=>Hp d v t | none=>t
theorem ve (t:T) (d:Option Nat) (v:AV):xm t d v=cP t d v:=by
 cases d with
 | none=>rfl
 | some d=>exact E5 d v t
def O2 (b:Bool):AV->Option Bool
 | .bool c=>some (c==b)
 | .bk []=>some false
 | _=>none
noncomputable def H8 (t:T):Option (Nat×Bool)->Option Bool
 | none=>some true
 | some p=>O2 p.2 (yU p.1 t.l)
theorem Bl (t:T) (g:Option (Nat×Bool)):H8 t g=c6 t g:=by
 cases g with
 | none=>rfl
 | some p=>
  show O2 p.2 (yU p.1 t.l)=_;rw [tG];rfl
def so (k:IntKind) (m:Nat):Int:=cond (Nat.blt m 128) (Int.ofNat m) (k.wrap (Int.ofNat m))
theorem Dy (k:IntKind) {m:Nat} (h:m < 128):k.wrap (Int.ofNat m)=Int.ofNat m:=by
 have:∀ m:Fin 128,k.wrap (Int.ofNat m.1)=Int.ofNat m.1:=by cases k<;>decide
 exact this ⟨m,h⟩
theorem qp (k:IntKind) (m:Nat):so k m=k.wrap (Int.ofNat m):=by
 unfold so
 cases h:Nat.blt m 128 with
 | false=>rfl
 | true=>exact (Dy k (Nat.le_of_ble_eq_true h)).symm
def O3 (k:IntKind):Int->Int
 | .ofNat m=>so k m
 | n=>k.wrap n
theorem Ku (k:IntKind) (n:Int):O3 k n=k.wrap n:=by
 cases n with
 | ofNat m=>exact qp k m
 | negSucc m=>rfl
def Uw (k:IntKind):Int->Int->Int
 | .ofNat a,.ofNat b=>so k (Nat.add a b)
 | x,y=>k.wrap (x+y)
def Ux (k:IntKind):Int->Int->Int
 | .ofNat a,.ofNat b=>so k (Nat.mul a b)
 | x,y=>k.wrap (x*y)
def Uy (k:IntKind):Int->Int->Int
 | .ofNat a,.ofNat b=>cond (Nat.ble b a) (so k (Nat.sub a b)) (k.wrap (Int.ofNat a - Int.ofNat b))
 | x,y=>k.wrap (x - y)
def XY:Int->Int->Bool
 | .ofNat a,.ofNat b=>Nat.blt a b
 | x,y=>decide (x < y)
def XZ:Int->Int->Bool
 | .ofNat a,.ofNat b=>Nat.ble a b
 | x,y=>decide (x<=y)
def X0:Int->Int->Bool
 | .ofNat a,.ofNat b=>Nat.beq a b
 | x,y=>x==y
theorem No (k:IntKind) (x y:Int):Uw k x y=k.wrap (x+y):=by
 cases x<;>cases y<;>first | rfl | exact qp k _
theorem Np (k:IntKind) (x y:Int):Ux k x y=k.wrap (x*y):=by
 cases x<;>cases y<;>first | rfl | exact qp k _
theorem Nq (k:IntKind) (x y:Int):Uy k x y=k.wrap (x - y):=by
 cases x with
 | negSucc a=>cases y<;>rfl
 | ofNat a=>
  cases y with
  | negSucc b=>rfl
  | ofNat b=>
   show cond (Nat.ble b a) (so k (Nat.sub a b)) (k.wrap (Int.ofNat a - Int.ofNat b))=_
   cases h:Nat.ble b a with
   | false=>rfl
   | true=>
    have:=Nat.le_of_ble_eq_true h;show so k (Nat.sub a b)=_;rw [qp];congr 1;show ((a - b:Nat):Int)=(a:Int) - (b:Int);omega
theorem RV (x y:Int):XY x y=decide (x < y):=by
 cases x with
 | negSucc a=>cases y<;>rfl
 | ofNat a=>
  cases y with
  | negSucc b=>rfl
  | ofNat b=>
   show Nat.blt a b=_;have e:Nat.blt a b=decide (a < b):=by
    cases h:Nat.blt a b with
    | true=>have h3:a < b:=Nat.le_of_ble_eq_true h;simp [h3]
    | false=>
     have:¬ a < b:=fun hc=>by
      have:=Nat.ble_eq_true_of_le hc;rw [Nat.blt] at h;rw [h] at this;cases this
     simp [this]
   rw [e];congr 1;exact propext ⟨fun h=>Int.ofNat_lt.2 h,fun h=>Int.ofNat_lt.1 h⟩
theorem RW (x y:Int):XZ x y=decide (x<=y):=by
 cases x with
 | negSucc a=>cases y<;>rfl
 | ofNat a=>
  cases y with
  | negSucc b=>rfl
  | ofNat b=>
   show Nat.ble a b=_;have e:Nat.ble a b=decide (a<=b):=by
    cases h:Nat.ble a b with
    | true=>simp [Nat.le_of_ble_eq_true h]
    | false=>
     have:¬ a<=b:=fun hc=>by
      have:=Nat.ble_eq_true_of_le hc;rw [h] at this;cases this
     simp [this]
   rw [e];congr 1;exact propext ⟨fun h=>Int.ofNat_le.2 h,fun h=>Int.ofNat_le.1 h⟩
theorem RY (x y:Int):X0 x y=(x==y):=by
 cases x with
 | negSucc a=>cases y<;>rfl
 | ofNat a=>
  cases y with
  | negSucc b=>rfl
  | ofNat b=>
   show Nat.beq a b=_;rw [T.Mj];by_cases h:a=b
   ·simp [h]
   ·have:((a:Int)==(b:Int))=false:=by simp;omega
    have e:(Int.ofNat a==Int.ofNat b)=false:=this;rw [e];simp [h]
def Ek (op:BinOp) (k:IntKind) (x y:Int):Option AV:=
 match op with
 | .add=>some (.int k (Uw k x y))
 | .sub=>some (.int k (Uy k x y))
 | .mul=>some (.int k (Ux k x y))
 | .eql=>some (.bool (X0 x y))
 | .neq=>some (.bool (!(X0 x y)))
 | .lss=>some (.bool (XY x y))
 | .leq=>some (.bool (XZ x y))
 | .gtr=>some (.bool (XY y x))
 | .geq=>some (.bool (XZ y x))
 | op=>yQ op k x y
theorem Kv (op:BinOp) (k:IntKind) (x y:Int):Ek op k x y=yQ op k x y:=by
 cases op<;>first | rfl | (simp only [Ek,yQ,No,Nq,Np,RY,RV,RW,bne,gt_iff_lt,ge_iff_le])
def aek (op:BinOp) (k k':IntKind) (a b:Int):Option AV:=match op with
 | .shl=>if b < 0 then none else some (.int k (k.wrap (a*2 ^ (min b.toNat k.bits))))
 | .shr=>if b < 0 then none else some (.int k (a.fdiv (2 ^ (min b.toNat k.bits))))
 | op=>if k=k' then Ek op k a b else none
def Hq (op:BinOp) (k:IntKind) (a:Int):AV->Option AV
 | .int k' b=>aek op k k' a b
 | _=>none
def ael (op:BinOp) (a:List UInt8):AV->Option AV
 | .str b=>FV op a b
 | _=>none
def Uz (op:BinOp) (x y:AV):Option AV:=match x with
 | .int k a=>Hq op k a y
 | .str a=>ael op a y
 | _=>none
theorem Nr (op:BinOp) (x y:AV):Uz op x y=bin op x y:=by
 cases x<;>try rfl
 case int k a=>
  cases y<;>try rfl
  case int k' b=>cases op<;>first | rfl | (show (if k=k' then Ek _ k a b else none)=_;rw [Kv];rfl)
 case str a=>cases y<;>rfl
def VP (c a b:AV):Option AV:=match c with | .bool true=>some a | .bool false=>some b | _=>none
def aem:Option (List AV)->Option AV
 | some cs=>some (.agg cs)
 | none=>none
def RZ (ev:RX->AV) (z:List AV) (parts:List (Nat×Nat×RX)):Option AV:=aem (mc z (parts.map fun (o,n,x)=>(o,n,ev x)))
def O4 (k:IntKind):AV->Option AV
 | .int _ n=>some (.int k (O3 k n))
 | _=>none
def aen (off n:Nat) (ag:Bool):AV->Option AV
 | .agg cs=>part n ag cs off
 | _=>none
def aeo:Option Int->Option AV
 | some n=>some (.int .i64 n)
 | none=>none
def pMn:List AV->Option AV
 | x::r=>iT min2 x r
 | []=>none
def pMx:List AV->Option AV
 | x::r=>iT max2 x r
 | []=>none
def aep (i:Nat):AV->Option AV
 | .bk vs=>vs[i]?
 | _=>none
def VQ:AV->Option AV
 | .bx=>some (.int .i64 0)
 | _=>none
def IX (ev:RX->AV):RO->Option AV
 | .DZ x=>some (ev x)
 | .pick c a b=>VP (ev c) (ev a) (ev b)
 | .build z parts=>RZ ev z parts
 | .bin op x y=>Uz op (ev x) (ev y)
 | .un op x=>un op (ev x)
 | .Aa neg ks x y=>Aa neg ks (ev x) (ev y)
 | .D0 neg x y=>D0 neg (ev x) (ev y)
 | .D1 neg x y=>D1 neg (ev x) (ev y)
 | .oh x=>oh (ev x)
 | .conv k x=>O4 k (ev x)
 | .Ol off n ag x=>aen off n ag (ev x)
 | .sX off x=>sX off (ev x)
 | .kN len sz x i=>kN len sz (ev x) (ev i)
 | .lW len n ag x i=>lW len n ag (ev x) (ev i)
 | .nN x i=>nN (ev x) (ev i)
 | .nO x lo hi=>nO (ev x) (lo.map ev) (hi.map ev)
 | .Lx f cap=>some (.fn f (cap.map ev))
 | .Om f l=>some (.bL f (l.map ev))
 | .len st x=>aeo (pB st (ev x))
 | .mn l=>pMn (l.map ev)
 | .mx l=>pMx (l.map ev)
 | .ext x i=>aep i (ev x)
 | .FA x=>FA (ev x)
 | .CP x=>VQ (ev x)
 | _=>none
theorem Ga (ev:RX->AV) (x:RO):IX ev x=cy ev x:=by
 cases x<;>try rfl
 case bin op x y=>exact Nr op (ev x) (ev y)
 case conv k x=>
  show O4 k (ev x)=(match ev x with | .int _ n=>some (.int k (k.wrap n)) | _=>none)
  cases ev x<;>try rfl
  exact congrArg (fun n=>some (AV.int k n)) (Ku k _)
def Hr (H:List Obj):Option AV->Option (AV×List Obj)
 | some v=>some (v,H)
 | none=>none
def UA:Option (List Obj)->Option (AV×List Obj)
 | some H'=>some (.bk [],H')
 | none=>none
def UB (pl:Nat) (cs:List AV) (H:List Obj):Option (AV×List Obj):=if aX cs=true then some (.ax pl 1 0 0,putObj H pl (.live .norm cs.length [cs])) else none
def aeq (ev:RX->AV) (H:List Obj) (pl sz:Nat) (z:List AV) (len:Nat) (parts:List (Nat×RX)):Option (AV×List Obj):=cW ev H pl (.sY sz z len parts)
def aer (ev:RX->AV) (H:List Obj) (pl sz:Nat) (z:List AV) (bytes:Nat) (l c:RX):Option (AV×List Obj):=cW ev H pl (.D2 sz z bytes l c)
def VR (ev:RX->AV) (H:List Obj) (pl:Nat) (z:List AV) (len:Nat) (parts:List (Nat×RX)):Option (AV×List Obj):=cW ev H pl (.yM z len parts)
def VS (ev:RX->AV) (H:List Obj) (pl sz:Nat) (z:List AV) (bytes:Nat) (s n:RX):Option (AV×List Obj):=cW ev H pl (.qL sz z bytes s n)
def aes (H:List Obj) (pl:Nat):AV->Option (AV×List Obj)
 | .str s=>some (.oZ pl,putObj H pl (.it s 0))
 | _=>none
def ze (ev:RX->AV) (H:List Obj) (pl:Nat):RO->Option (AV×List Obj)
 | .box x=>UB pl (ev x).cells H
 | .alloc z=>UB pl z H
 | .sY sz z len parts=>aeq ev H pl sz z len parts
 | .store n a x=>UA (storeAt H n (ev a) (ev x))
 | .D2 sz z bytes l c=>aer ev H pl sz z bytes l c
 | .app sz bytes s x=>append H pl sz bytes (ev s) (ev x)
 | .yM z len parts=>VR ev H pl z len parts
 | .qL sz z bytes s n=>VS ev H pl sz z bytes s n
 | .FB=>some (.mp pl,putObj H pl (.mp []))
 | .hY k m x v=>UA (hY H k (ev m) (ev x) (ev v))
 | .Cq x=>aes H pl (ev x)
 | .sK x=>sK H (ev x)
 | .ia k z ok m x=>Hr H (ia H k z ok (ev m) (ev x))
 | .iP m=>Hr H (iP H (ev m))
 | .z6 x=>Hr H (z6 H (ev x))
 | _=>none
theorem Gb (ev:RX->AV) (H:List Obj) (pl:Nat) (x:RO):ze ev H pl x=cW ev H pl x:=by cases x<;>rfl
def VT (hp:Nat->Bool) (cI:CI) (cH:CH) (l:List AV) (H:List Obj):AV->Option (AV×List Obj)
 | .fn f cap=>bI hp cI cH f (l++cap) H
 | .bL f l'=>bI hp cI cH f (l'++l) H
 | .eI i=>cH none (.eI i::l) H
 | _=>none
def VU (ev:RX->AV) (hp:Nat->Bool) (cI:CI) (cH:CH) (H:List Obj):RO->Option (AV×List Obj)
 | .call f args=>bI hp cI cH f (args.map ev) H
 | .fJ fx args=>VT hp cI cH (args.map ev) H (ev fx)
 | _=>none
def tH (ev:RX->AV) (hp:Nat->Bool) (cI:CI) (cH:CH) (pl:Nat) (x:RO) (H:List Obj):Option (AV×List Obj):=
 match x.kind with
 | .pure=>Hr H (IX ev x)
 | .read=>Hr H (dG ev H x)
 | .write=>ze ev H pl x
 | .call=>VU ev hp cI cH H x
theorem vN (ev:RX->AV) (hp:Nat->Bool) (cI:CI) (cH:CH) (pl:Nat) (x:RO) (H:List Obj):tH ev hp cI cH pl x H=bY ev hp cI cH pl x H:=by
 unfold tH bY
 cases x.kind with
 | pure=>dsimp only;rw [Ga];rfl
 | read=>rfl
 | write=>exact Gb ev H pl x
 | call=>dsimp only;cases x<;>rfl
def VV (ev:RX->AV) (cI:CI) (f:Nat) (args:List AV) (H:List Obj):Option (AV×List Obj):=
 if kV H args=true then bI (fun _=>false) cI (fun _ _ _=>none) f args H else none
def Dh (ev:RX->AV) (cI:CI) (pl:Nat) (x:RO) (H:List Obj):Option (AV×List Obj):=
 match x with
 | .qH f args=>mkObj cI f (args.map ev) pl H
 | .kO sz bytes a b=>eA (pl::refs (ev a)) (ze ev H pl (.app sz bytes a b))
 | .lQ sz z len parts=>eA [pl] (ze ev H pl (.sY sz z len parts))
 | .call f args=>VV ev cI f (args.map ev) H
 | x=>tH ev (fun _=>false) cI (fun _ _ _=>none) pl x H
theorem Gc (ev:RX->AV) (cI:CI) (pl:Nat) (x:RO) (H:List Obj):Dh ev cI pl x H=eZ ev cI pl x H:=by
 cases x<;>first | rfl | (simp only [Dh,eZ];exact vN ev (fun _=>false) cI (fun _ _ _=>none) pl _ H)
abbrev PJ:=Option (T×List Obj)
noncomputable def opK (k:T->List Obj->PJ) (t:T) (d:Option Nat):Option (AV×List Obj)->PJ
 | some p=>GQ p.1 fun v=>k (xm t d v) p.2
 | none=>none
noncomputable def X1 (G:Nat->List AV) (hp:Nat->Bool) (cI:CI) (cH:CH) (o:bD) (k:T->List Obj->PJ) (t:T) (H:List Obj):PJ:=
 match H8 t o.guard with
 | some true=>opK k t o.dst (tH (Td G t) hp cI cH H.length o.op H)
 | some false=>k (xm t o.dst (.bk [])) H
 | none=>none
noncomputable def pW (G:Nat->List AV) (hp:Nat->Bool) (cI:CI) (cH:CH) (os:List bD):T->List Obj->PJ:=
 List.rec (motive:=fun _=>T->List Obj->PJ) (fun t H=>some (t,H)) (fun o _ ih t H=>X1 G hp cI cH o ih t H) os
theorem k9 (G:Nat->List AV) (hp:Nat->Bool) (cI:CI) (cH:CH):∀ (os:List bD) (t:T) (H:List Obj),pW G hp cI cH os t H=aZ G hp cI cH os t H
 | [],t,H=>rfl
 | o::os,t,H=>by
  show X1 G hp cI cH o (pW G hp cI cH os) t H=_;unfold X1;rw [Bl,zc,vN,ve,aZ]
  cases c6 t o.guard with
  | none=>rfl
  | some b=>
   cases b with
   | false=>exact k9 G hp cI cH os _ _
   | true=>
    dsimp only
    cases bY (fI G t) hp cI cH H.length o.op H with
    | none=>rfl
    | some p=>
     show GQ p.1 (fun v=>pW G hp cI cH os (xm t o.dst v) p.2)=GQ p.1 fun v=>aZ G hp cI cH os (cP t o.dst v) p.2
     congr 1;funext v
     rw [ve];exact k9 G hp cI cH os _ _
noncomputable def El (G:Nat->List AV) (cI:CI) (pl:Nat) (o:bD) (t:T) (H:List Obj):Option (AV×List Obj×FP):=
 match H8 t o.guard with
 | some true=>if qO H pl o.op=true then
  (match Dh (Td G t) cI pl o.op H with
   | some (v,H')=>some (v,H',lF (Td G t) pl o.op)
   | none=>none) else none
 | some false=>some (.bk [],H,{})
 | none=>none
theorem Kw (G:Nat->List AV) (cI:CI) (pl:Nat) (o:bD) (t:T) (H:List Obj):El G cI pl o t H=mu G cI pl o t H:=by
 unfold El mu;rw [Bl,zc,Gc];rfl
abbrev PK:=Option (T×List Obj×List FP)
def O5 (f:FP):PK->PK
 | some r=>some (r.1,r.2.1,f::r.2.2)
 | none=>none
noncomputable def dK (k:T->List Obj->PK) (t:T) (d:Option Nat):Option (AV×List Obj×FP)->PK
 | some p=>GQ p.1 fun v=>O5 p.2.2 (k (xm t d v) p.2.1)
 | none=>none
noncomputable def Em (G:Nat->List AV) (cI:CI) (b:Nat) (os:List (Nat×bD)):T->List Obj->PK:=
 List.rec (motive:=fun _=>T->List Obj->PK) (fun t H=>some (t,H,[])) (fun o _ ih t H=>dK ih t o.2.dst (El G cI (b+o.1) o.2 t H)) os
theorem Bm (G:Nat->List AV) (cI:CI) (b:Nat):∀ (os:List (Nat×bD)) (t:T) (H:List Obj),Em G cI b os t H=fW G cI b os t H
 | [],t,H=>rfl
 | (j,o)::os,t,H=>by
  show dK (Em G cI b os) t o.dst (El G cI (b+j) o t H)=_;rw [Kw,fW]
  cases mu G cI (b+j) o t H with
  | none=>rfl
  | some p=>
   obtain ⟨v,H',f⟩:=p;show GQ v (fun v=>O5 f (Em G cI b os (xm t o.dst v) H'))=GQ v _;congr 1;funext v
   rw [ve,Bm G cI b os]
   cases fW G cI b os (cP t o.dst v) H' with
   | none=>rfl
   | some r=>rfl
noncomputable def Mk (ts:List Nat) (s:ST):ST:=
 List.rec (motive:=fun _=>ST->ST) (fun s=>s) (fun t _ ih s=>ih ⟨Hp t (yU t s.tmps.l).wk s.tmps,Lo s.H (yU t s.tmps.l)⟩) ts s
theorem E6:∀ (ts:List Nat) (s:ST),Mk ts s=tS ts s
 | [],s=>rfl
 | t::ts,s=>by
  show Mk ts ⟨Hp t (yU t s.tmps.l).wk s.tmps,Lo s.H (yU t s.tmps.l)⟩=_;rw [E6 ts,tS,E5,tG];rfl
noncomputable def Di (base:Nat) (s:ST) (g:GA):Option ST:=match g with
 | .wk l=>some (Mk l s)
 | .kill l=>some ⟨H7 l s.tmps,s.H⟩
 | g=>aG base s g
theorem Gd (base:Nat) (s:ST) (g:GA):Di base s g=aG base s g:=by
 cases g with
 | wk l=>show some (Mk l s)=some (tS l s);rw [E6]
 | kill l=>show some (⟨H7 l s.tmps,s.H⟩:ST)=some ⟨T.fe l s.tmps,s.H⟩;rw [Kt]
 | _=>rfl
noncomputable def gK (k:ST->Option ST):Option ST->Option ST
 | some s=>k s
 | none=>none
noncomputable def pX (base:Nat) (gs:List GA):ST->Option ST:=
 List.rec (motive:=fun _=>ST->Option ST) (fun s=>some s) (fun g _ ih s=>gK ih (Di base s g)) gs
theorem oT (base:Nat):∀ (gs:List GA) (s:ST),pX base gs s=cD base gs s
 | [],s=>rfl
 | g::gs,s=>by
  show gK (pX base gs) (Di base s g)=_;rw [Gd,cD]
  cases aG base s g with
  | none=>rfl
  | some s'=>exact oT base gs s'
noncomputable def En (dO:List (Nat×List AV×AV)) (f:Nat) (xs:List AV):Option AV:=
 List.rec (motive:=fun _=>Option AV) none (fun e _ ih=>cond (Nat.beq e.1 f) (cond (AV.gW e.2.1 xs) (some e.2.2) ih) ih) dO
theorem Bn (f:Nat) (xs:List AV):∀ dO,En dO f xs=look dO f xs
 | []=>rfl
 | (g,ys,r)::l=>by
  show cond (Nat.beq g f) (cond (AV.gW ys xs) (some r) (En l f xs)) (En l f xs)=_;rw [Bn f xs l,look]
  cases Nat.beq g f<;>cases AV.gW ys xs<;>rfl
def XB (x:Option AV) (y:Option AV):Option AV:=match x with
 | some r=>some r
 | none=>y
noncomputable def lO (dO:List (Nat×List AV×AV)) (fns:Nat->Option RF) (ex:o7):CI:=fun f args=>XB (En dO f args) (jw fns ex f args)
theorem uw (dO:List (Nat×List AV×AV)) (fns:Nat->Option RF) (ex:o7):lO dO fns ex=D5 dO fns ex:=by
 funext f args
 unfold lO D5;rw [Bn]
 cases look dO f args<;>rfl
abbrev OE:=Option (Ex×ST)
def Ml (k:ST->OE) (r:OE):OE:=match r with
 | some (.normal,s')=>k s'
 | r=>r
def O6 (a b:OE):AV->OE
 | .bool true=>a
 | .bool false=>b
 | _=>none
def IY (id:Nat) (r:OE):OE:=match r with
 | some (.exit i,s')=>if i=id then some (.normal,s') else some (.exit i,s')
 | r=>r
def FW:PJ->OE
 | some p=>some (.normal,⟨p.1,p.2⟩)
 | none=>none
def UC (ps:List (Nat×Nat)):PK->OE
 | some p=>if fN p.2.2 ps=true then some (.normal,⟨p.1,p.2.1⟩) else none
 | none=>none
def ghK (r:Option ST):OE:=match r with
 | some s''=>some (.normal,s'')
 | none=>none
noncomputable def ghN (base:Nat) (post:List GA) (r:OE):OE:=match r with
 | some (.normal,s')=>ghK (pX base post s')
 | r=>r
noncomputable def ghP (ex:o7) (base:Nat) (r:RC) (post:List GA):Option ST->OE
 | some s0=>ghN base post (ex r base s0)
 | none=>none
def UD (s:ST):Option (AV×List Obj)->OE
 | some p=>(match ke p.2 s.H.length with
  | some e=>some (e,⟨s.tmps,p.2.set s.H.length .dead⟩)
  | none=>none)
 | none=>none
noncomputable def UE (E:Env) (ex:o7) (ps:List Nat) (b9 body:RC) (s:ST):AV->OE
 | .fn f cap=>UD s (jE E.fns ex (some f) (.eI s.H.length::cap) (s.H++[.lp .ready s.tmps.toL ps b9 body]))
 | _=>none
noncomputable def O7 (E:Env) (hp:Nat->Bool) (dO:List (Nat×List AV×AV)) (ex:o7) (c:RC) (base:Nat) (s:ST):OE:=
 match c with
 | .bad=>none
 | .skip=>some (.normal,s)
 | .ret=>some (.ret,s)
 | .exit id=>some (.exit id,s)
 | .seq a b=>Ml (ex b base) (ex a base s)
 | .cond x a b=>O6 (ex a base s) (ex b base s) (Td E.aI s.tmps x)
 | .block id b=>IY id (ex b base s)
 | .loop b=>Ml (ex (.loop b) base) (ex b base s)
 | .sZ ops=>FW (pW E.aI hp (lO dO E.fns ex) (jE E.fns ex) ops s.tmps s.H)
 | .draw ops=>FW (pW E.aI (fun _=>false) (lO dO E.fns ex) (fun _ _ _=>none) ops s.tmps s.H)
 | .iY ops bf=>FW (gC E.aI hp (lO dO E.fns ex) (jE E.fns ex) bf ops 0 [] [] s.tmps s.H)
 | .jI ops k ps=>UC ps (Em E.aI (lO dO E.fns ex) s.H.length ops s.tmps (s.H++List.replicate k .gB))
 | .gh pre r post=>ghP ex base r post (pX base pre s)
 | .yB g ps b9 body=>UE E ex ps b9 body s (Td E.aI s.tmps g)
noncomputable def H9 (E:Env) (hp:Nat->Bool) (dO:List (Nat×List AV×AV)) (n:Nat):o7:=
 Nat.rec (motive:=fun _=>o7) (fun _ _ _=>none) (fun _ ih c base s=>O7 E hp dO ih c base s) n
theorem Bo (E:Env) (hp:Nat->Bool) (dO:List (Nat×List AV×AV)):∀ n,H9 E hp dO n=bC E hp dO n
 | 0=>by funext c base s;rfl
 | n+1=>by
  funext c base s
  show O7 E hp dO (H9 E hp dO n) c base s=_;rw [Bo E hp dO n]
  cases c with
  | bad=>rfl
  | skip=>rfl
  | ret=>rfl
  | exit i=>rfl
  | seq a b=>
   rw [bC];show Ml _ _=_;rcases bC E hp dO n a base s with _ | ⟨e,s'⟩
   ·rfl
   ·cases e<;>rfl
  | cond x a b=>
   rw [bC];show O6 _ _ _=_;rw [zc];rfl
  | block i b=>
   rw [bC];show IY _ _=_;rcases bC E hp dO n b base s with _ | ⟨e,s'⟩
   ·rfl
   ·cases e<;>rfl
  | loop b=>
   rw [bC];show Ml _ _=_;rcases bC E hp dO n b base s with _ | ⟨e,s'⟩
   ·rfl
   ·cases e<;>rfl
  | sZ ops=>
   rw [bC];show FW _=_;rw [k9,uw];rcases aZ E.aI hp (D5 dO E.fns (bC E hp dO n)) (jE E.fns (bC E hp dO n)) ops s.tmps s.H with _ | ⟨t,H⟩<;>rfl
  | draw ops=>
   rw [bC];show FW _=_;rw [k9,uw];rcases aZ E.aI (fun _=>false) (D5 dO E.fns (bC E hp dO n)) (fun _ _ _=>none) ops s.tmps s.H with _ | ⟨t,H⟩<;>rfl
  | iY ops bf=>
   rw [bC];show FW _=_;rw [uw];rcases gC E.aI hp (D5 dO E.fns (bC E hp dO n)) (jE E.fns (bC E hp dO n)) bf ops 0 [] [] s.tmps s.H with _ | ⟨t,H⟩<;>rfl
  | jI ops k ps=>
   rw [bC];show UC _ _=_;rw [Bm,uw];rcases hx:fW E.aI (D5 dO E.fns (bC E hp dO n)) s.H.length ops s.tmps (s.H++List.replicate k .gB) with _ | ⟨t,H,fs⟩<;>simp only [hx]<;>rfl
  | gh pre r post=>
   rw [bC];show ghP _ _ _ _ _=_;rw [oT]
   cases cD base pre s with
   | none=>rfl
   | some s0=>
    show ghN base post (bC E hp dO n r base s0)=_;rcases hx:bC E hp dO n r base s0 with _ | ⟨e,s'⟩
    ·simp only [hx];rfl
    ·simp only [hx]
     cases e<;>try rfl
     show ghK (pX base post s')=_;rw [oT];rfl
  | yB g ps b9 body=>
   rw [bC];show UE _ _ _ _ _ _ _=_;rw [zc]
   cases fI E.aI s.tmps g<;>try rfl
   rename_i f cap;show UD s _=_;dsimp only;rcases hx:jE E.fns (bC E hp dO n) (some f) (.eI s.H.length::cap) (s.H++[.lp .ready s.tmps.toL ps b9 body]) with _ | ⟨u,H'⟩<;>simp only [hx]<;>rfl
end Go.Am.As
