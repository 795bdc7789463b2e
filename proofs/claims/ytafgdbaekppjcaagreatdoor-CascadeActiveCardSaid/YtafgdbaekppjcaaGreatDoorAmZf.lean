/- The machine with known calls, in small pieces, which the kernel runs faster: it is the same machine. No condition. -/
import Derived.Test.YtafgdbaekppjcaaGreatDoorAmZk
set_option linter.unusedSectionVars false
set_option linter.unusedVariables false
set_option linter.unusedSimpArgs false
namespace Go.Am.As
noncomputable def AQ (n:Nat) (l:List (Nat×AV)):AV:=List.rec (motive:=fun _=>AV) .any (fun p _ ih=>cond (Nat.beq p.1 n) p.2 ih) l
theorem vr (n:Nat):∀ l,AQ n l=T.fj l n
 | []=>rfl
 | (k,v)::r=>by
  show cond (Nat.beq k n) v (AQ n r)=_;rw [vr n r,T.fj,T.OR];by_cases h:k=n<;>simp [h]
noncomputable def TD (n:Nat) (x:AV) (l:List (Nat×AV)):List (Nat×AV):=
 List.rec (motive:=fun _=>List (Nat×AV)) [(n,x)] (fun p r ih=>cond (Nat.beq p.1 n) ((n,x)::r) (cond (Nat.ble p.1 n) (p::ih) ((n,x)::p::r))) l
theorem Hj (n:Nat) (x:AV):∀ l,TD n x l=T.sC l n x
 | []=>rfl
 | (k,v)::r=>by
  show cond (Nat.beq k n) ((n,x)::r) (cond (Nat.ble k n) ((k,v)::TD n x r) ((n,x)::(k,v)::r))=_;rw [Hj n x r,T.sC,T.OR];by_cases h:k=n
  ·simp [h]
  ·by_cases h2:n < k
   ·have e:Nat.ble k n=false:=by cases hb:Nat.ble k n with
     | false=>rfl
     | true=>have:=zau hb;omega
    simp [h,h2,e]
   ·have e:Nat.ble k n=true:=Nat.ble_eq_true_of_le (by omega);simp [h,h2,e]
noncomputable def zq (ds:List Nat):Nat:=List.rec (motive:=fun _=>Nat) 0 (fun d _ ih=>Nat.lor (Nat.shiftLeft 1 d) ih) ds
noncomputable def Cu (m:Nat) (l:List (Nat×AV)):List (Nat×AV):=
 List.rec (motive:=fun _=>List (Nat×AV)) [] (fun p _ ih=>cond (Nat.beq (Nat.land (Nat.shiftRight m p.1) 1) 1) ih (p::ih)) l
theorem U2 (m k:Nat):Nat.beq (Nat.land (Nat.shiftRight m k) 1) 1=m.testBit k:=by
 have e:Nat.land (Nat.shiftRight m k) 1=m / 2 ^ k % 2:=by
  show (m >>> k)&&& 1=_;rw [Nat.and_one_is_mod,Nat.shiftRight_eq_div_pow]
 rw [e,T.OR,Nat.testBit_eq_decide_div_mod_eq]
theorem nN (k:Nat):∀ ds:List Nat,(zq ds).testBit k=decide (k∈ds)
 | []=>by show Nat.testBit 0 k=_;simp
 | d::ds=>by
  show Nat.testBit (Nat.lor (Nat.shiftLeft 1 d) (zq ds)) k=_;have e:Nat.testBit (Nat.lor (Nat.shiftLeft 1 d) (zq ds)) k=(Nat.testBit (2 ^ d) k||Nat.testBit (zq ds) k):=by
   have:Nat.shiftLeft 1 d=2 ^ d:=Nat.one_shiftLeft d;rw [this];exact Nat.testBit_or ..
  rw [e,nN k ds,Nat.testBit_two_pow];by_cases h:d=k
  ·simp [h]
  ·have h2:¬ k=d:=fun e=>h e.symm
   simp [h,h2]
theorem Dd (m:Nat):∀ l:List (Nat×AV),Cu m l=l.filter fun p=> !m.testBit p.1
 | []=>rfl
 | p::r=>by
  show cond (Nat.beq (Nat.land (Nat.shiftRight m p.1) 1) 1) (Cu m r) (p::Cu m r)=_;rw [U2,Dd m r,List.filter_cons]
  cases m.testBit p.1<;>rfl
theorem uq (d:Nat):∀ l:List (Nat×AV),T.m6 l d=l.filter fun p=> !decide (p.1=d)
 | []=>rfl
 | (k,v)::r=>by
  rw [T.m6,uq d r,List.filter_cons];by_cases h:k=d<;>simp [h]
theorem r5:∀ (ds:List Nat) (n:Nat) (l:List (Nat×AV)),T.fO ds ⟨n,l⟩=⟨n,l.filter fun p=> !decide (p.1∈ds)⟩
 | [],n,l=>by
  rw [T.fO];have:(l.filter fun p=> !decide (p.1∈([]:List Nat)))=l:=List.filter_eq_self.2 (fun p _=>by simp);rw [this]
 | d::ds,n,l=>by
  rw [T.fO,r5 ds,uq,List.filter_filter];congr 1;apply List.filter_congr
  intro p _;by_cases h1:p.1=d<;>by_cases h2:p.1∈ds<;>simp [h1,h2]
noncomputable def Kx (ds:List Nat) (t:T):T:=⟨t.sz,Cu (zq ds) t.l⟩
theorem MV (ds:List Nat) (t:T):Kx ds t=T.fO ds t:=by
 cases t with
 | mk n l=>
  rw [r5];show (⟨n,Cu (zq ds) l⟩:T)=_;rw [Dd];congr 1;apply List.filter_congr
  intro p _;rw [nN]
noncomputable def JV (n:Nat) (x:AV) (t:T):T:=cond (Nat.ble t.sz n) t ⟨t.sz,TD n x t.l⟩
theorem Hl (n:Nat) (x:AV) (t:T):JV n x t=t.put n x:=by
 unfold JV T.put;rw [Hj];by_cases h:n < t.sz
 ·have e:Nat.ble t.sz n=false:=by cases hb:Nat.ble t.sz n with
   | false=>rfl
   | true=>have:=zau hb;omega
  rw [if_pos h,e];rfl
 ·have e:Nat.ble t.sz n=true:=Nat.ble_eq_true_of_le (by omega);rw [if_neg h,e];rfl
noncomputable def Wd (G:Nat->List AV) (t:T):RX->AV
 | .t n=>AQ n t.l
 | .c v=>v
 | .g g=> .bZ (G g)
theorem A6 (G:Nat->List AV) (t:T):Wd G t=gq G t:=by
 funext r
 cases r with
 | t n=>exact vr n t.l
 | _=>rfl
noncomputable def zu (t:T) (d:Option Nat) (v:AV):T:=match d with | some d=>JV d v t | none=>t
theorem xy (t:T) (d:Option Nat) (v:AV):zu t d v=cZ t d v:=by
 cases d with
 | none=>rfl
 | some d=>exact Hl d v t
def RT (b:Bool):AV->Option Bool
 | .bool c=>some (c==b)
 | .bl []=>some false
 | _=>none
noncomputable def Ky (t:T):Option (Nat×Bool)->Option Bool
 | none=>some true
 | some p=>RT p.2 (AQ p.1 t.l)
theorem De (t:T) (g:Option (Nat×Bool)):Ky t g=dn t g:=by
 cases g with
 | none=>rfl
 | some p=>
  show RT p.2 (AQ p.1 t.l)=_;rw [vr];rfl
def uj (k:IntKind) (m:Nat):Int:=cond (Nat.blt m 128) (Int.ofNat m) (k.wrap (Int.ofNat m))
theorem FD (k:IntKind) {m:Nat} (h:m < 128):k.wrap (Int.ofNat m)=Int.ofNat m:=by
 have:∀ m:Fin 128,k.wrap (Int.ofNat m.1)=Int.ofNat m.1:=by cases k<;>decide
 exact this ⟨m,h⟩
theorem rQ (k:IntKind) (m:Nat):uj k m=k.wrap (Int.ofNat m):=by
 unfold uj
 cases h:Nat.blt m 128 with
 | false=>rfl
 | true=>exact (FD k (zau h)).symm
def RU (k:IntKind):Int->Int
 | .ofNat m=>uj k m
 | n=>k.wrap n
theorem MW (k:IntKind) (n:Int):RU k n=k.wrap n:=by
 cases n with
 | ofNat m=>exact rQ k m
 | negSucc m=>rfl
def XJ (k:IntKind):Int->Int->Int
 | .ofNat a,.ofNat b=>uj k (Nat.add a b)
 | x,y=>k.wrap (x+y)
def XK (k:IntKind):Int->Int->Int
 | .ofNat a,.ofNat b=>uj k (Nat.mul a b)
 | x,y=>k.wrap (x*y)
def XL (k:IntKind):Int->Int->Int
 | .ofNat a,.ofNat b=>cond (Nat.ble b a) (uj k (Nat.sub a b)) (k.wrap (Int.ofNat a - Int.ofNat b))
 | x,y=>k.wrap (x - y)
def ltF:Int->Int->Bool
 | .ofNat a,.ofNat b=>Nat.blt a b
 | x,y=>decide (x < y)
def leF:Int->Int->Bool
 | .ofNat a,.ofNat b=>Nat.ble a b
 | x,y=>decide (x<=y)
def eqF:Int->Int->Bool
 | .ofNat a,.ofNat b=>Nat.beq a b
 | x,y=>x==y
theorem Qh (k:IntKind) (x y:Int):XJ k x y=k.wrap (x+y):=by
 cases x<;>cases y<;>first | rfl | exact rQ k _
theorem Qi (k:IntKind) (x y:Int):XK k x y=k.wrap (x*y):=by
 cases x<;>cases y<;>first | rfl | exact rQ k _
theorem Qj (k:IntKind) (x y:Int):XL k x y=k.wrap (x - y):=by
 cases x with
 | negSucc a=>cases y<;>rfl
 | ofNat a=>
  cases y with
  | negSucc b=>rfl
  | ofNat b=>
   show cond (Nat.ble b a) (uj k (Nat.sub a b)) (k.wrap (Int.ofNat a - Int.ofNat b))=_
   cases h:Nat.ble b a with
   | false=>rfl
   | true=>
    have:=zau h;show uj k (Nat.sub a b)=_;rw [rQ];congr 1;show ((a - b:Nat):Int)=(a:Int) - (b:Int);omega
theorem U3 (x y:Int):ltF x y=decide (x < y):=by
 cases x with
 | negSucc a=>cases y<;>rfl
 | ofNat a=>
  cases y with
  | negSucc b=>rfl
  | ofNat b=>
   show Nat.blt a b=_;have e:Nat.blt a b=decide (a < b):=by
    cases h:Nat.blt a b with
    | true=>have h3:a < b:=zau h;simp [h3]
    | false=>
     have:¬ a < b:=fun hc=>by
      have:=Nat.ble_eq_true_of_le hc;rw [Nat.blt] at h;rw [h] at this;cases this
     simp [this]
   rw [e];congr 1;exact propext ⟨fun h=>Int.ofNat_lt.2 h,fun h=>Int.ofNat_lt.1 h⟩
theorem U4 (x y:Int):leF x y=decide (x<=y):=by
 cases x with
 | negSucc a=>cases y<;>rfl
 | ofNat a=>
  cases y with
  | negSucc b=>rfl
  | ofNat b=>
   show Nat.ble a b=_;have e:Nat.ble a b=decide (a<=b):=by
    cases h:Nat.ble a b with
    | true=>simp [zau h]
    | false=>
     have:¬ a<=b:=fun hc=>by
      have:=Nat.ble_eq_true_of_le hc;rw [h] at this;cases this
     simp [this]
   rw [e];congr 1;exact propext ⟨fun h=>Int.ofNat_le.2 h,fun h=>Int.ofNat_le.1 h⟩
theorem U5 (x y:Int):eqF x y=(x==y):=by
 cases x with
 | negSucc a=>cases y<;>rfl
 | ofNat a=>
  cases y with
  | negSucc b=>rfl
  | ofNat b=>
   show Nat.beq a b=_;rw [T.OR];by_cases h:a=b
   ·simp [h]
   ·have:((a:Int)==(b:Int))=false:=by simp;omega
    have e:(Int.ofNat a==Int.ofNat b)=false:=this;rw [e];simp [h]
def Gw (op:BinOp) (k:IntKind) (x y:Int):Option AV:=
 match op with
 | .add=>some (.int k (XJ k x y))
 | .sub=>some (.int k (XL k x y))
 | .mul=>some (.int k (XK k x y))
 | .eql=>some (.bool (eqF x y))
 | .neq=>some (.bool (!(eqF x y)))
 | .lss=>some (.bool (ltF x y))
 | .leq=>some (.bool (leF x y))
 | .gtr=>some (.bool (ltF y x))
 | .geq=>some (.bool (leF y x))
 | op=>AM op k x y
theorem MX (op:BinOp) (k:IntKind) (x y:Int):Gw op k x y=AM op k x y:=by
 cases op<;>first | rfl | (simp only [Gw,AM,Qh,Qj,Qi,U5,U3,U4,bne,gt_iff_lt,ge_iff_le])
def adp (op:BinOp) (k k':IntKind) (a b:Int):Option AV:=match op with
 | .shl=>if b < 0 then none else some (.int k (k.wrap (a*2 ^ (min b.toNat k.bits))))
 | .shr=>if b < 0 then none else some (.int k (a.fdiv (2 ^ (min b.toNat k.bits))))
 | op=>if k=k' then Gw op k a b else none
def JW (op:BinOp) (k:IntKind) (a:Int):AV->Option AV
 | .int k' b=>adp op k k' a b
 | _=>none
def adq (op:BinOp) (a:List UInt8):AV->Option AV
 | .str b=>Ip op a b
 | _=>none
def XM (op:BinOp) (x y:AV):Option AV:=match x with
 | .int k a=>JW op k a y
 | .str a=>adq op a y
 | _=>none
theorem Qk (op:BinOp) (x y:AV):XM op x y=bin op x y:=by
 cases x<;>try rfl
 case int k a=>
  cases y<;>try rfl
  case int k' b=>cases op<;>first | rfl | (show (if k=k' then Gw _ k a b else none)=_;rw [MX];rfl)
 case str a=>cases y<;>rfl
def Zg (c a b:AV):Option AV:=match c with | .bool true=>some a | .bool false=>some b | _=>none
def adr:Option (List AV)->Option AV
 | some cs=>some (.agg cs)
 | none=>none
def U6 (ev:RX->AV) (z:List AV) (parts:List (Nat×Nat×RX)):Option AV:=adr (nv z (parts.map fun (o,n,x)=>(o,n,ev x)))
def RV (k:IntKind):AV->Option AV
 | .int _ n=>some (.int k (RU k n))
 | _=>none
def ads (off n:Nat) (ag:Bool):AV->Option AV
 | .agg cs=>part n ag cs off
 | _=>none
def adt:Option Int->Option AV
 | some n=>some (.int .i64 n)
 | none=>none
def pMn:List AV->Option AV
 | x::r=>jB min2 x r
 | []=>none
def pMx:List AV->Option AV
 | x::r=>jB max2 x r
 | []=>none
def adu (i:Nat):AV->Option AV
 | .bl vs=>vs[i]?
 | _=>none
def Zh:AV->Option AV
 | .bD=>some (.int .i64 0)
 | _=>none
def Lt (ev:RX->AV):RO->Option AV
 | .F6 x=>some (ev x)
 | .pick c a b=>Zg (ev c) (ev a) (ev b)
 | .build z parts=>U6 ev z parts
 | .bin op x y=>XM op (ev x) (ev y)
 | .un op x=>un op (ev x)
 | .BZ neg ks x y=>BZ neg ks (ev x) (ev y)
 | .F7 neg x y=>F7 neg (ev x) (ev y)
 | .F8 neg x y=>F8 neg (ev x) (ev y)
 | .pF x=>pF (ev x)
 | .conv k x=>RV k (ev x)
 | .Rg off n ag x=>ads off n ag (ev x)
 | .u0 off x=>u0 off (ev x)
 | .mc len sz x i=>mc len sz (ev x) (ev i)
 | .nj len n ag x i=>nj len n ag (ev x) (ev i)
 | .oU x i=>oU (ev x) (ev i)
 | .oV x lo hi=>oV (ev x) (lo.map ev) (hi.map ev)
 | .N2 f cap=>some (.fn f (cap.map ev))
 | .Rh f l=>some (.b8 f (l.map ev))
 | .len st x=>adt (qI st (ev x))
 | .mn l=>pMn (l.map ev)
 | .mx l=>pMx (l.map ev)
 | .ext x i=>adu i (ev x)
 | .HV x=>HV (ev x)
 | .EJ x=>Zh (ev x)
 | _=>none
theorem IN (ev:RX->AV) (x:RO):Lt ev x=cG ev x:=by
 cases x<;>try rfl
 case bin op x y=>exact Qk op (ev x) (ev y)
 case conv k x=>
  show RV k (ev x)=(match ev x with | .int _ n=>some (.int k (k.wrap n)) | _=>none)
  cases ev x<;>try rfl
  exact congrArg (fun n=>some (AV.int k n)) (MW k _)
def JX (H:List Obj):Option AV->Option (AV×List Obj)
 | some v=>some (v,H)
 | none=>none
def XN:Option (List Obj)->Option (AV×List Obj)
 | some H'=>some (.bl [],H')
 | none=>none
def XO (pl:Nat) (cs:List AV) (H:List Obj):Option (AV×List Obj):=if aV cs=true then some (.aA pl 1 0 0,putObj H pl (.live .norm cs.length [cs])) else none
def adv (ev:RX->AV) (H:List Obj) (pl sz:Nat) (z:List AV) (len:Nat) (parts:List (Nat×RX)):Option (AV×List Obj):=dg ev H pl (.u5 sz z len parts)
def adw (ev:RX->AV) (H:List Obj) (pl sz:Nat) (z:List AV) (bytes:Nat) (l c:RX):Option (AV×List Obj):=dg ev H pl (.F9 sz z bytes l c)
def Zi (ev:RX->AV) (H:List Obj) (pl:Nat) (z:List AV) (len:Nat) (parts:List (Nat×RX)):Option (AV×List Obj):=dg ev H pl (.AH z len parts)
def Zj (ev:RX->AV) (H:List Obj) (pl sz:Nat) (z:List AV) (bytes:Nat) (s n:RX):Option (AV×List Obj):=dg ev H pl (.sx sz z bytes s n)
def adx (H:List Obj) (pl:Nat):AV->Option (AV×List Obj)
 | .str s=>some (.qy pl,putObj H pl (.it s 0))
 | _=>none
def A7 (ev:RX->AV) (H:List Obj) (pl:Nat):RO->Option (AV×List Obj)
 | .box x=>XO pl (ev x).cells H
 | .alloc z=>XO pl z H
 | .u5 sz z len parts=>adv ev H pl sz z len parts
 | .store n a x=>XN (storeAt H n (ev a) (ev x))
 | .F9 sz z bytes l c=>adw ev H pl sz z bytes l c
 | .app sz bytes s x=>append H pl sz bytes (ev s) (ev x)
 | .AH z len parts=>Zi ev H pl z len parts
 | .sx sz z bytes s n=>Zj ev H pl sz z bytes s n
 | .HW=>some (.mp pl,putObj H pl (.mp []))
 | .iU k m x v=>XN (iU H k (ev m) (ev x) (ev v))
 | .Ek x=>adx H pl (ev x)
 | .uH x=>uH H (ev x)
 | .iV k z ok m x=>JX H (iV H k z ok (ev m) (ev x))
 | .jx m=>JX H (jx H (ev m))
 | .BS x=>JX H (BS H (ev x))
 | _=>none
theorem IP (ev:RX->AV) (H:List Obj) (pl:Nat) (x:RO):A7 ev H pl x=dg ev H pl x:=by cases x<;>rfl
def Zk (hp:Nat->Bool) (cI:CI) (cH:CH) (l:List AV) (H:List Obj):AV->Option (AV×List Obj)
 | .fn f cap=>bK hp cI cH f (l++cap) H
 | .b8 f l'=>bK hp cI cH f (l'++l) H
 | .fI i=>cH none (.fI i::l) H
 | _=>none
def Zl (ev:RX->AV) (hp:Nat->Bool) (cI:CI) (cH:CH) (H:List Obj):RO->Option (AV×List Obj)
 | .call f args=>bK hp cI cH f (args.map ev) H
 | .gr fx args=>Zk hp cI cH (args.map ev) H (ev fx)
 | _=>none
def vt (ev:RX->AV) (hp:Nat->Bool) (cI:CI) (cH:CH) (pl:Nat) (x:RO) (H:List Obj):Option (AV×List Obj):=
 match x.kind with
 | .pure=>JX H (Lt ev x)
 | .read=>JX H (en ev H x)
 | .write=>A7 ev H pl x
 | .call=>Zl ev hp cI cH H x
theorem x9 (ev:RX->AV) (hp:Nat->Bool) (cI:CI) (cH:CH) (pl:Nat) (x:RO) (H:List Obj):vt ev hp cI cH pl x H=bV ev hp cI cH pl x H:=by
 unfold vt bV
 cases x.kind with
 | pure=>dsimp only;rw [IN];rfl
 | read=>rfl
 | write=>exact IP ev H pl x
 | call=>dsimp only;cases x<;>rfl
def Zm (ev:RX->AV) (cI:CI) (f:Nat) (args:List AV) (H:List Obj):Option (AV×List Obj):=
 if mu H args=true then bK (fun _=>false) cI (fun _ _ _=>none) f args H else none
def Ff (ev:RX->AV) (cI:CI) (pl:Nat) (x:RO) (H:List Obj):Option (AV×List Obj):=
 match x with
 | .sj f args=>mkObj cI f (args.map ev) pl H
 | .md sz bytes a b=>eU (pl::refs (ev a)) (A7 ev H pl (.app sz bytes a b))
 | .mY sz z len parts=>eU [pl] (A7 ev H pl (.u5 sz z len parts))
 | .call f args=>Zm ev cI f (args.map ev) H
 | x=>vt ev (fun _=>false) cI (fun _ _ _=>none) pl x H
theorem IQ (ev:RX->AV) (cI:CI) (pl:Nat) (x:RO) (H:List Obj):Ff ev cI pl x H=fM ev cI pl x H:=by
 cases x<;>first | rfl | (simp only [Ff,fM];exact x9 ev (fun _=>false) cI (fun _ _ _=>none) pl _ H)
abbrev SC:=Option (T×List Obj)
noncomputable def opK (k:T->List Obj->SC) (t:T) (d:Option Nat):Option (AV×List Obj)->SC
 | some p=>Jt p.1 fun v=>k (zu t d v) p.2
 | none=>none
noncomputable def opF (G:Nat->List AV) (hp:Nat->Bool) (cI:CI) (cH:CH) (o:bH) (k:T->List Obj->SC) (t:T) (H:List Obj):SC:=
 match Ky t o.guard with
 | some true=>opK k t o.dst (vt (Wd G t) hp cI cH H.length o.op H)
 | some false=>k (zu t o.dst (.bl [])) H
 | none=>none
noncomputable def rq (G:Nat->List AV) (hp:Nat->Bool) (cI:CI) (cH:CH) (os:List bH):T->List Obj->SC:=
 List.rec (motive:=fun _=>T->List Obj->SC) (fun t H=>some (t,H)) (fun o _ ih t H=>opF G hp cI cH o ih t H) os
theorem mD (G:Nat->List AV) (hp:Nat->Bool) (cI:CI) (cH:CH):∀ (os:List bH) (t:T) (H:List Obj),rq G hp cI cH os t H=bg G hp cI cH os t H
 | [],t,H=>rfl
 | o::os,t,H=>by
  show opF G hp cI cH o (rq G hp cI cH os) t H=_;unfold opF;rw [De,A6,x9,xy,bg]
  cases dn t o.guard with
  | none=>rfl
  | some b=>
   cases b with
   | false=>exact mD G hp cI cH os _ _
   | true=>
    dsimp only
    cases bV (gq G t) hp cI cH H.length o.op H with
    | none=>rfl
    | some p=>
     show Jt p.1 (fun v=>rq G hp cI cH os (zu t o.dst v) p.2)=Jt p.1 fun v=>bg G hp cI cH os (cZ t o.dst v) p.2
     congr 1;funext v
     rw [xy];exact mD G hp cI cH os _ _
noncomputable def Gx (G:Nat->List AV) (cI:CI) (pl:Nat) (o:bH) (t:T) (H:List Obj):Option (AV×List Obj×FP):=
 match Ky t o.guard with
 | some true=>if sB H pl o.op=true then
  (match Ff (Wd G t) cI pl o.op H with
   | some (v,H')=>some (v,H',mN (Wd G t) pl o.op)
   | none=>none) else none
 | some false=>some (.bl [],H,{})
 | none=>none
theorem MY (G:Nat->List AV) (cI:CI) (pl:Nat) (o:bH) (t:T) (H:List Obj):Gx G cI pl o t H=nF G cI pl o t H:=by
 unfold Gx nF;rw [De,A6,IQ];rfl
abbrev SD:=Option (T×List Obj×List FP)
def RW (f:FP):SD->SD
 | some r=>some (r.1,r.2.1,f::r.2.2)
 | none=>none
noncomputable def dK (k:T->List Obj->SD) (t:T) (d:Option Nat):Option (AV×List Obj×FP)->SD
 | some p=>Jt p.1 fun v=>RW p.2.2 (k (zu t d v) p.2.1)
 | none=>none
noncomputable def Gy (G:Nat->List AV) (cI:CI) (b:Nat) (os:List (Nat×bH)):T->List Obj->SD:=
 List.rec (motive:=fun _=>T->List Obj->SD) (fun t H=>some (t,H,[])) (fun o _ ih t H=>dK ih t o.2.dst (Gx G cI (b+o.1) o.2 t H)) os
theorem Df (G:Nat->List AV) (cI:CI) (b:Nat):∀ (os:List (Nat×bH)) (t:T) (H:List Obj),Gy G cI b os t H=gF G cI b os t H
 | [],t,H=>rfl
 | (j,o)::os,t,H=>by
  show dK (Gy G cI b os) t o.dst (Gx G cI (b+j) o t H)=_;rw [MY,gF]
  cases nF G cI (b+j) o t H with
  | none=>rfl
  | some p=>
   obtain ⟨v,H',f⟩:=p;show Jt v (fun v=>RW f (Gy G cI b os (zu t o.dst v) H'))=Jt v _;congr 1;funext v
   rw [xy,Df G cI b os]
   cases gF G cI b os (cZ t o.dst v) H' with
   | none=>rfl
   | some r=>rfl
noncomputable def OS (ts:List Nat) (s:ST):ST:=
 List.rec (motive:=fun _=>ST->ST) (fun s=>s) (fun t _ ih s=>ih ⟨JV t (AQ t s.tmps.l).wk s.tmps,NR s.H (AQ t s.tmps.l)⟩) ts s
theorem Ho:∀ (ts:List Nat) (s:ST),OS ts s=vO ts s
 | [],s=>rfl
 | t::ts,s=>by
  show OS ts ⟨JV t (AQ t s.tmps.l).wk s.tmps,NR s.H (AQ t s.tmps.l)⟩=_;rw [Ho ts,vO,Hl,vr];rfl
noncomputable def Fg (base:Nat) (s:ST) (g:GA):Option ST:=match g with
 | .wk l=>some (OS l s)
 | .kill l=>some ⟨Kx l s.tmps,s.H⟩
 | g=>aG base s g
theorem IS (base:Nat) (s:ST) (g:GA):Fg base s g=aG base s g:=by
 cases g with
 | wk l=>show some (OS l s)=some (vO l s);rw [Ho]
 | kill l=>show some (⟨Kx l s.tmps,s.H⟩:ST)=some ⟨T.fO l s.tmps,s.H⟩;rw [MV]
 | _=>rfl
noncomputable def gK (k:ST->Option ST):Option ST->Option ST
 | some s=>k s
 | none=>none
noncomputable def ru (base:Nat) (gs:List GA):ST->Option ST:=
 List.rec (motive:=fun _=>ST->Option ST) (fun s=>some s) (fun g _ ih s=>gK ih (Fg base s g)) gs
theorem ql (base:Nat):∀ (gs:List GA) (s:ST),ru base gs s=cN base gs s
 | [],s=>rfl
 | g::gs,s=>by
  show gK (ru base gs) (Fg base s g)=_;rw [IS,cN]
  cases aG base s g with
  | none=>rfl
  | some s'=>exact ql base gs s'
noncomputable def Gz (ez:List (Nat×List AV×AV)) (f:Nat) (xs:List AV):Option AV:=
 List.rec (motive:=fun _=>Option AV) none (fun e _ ih=>cond (Nat.beq e.1 f) (cond (AV.iL e.2.1 xs) (some e.2.2) ih) ih) ez
theorem Dg (f:Nat) (xs:List AV):∀ ez,Gz ez f xs=look ez f xs
 | []=>rfl
 | (g,ys,r)::l=>by
  show cond (Nat.beq g f) (cond (AV.iL ys xs) (some r) (Gz l f xs)) (Gz l f xs)=_;rw [Dg f xs l,look]
  cases Nat.beq g f<;>cases AV.iL ys xs<;>rfl
def Sq (x:Option AV) (y:Option AV):Option AV:=match x with
 | some r=>some r
 | none=>y
noncomputable def mU (ez:List (Nat×List AV×AV)) (fns:Nat->Option RF) (ex:qB):CI:=fun f args=>Sq (Gz ez f args) (j5 fns ex f args)
theorem wI (ez:List (Nat×List AV×AV)) (fns:Nat->Option RF) (ex:qB):mU ez fns ex=Gc ez fns ex:=by
 funext f args
 unfold mU Gc;rw [Dg]
 cases look ez f args<;>rfl
abbrev OE:=Option (Ex×ST)
def OT (k:ST->OE) (r:OE):OE:=match r with
 | some (.normal,s')=>k s'
 | r=>r
def RY (a b:OE):AV->OE
 | .bool true=>a
 | .bool false=>b
 | _=>none
def Lu (id:Nat) (r:OE):OE:=match r with
 | some (.exit i,s')=>if i=id then some (.normal,s') else some (.exit i,s')
 | r=>r
def Iq:SC->OE
 | some p=>some (.normal,⟨p.1,p.2⟩)
 | none=>none
def XP (ps:List (Nat×Nat)):SD->OE
 | some p=>if gy p.2.2 ps=true then some (.normal,⟨p.1,p.2.1⟩) else none
 | none=>none
def ghK (r:Option ST):OE:=match r with
 | some s''=>some (.normal,s'')
 | none=>none
noncomputable def ghN (base:Nat) (post:List GA) (r:OE):OE:=match r with
 | some (.normal,s')=>ghK (ru base post s')
 | r=>r
noncomputable def ghP (ex:qB) (base:Nat) (r:RC) (post:List GA):Option ST->OE
 | some s0=>ghN base post (ex r base s0)
 | none=>none
def XQ (s:ST):Option (AV×List Obj)->OE
 | some p=>(match ld p.2 s.H.length with
  | some e=>some (e,⟨s.tmps,p.2.set s.H.length .dead⟩)
  | none=>none)
 | none=>none
noncomputable def XS (E:Env) (ex:qB) (ps:List Nat) (b6 body:RC) (s:ST):AV->OE
 | .fn f cap=>XQ s (kh E.fns ex (some f) (.fI s.H.length::cap) (s.H++[.lp .ready s.tmps.toL ps b6 body]))
 | _=>none
noncomputable def RZ (E:Env) (hp:Nat->Bool) (ez:List (Nat×List AV×AV)) (ex:qB) (c:RC) (base:Nat) (s:ST):OE:=
 match c with
 | .bad=>none
 | .skip=>some (.normal,s)
 | .ret=>some (.ret,s)
 | .exit id=>some (.exit id,s)
 | .seq a b=>OT (ex b base) (ex a base s)
 | .cond x a b=>RY (ex a base s) (ex b base s) (Wd E.aJ s.tmps x)
 | .block id b=>Lu id (ex b base s)
 | .loop b=>OT (ex (.loop b) base) (ex b base s)
 | .u6 ops=>Iq (rq E.aJ hp (mU ez E.fns ex) (kh E.fns ex) ops s.tmps s.H)
 | .draw ops=>Iq (rq E.aJ (fun _=>false) (mU ez E.fns ex) (fun _ _ _=>none) ops s.tmps s.H)
 | .jG ops bf=>Iq (g9 E.aJ hp (mU ez E.fns ex) (kh E.fns ex) bf ops 0 [] [] s.tmps s.H)
 | .kr ops k ps=>XP ps (Gy E.aJ (mU ez E.fns ex) s.H.length ops s.tmps (s.H++List.replicate k .iA))
 | .gh pre r post=>ghP ex base r post (ru base pre s)
 | .Ay g ps b6 body=>XS E ex ps b6 body s (Wd E.aJ s.tmps g)
noncomputable def Kz (E:Env) (hp:Nat->Bool) (ez:List (Nat×List AV×AV)) (n:Nat):qB:=
 Nat.rec (motive:=fun _=>qB) (fun _ _ _=>none) (fun _ ih c base s=>RZ E hp ez ih c base s) n
theorem Dh (E:Env) (hp:Nat->Bool) (ez:List (Nat×List AV×AV)):∀ n,Kz E hp ez n=bG E hp ez n
 | 0=>by funext c base s;rfl
 | n+1=>by
  funext c base s
  show RZ E hp ez (Kz E hp ez n) c base s=_;rw [Dh E hp ez n]
  cases c with
  | bad=>rfl
  | skip=>rfl
  | ret=>rfl
  | exit i=>rfl
  | seq a b=>
   rw [bG];show OT _ _=_;rcases bG E hp ez n a base s with _ | ⟨e,s'⟩
   ·rfl
   ·cases e<;>rfl
  | cond x a b=>
   rw [bG];show RY _ _ _=_;rw [A6];rfl
  | block i b=>
   rw [bG];show Lu _ _=_;rcases bG E hp ez n b base s with _ | ⟨e,s'⟩
   ·rfl
   ·cases e<;>rfl
  | loop b=>
   rw [bG];show OT _ _=_;rcases bG E hp ez n b base s with _ | ⟨e,s'⟩
   ·rfl
   ·cases e<;>rfl
  | u6 ops=>
   rw [bG];show Iq _=_;rw [mD,wI];rcases bg E.aJ hp (Gc ez E.fns (bG E hp ez n)) (kh E.fns (bG E hp ez n)) ops s.tmps s.H with _ | ⟨t,H⟩<;>rfl
  | draw ops=>
   rw [bG];show Iq _=_;rw [mD,wI];rcases bg E.aJ (fun _=>false) (Gc ez E.fns (bG E hp ez n)) (fun _ _ _=>none) ops s.tmps s.H with _ | ⟨t,H⟩<;>rfl
  | jG ops bf=>
   rw [bG];show Iq _=_;rw [wI];rcases g9 E.aJ hp (Gc ez E.fns (bG E hp ez n)) (kh E.fns (bG E hp ez n)) bf ops 0 [] [] s.tmps s.H with _ | ⟨t,H⟩<;>rfl
  | kr ops k ps=>
   rw [bG];show XP _ _=_;rw [Df,wI];rcases hx:gF E.aJ (Gc ez E.fns (bG E hp ez n)) s.H.length ops s.tmps (s.H++List.replicate k .iA) with _ | ⟨t,H,fs⟩<;>simp only [hx]<;>rfl
  | gh pre r post=>
   rw [bG];show ghP _ _ _ _ _=_;rw [ql]
   cases cN base pre s with
   | none=>rfl
   | some s0=>
    show ghN base post (bG E hp ez n r base s0)=_;rcases hx:bG E hp ez n r base s0 with _ | ⟨e,s'⟩
    ·simp only [hx];rfl
    ·simp only [hx]
     cases e<;>try rfl
     show ghK (ru base post s')=_;rw [ql];rfl
  | Ay g ps b6 body=>
   rw [bG];show XS _ _ _ _ _ _ _=_;rw [A6]
   cases gq E.aJ s.tmps g<;>try rfl
   rename_i f cap;show XQ s _=_;dsimp only;rcases hx:kh E.fns (bG E hp ez n) (some f) (.fI s.H.length::cap) (s.H++[.lp .ready s.tmps.toL ps b6 body]) with _ | ⟨u,H'⟩<;>simp only [hx]<;>rfl
end Go.Am.As
