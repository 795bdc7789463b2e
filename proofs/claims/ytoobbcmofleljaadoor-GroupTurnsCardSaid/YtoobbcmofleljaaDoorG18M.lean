/- Plain models of functions, printed by a program of mine (dec.py). No condition. -/
import Derived.Test.YtoobbcmofleljaaDoorAmP0
import Derived.Test.YtoobbcmofleljaaDoorG18u
namespace G18
open Go Go.Pl
set_option linter.unusedVariables false

structure SStroke where
  Actuator : Int
  Out : Bool
  deriving DecidableEq

structure SStep where
  Strokes : (List SStroke)
  Wait : Int
  deriving DecidableEq

structure SSequence where
  Actuators : Int
  Steps : (List SStep)
  deriving DecidableEq

structure SboundsError where
  f_x : Int
  f_y : Int
  f_signed : Bool
  f_code : Int
  deriving DecidableEq

structure SerrorAddressString where
  f_msg : (List UInt8)
  f_addr : Int
  deriving DecidableEq


/-- pneumatic/pneumaticlaw18.parsed: given -/
def m34 (a0 : (List UInt8)) : Option SSequence := bif decide (a0 = ([65, 43, 59, 32, 66, 43, 59, 32, 66, 45, 59, 32, 65, 45] : List UInt8)) then some ⟨2, [⟨[⟨0, true⟩], 0⟩, ⟨[⟨1, true⟩], 0⟩, ⟨[⟨1, false⟩], 0⟩, ⟨[⟨0, false⟩], 0⟩]⟩ else bif decide (a0 = ([65, 43, 59, 32, 65, 45, 59, 32, 66, 43, 59, 32, 66, 45] : List UInt8)) then some ⟨2, [⟨[⟨0, true⟩], 0⟩, ⟨[⟨0, false⟩], 0⟩, ⟨[⟨1, true⟩], 0⟩, ⟨[⟨1, false⟩], 0⟩]⟩ else bif decide (a0 = ([65, 43, 59, 32, 66, 43, 59, 32, 65, 45, 59, 32, 67, 43, 59, 32, 66, 45, 59, 32, 67, 45] : List UInt8)) then some ⟨3, [⟨[⟨0, true⟩], 0⟩, ⟨[⟨1, true⟩], 0⟩, ⟨[⟨0, false⟩], 0⟩, ⟨[⟨2, true⟩], 0⟩, ⟨[⟨1, false⟩], 0⟩, ⟨[⟨2, false⟩], 0⟩]⟩ else none

/-- pneumatic/stroke.known -/
def m81 (a0 : Int) : Option Bool :=
  some ((decide (a0 ≥ 0)) && (decide (a0 < 6)))

/-- pneumatic/stroke.CheckStep -/
def m73 (a0 : SStep) : Option Int :=
  (bif ((a0.Strokes.length : Int) == 0) then some 13 else (bif (decide ((a0.Strokes.length : Int) > 6)) then some 5 else (iter (fun s3 : Int × Int => ((bif (decide (s3.1 < (a0.Strokes.length : Int))) then (idx a0.Strokes s3.1).bind fun v6 => (m81 v6.Actuator).bind fun v7 => (bif (!v7) then some (.inr (.inr 2)) else (bif (v6.Actuator == s3.2) then some (.inr (.inr 7)) else (bif (decide (v6.Actuator < s3.2)) then some (.inr (.inr 9)) else some (.inl ((addI .i64 s3.1 1), v6.Actuator))))) else some (.inr (.inl ()))) : Option ((Int × Int) ⊕ ((Unit) ⊕ Int)))) (0, (-1))).bind (Sum.elim (fun w4 => (bif ((decide (a0.Wait < 0)) || (decide (a0.Wait > 1000000))) then some 2 else some 0)) some)))

/-- pneumatic/sequence.fits -/
def m59 (a0 : SSequence) (a1 : SStep) (a2 : (Arr 6 Bool)) : Option Int :=
  (m73 a1).bind fun v1 => (bif (v1 != 0) then some v1 else (iter (fun s3 : Int => ((bif (decide (s3 < (a1.Strokes.length : Int))) then (idx a1.Strokes s3).bind fun v6 => (bif (decide (v6.Actuator ≥ a0.Actuators)) then some (.inr (.inr 6)) else some (.inl (addI .i64 s3 1))) else some (.inr (.inl ()))) : Option ((Int) ⊕ ((Unit) ⊕ Int)))) 0).bind (Sum.elim (fun w4 => (iter (fun s8 : Int => ((bif (decide (s8 < (a1.Strokes.length : Int))) then (idx a1.Strokes s8).bind fun v11 => (aidx a2 v11.Actuator).bind fun v12 => (bif ((v12 == v11.Out) != false) then some (.inr (.inr 14)) else some (.inl (addI .i64 s8 1))) else some (.inr (.inl ()))) : Option ((Int) ⊕ ((Unit) ⊕ Int)))) 0).bind (Sum.elim (fun w9 => some 0) some)) some))

/-- (pneumatic/sequence.ends).behind -/
def m60 (a0 : (Arr 6 Bool)) (a1 : SStep) : Option (Arr 6 Bool) :=
  (iter (fun s1 : (Arr 6 Bool) × Int => ((bif (decide (s1.2 < (a1.Strokes.length : Int))) then (idx a1.Strokes s1.2).bind fun v4 => (aidx s1.1 v4.Actuator).bind fun v5 => some (.inl ((s1.1.put v4.Actuator.toNat v4.Out), (addI .i64 s1.2 1))) else some (.inr s1.1)) : Option (((Arr 6 Bool) × Int) ⊕ ((Arr 6 Bool))))) (a0, 0)).bind fun w2 => some w2

/-- slices.Index[[]bool,bool] -/
def m74 (a0 : (List Bool)) (a1 : Bool) : Option Int :=
  (iter (fun s1 : Int => ((bif (decide (s1 < (a0.length : Int))) then (idx a0 s1).bind fun v4 => (bif ((a1 == v4) != false) then some (.inr (.inr s1)) else some (.inl (addI .i64 s1 1))) else some (.inr (.inl ()))) : Option ((Int) ⊕ ((Unit) ⊕ Int)))) 0).bind (Sum.elim (fun w2 => some (-1)) some)

/-- slices.Contains[[]bool,bool] -/
def m61 (a0 : (List Bool)) (a1 : Bool) : Option Bool :=
  (m74 a0 a1).bind fun v1 => some (decide (v1 ≥ 0))

/-- pneumatic/sequence.Check -/
def m35 (a0 : SSequence) : Option Int :=
  (bif ((decide (a0.Actuators < 1)) || (decide (a0.Actuators > 6))) then some 2 else (bif ((a0.Steps.length : Int) == 0) then some 13 else (bif (decide ((a0.Steps.length : Int) > 64)) then some 5 else (iter (fun s6 : (Arr 6 Bool) × (Arr 6 Bool) × Int => ((bif (decide (s6.2.2 < (a0.Steps.length : Int))) then (idx a0.Steps s6.2.2).bind fun v9 => (m59 a0 v9 s6.1).bind fun v10 => (bif (v10 != 0) then some (.inr (.inr v10)) else (m60 s6.1 v9).bind fun v12 => (iter (fun s13 : (Arr 6 Bool) × Int => ((bif (decide (s13.2 < (v9.Strokes.length : Int))) then (idx v9.Strokes s13.2).bind fun v16 => (aidx s13.1 v16.Actuator).bind fun v17 => some (.inl ((s13.1.put v16.Actuator.toNat true), (addI .i64 s13.2 1))) else some (.inr s13.1)) : Option (((Arr 6 Bool) × Int) ⊕ ((Arr 6 Bool))))) (s6.2.1, 0)).bind fun w14 => some (.inl (v12, w14, (addI .i64 s6.2.2 1)))) else some (.inr (.inl (s6.1, s6.2.1)))) : Option (((Arr 6 Bool) × (Arr 6 Bool) × Int) ⊕ (((Arr 6 Bool) × (Arr 6 Bool)) ⊕ Int)))) ((Arr.rep 6 false), (Arr.rep 6 false), 0)).bind (Sum.elim (fun w7 => (bif ((w7.1.1 == (Arr.rep 6 false).1) != true) then some 9 else (slcc w7.2.1 none (some a0.Actuators)).bind fun v19 => (m61 v19 false).bind fun v20 => (bif v20 then some 13 else some 0))) some))))

/-- pneumatic/group.Ring: given -/
def m19 (a0 : SSequence) : Option ((List Int) × Int) := (m35 a0).bind fun v1 => (bif (v1 != 0) then some (([] : List Int), v1) else (ringG (fun i j => (a0.Steps.getD (i % a0.Steps.length) ⟨[], 0⟩).Strokes.any fun x => (a0.Steps.getD (j % a0.Steps.length) ⟨[], 0⟩).Strokes.any fun y => decide (y.Actuator = x.Actuator)) a0.Steps.length).bind fun l => some (l.map (fun x : Nat => (x : Int)), 0))

/-- pneumatic/group.moving -/
def m36 (a0 : SStep) : Option Int :=
  (iter (fun s1 : Int × Int => ((bif (decide (s1.2 < (a0.Strokes.length : Int))) then (idx a0.Strokes s1.2).bind fun v4 => (idx ([1, 2, 4, 8, 16, 32] : List Int) v4.Actuator).bind fun v5 => some (.inl ((orI .u64 s1.1 v5), (addI .i64 s1.2 1))) else some (.inr s1.1)) : Option ((Int × Int) ⊕ (Int)))) (0, 0)).bind fun w2 => some w2

/-- pneumatic/group.once -/
def m44 (a0 : SSequence) (a1 : Int) (a2 : Int) : Option (Int × Bool) :=
  (iter (fun s1 : Int × Int => ((bif (decide (s1.1 < a2)) then (remc (addI .i64 a1 s1.1) (a0.Steps.length : Int)).bind fun v4 => (idx a0.Steps v4).bind fun v5 => (m36 v5).bind fun v6 => (bif ((andI .u64 s1.2 v6) != 0) then some (.inr (.inr (s1.2, false))) else some (.inl ((addI .i64 s1.1 1), (orI .u64 s1.2 v6)))) else some (.inr (.inl s1.2))) : Option ((Int × Int) ⊕ ((Int) ⊕ (Int × Bool))))) (0, 0)).bind (Sum.elim (fun w2 => some (w2, true)) some)

/-- pneumatic/group.longest -/
def m39 (a0 : SSequence) (a1 : Int) : Option (List Int) :=
  (iter (fun s1 : (List Int) × Int × Int => ((bif (decide (s1.2.2 < (a0.Steps.length : Int))) then (idx s1.1 (subI .i64 (s1.1.length : Int) 1)).bind fun v4 => (m44 a0 v4 (addI .i64 s1.2.1 1)).bind fun v5 => ((bif (!v5.2) then (appc 8 s1.1 ([(addI .i64 a1 s1.2.2)] : List Int)).bind fun l8 => some (l8, 0) else some (s1.1, s1.2.1)) : Option ((List Int) × Int)).bind fun w6 => some (.inl (w6.1, (addI .i64 w6.2 1), (addI .i64 s1.2.2 1))) else some (.inr s1.1)) : Option (((List Int) × Int × Int) ⊕ ((List Int))))) (([a1] : List Int), 0, 0)).bind fun w2 => some w2

/-- pneumatic/group.needed -/
def m42 (a0 : SSequence) (a1 : Int) (a2 : Int) : Option Int :=
  (iter (fun s1 : Int × Int => ((bif (decide (s1.1 < a2)) then (iter (fun s4 : Int => ((bif (decide ((addI .i64 s1.1 s4) < a2)) then (m44 a0 s1.1 (addI .i64 s4 1)).bind fun v7 => (bif (!v7.2) then some (.inr s4) else some (.inl (addI .i64 s4 1))) else some (.inr s4)) : Option ((Int) ⊕ (Int)))) 1).bind fun w5 => some (.inl ((addI .i64 s1.1 w5), (addI .i64 s1.2 1))) else some (.inr s1.2)) : Option ((Int × Int) ⊕ (Int)))) (a1, 0)).bind fun w2 => some w2

/-- pneumatic/pneumaticref14.Few -/
def m11 (a0 : SSequence) : Option Bool :=
  (bif (decide ((a0.Steps.length : Int) > 128)) then some false else (iter (fun s2 : Int => ((bif (decide (s2 < (a0.Steps.length : Int))) then (idx a0.Steps s2).bind fun v5 => (bif (decide ((v5.Strokes.length : Int) > 40)) then some (.inr (.inr false)) else some (.inl (addI .i64 s2 1))) else some (.inr (.inl ()))) : Option ((Int) ⊕ ((Unit) ⊕ Bool)))) 0).bind (Sum.elim (fun w3 => some true) some))

/-- pneumatic/pneumaticref13.Actuator -/
def m82 (a0 : Int) : Option Bool :=
  some ((decide (a0 ≥ 0)) && (decide (a0 < 6)))

/-- pneumatic/pneumaticref03.Time -/
def m83 (a0 : Int) : Option Bool :=
  some ((decide (a0 ≥ 0)) && (decide (a0 ≤ 1000000)))

/-- pneumatic/pneumaticref13.CheckStep -/
def m75 (a0 : SStep) : Option Int :=
  (bif ((a0.Strokes.length : Int) == 0) then some 13 else (bif (decide ((a0.Strokes.length : Int) > 6)) then some 5 else (iter (fun s3 : Int => ((bif (decide (s3 < (a0.Strokes.length : Int))) then (idx a0.Strokes s3).bind fun v6 => (m82 v6.Actuator).bind fun v7 => (bif (!v7) then some (.inr (.inr 2)) else ((bif (decide (s3 > 0)) then (idx a0.Strokes s3).bind fun v11 => (idx a0.Strokes (subI .i64 s3 1)).bind fun v12 => some (v11.Actuator == v12.Actuator) else some false) : Option (Bool)).bind fun w9 => (bif w9 then some (.inr (.inr 7)) else ((bif (decide (s3 > 0)) then (idx a0.Strokes s3).bind fun v16 => (idx a0.Strokes (subI .i64 s3 1)).bind fun v17 => some (decide (v16.Actuator < v17.Actuator)) else some false) : Option (Bool)).bind fun w14 => (bif w14 then some (.inr (.inr 9)) else some (.inl (addI .i64 s3 1))))) else some (.inr (.inl ()))) : Option ((Int) ⊕ ((Unit) ⊕ Int)))) 0).bind (Sum.elim (fun w4 => (m83 a0.Wait).bind fun v19 => (bif (!v19) then some 2 else some 0)) some)))

/-- pneumatic/pneumaticref13.Suits -/
def m76 (a0 : SStep) (a1 : (List Bool)) : Option Bool :=
  (iter (fun s1 : Int => ((bif (decide (s1 < (a0.Strokes.length : Int))) then (idx a0.Strokes s1).bind fun v4 => ((bif (decide (v4.Actuator ≥ (a1.length : Int))) then some true else (idx a1 v4.Actuator).bind fun v7 => some ((v7 == v4.Out) != false)) : Option (Bool)).bind fun w5 => (bif w5 then some (.inr (.inr false)) else some (.inl (addI .i64 s1 1))) else some (.inr (.inl ()))) : Option ((Int) ⊕ ((Unit) ⊕ Bool)))) 0).bind (Sum.elim (fun w2 => some true) some)

/-- pneumatic/pneumaticref13.After -/
def m77 (a0 : SStep) (a1 : (List Bool)) : Option (List Bool) :=
  (appc 1 ([] : List Bool) a1).bind fun l1 => (iter (fun s2 : (List Bool) × Int => ((bif (decide (s2.2 < (a0.Strokes.length : Int))) then (idx a0.Strokes s2.2).bind fun v5 => (idx a0.Strokes s2.2).bind fun v6 => (idx s2.1 v5.Actuator).bind fun v7 => some (.inl ((s2.1.set v5.Actuator.toNat v6.Out), (addI .i64 s2.2 1))) else some (.inr s2.1)) : Option (((List Bool) × Int) ⊕ ((List Bool))))) (l1, 0)).bind fun w3 => some w3

/-- pneumatic/pneumaticref14.steps -/
def m62 (a0 : SSequence) : Option Int :=
  (mkc 1 a0.Actuators false).bind fun l1 => (iter (fun s2 : (List Bool) × Int => ((bif (decide (s2.2 < (a0.Steps.length : Int))) then (idx a0.Steps s2.2).bind fun v5 => (m75 v5).bind fun v6 => (bif (v6 != 0) then some (.inr (.inr v6)) else (iter (fun s8 : Int => ((bif (decide (s8 < (v5.Strokes.length : Int))) then (idx v5.Strokes s8).bind fun v11 => (bif (decide (v11.Actuator ≥ a0.Actuators)) then some (.inr (.inr (.inr (.inr 6)))) else some (.inl (addI .i64 s8 1))) else some (.inr (.inl ()))) : Option ((Int) ⊕ ((Unit) ⊕ (((List Bool) × Int) ⊕ (((List Bool)) ⊕ Int)))))) 0).bind (Sum.elim (fun w9 => (m76 v5 s2.1).bind fun v13 => (bif (!v13) then some (.inr (.inr 14)) else (m77 v5 s2.1).bind fun v15 => some (.inl (v15, (addI .i64 s2.2 1))))) some)) else some (.inr (.inl s2.1))) : Option (((List Bool) × Int) ⊕ (((List Bool)) ⊕ Int)))) (l1, 0)).bind (Sum.elim (fun w3 => (iter (fun s16 : Int => ((bif (decide (s16 < a0.Actuators)) then (idx w3 s16).bind fun v19 => (bif v19 then some (.inr (.inr 9)) else some (.inl (addI .i64 s16 1))) else some (.inr (.inl ()))) : Option ((Int) ⊕ ((Unit) ⊕ Int)))) 0).bind (Sum.elim (fun w17 => some 0) some)) some)

/-- pneumatic/pneumaticref13.Way -/
def m53 (a0 : SStep) (a1 : Int) : Option Int :=
  (iter (fun s1 : Int => ((bif (decide (s1 < (a0.Strokes.length : Int))) then (idx a0.Strokes s1).bind fun v4 => (bif (v4.Actuator == a1) then (idx a0.Strokes s1).bind fun v6 => (bif v6.Out then some (.inr (.inr 1)) else some (.inr (.inr (-1)))) else some (.inl (addI .i64 s1 1))) else some (.inr (.inl ()))) : Option ((Int) ⊕ ((Unit) ⊕ Int)))) 0).bind (Sum.elim (fun w2 => some 0) some)

/-- pneumatic/pneumaticref14.moves -/
def m63 (a0 : SSequence) (a1 : Int) : Option Bool :=
  (iter (fun s1 : Int => ((bif (decide (s1 < (a0.Steps.length : Int))) then (idx a0.Steps s1).bind fun v4 => (m53 v4 a1).bind fun v5 => (bif (v5 != 0) then some (.inr (.inr true)) else some (.inl (addI .i64 s1 1))) else some (.inr (.inl ()))) : Option ((Int) ⊕ ((Unit) ⊕ Bool)))) 0).bind (Sum.elim (fun w2 => some false) some)

/-- pneumatic/pneumaticref14.Check -/
def m37 (a0 : SSequence) : Option Int :=
  (bif ((decide (a0.Actuators < 1)) || (decide (a0.Actuators > 6))) then some 2 else (bif ((a0.Steps.length : Int) == 0) then some 13 else (bif (decide ((a0.Steps.length : Int) > 64)) then some 5 else (m62 a0).bind fun v6 => (bif (v6 != 0) then some v6 else (iter (fun s8 : Int => ((bif (decide (s8 < a0.Actuators)) then (m63 a0 s8).bind fun v11 => (bif (!v11) then some (.inr (.inr 13)) else some (.inl (addI .i64 s8 1))) else some (.inr (.inl ()))) : Option ((Int) ⊕ ((Unit) ⊕ Int)))) 0).bind (Sum.elim (fun w9 => some 0) some)))))

/-- pneumatic/pneumaticlaw18.right -/
def m21 (a0 : SSequence) : Option Bool :=
  ((bif (decide ((a0.Steps.length : Int) ≤ 24)) then (m11 a0).bind fun v3 => (bif v3 then (m37 a0).bind fun v5 => some (v5 == 0) else some false) else some false) : Option (Bool)).bind fun w1 => some w1

/-- pneumatic/group.Fewest -/
def m16 (a0 : SSequence) : Option ((List Int) × Int) :=
  (m35 a0).bind fun v1 => (bif (v1 != 0) then some (([] : List Int), v1) else (m39 a0 0).bind fun v3 => some (v3, 0))

/-- slices.Equal[[]int,int] -/
def m18 (a0 : (List Int)) (a1 : (List Int)) : Option Bool :=
  (bif ((a0.length : Int) != (a1.length : Int)) then some false else (iter (fun s2 : Int => ((bif (decide (s2 < (a0.length : Int))) then (idx a0 s2).bind fun v5 => (idx a1 s2).bind fun v6 => (bif (v5 != v6) then some (.inr (.inr false)) else some (.inl (addI .i64 s2 1))) else some (.inr (.inl ()))) : Option ((Int) ⊕ ((Unit) ⊕ Bool)))) 0).bind (Sum.elim (fun w3 => some true) some))

/-- pneumatic/group.Verify -/
def m13 (a0 : SSequence) (a1 : (List (Int × Int))) : Option (Int × Int) :=
  (m35 a0).bind fun v1 => (bif (v1 != 0) then some (0, v1) else (bif (decide ((a1.length : Int) > (a0.Steps.length : Int))) then some (0, 5) else (iter (fun s4 : Int × Int => ((bif (decide (s4.1 < (a1.length : Int))) then (idx a1 s4.1).bind fun v7 => (bif ((decide ((minI v7.1 v7.2) < 0)) || (decide ((maxI v7.1 v7.2) ≥ (a0.Steps.length : Int)))) then some (.inr (.inr (0, 2))) else (bif ((decide (v7.1 ≥ v7.2)) || ((decide (s4.1 > 0)) && (decide (v7.1 < s4.2)))) then some (.inr (.inr (0, 9))) else (idx a0.Steps v7.1).bind fun v15 => (m36 v15).bind fun v16 => (idx a0.Steps v7.2).bind fun v17 => (m36 v17).bind fun v18 => (bif ((andI .u64 v16 v18) == 0) then some (.inr (.inr (0, 15))) else some (.inl ((addI .i64 s4.1 1), v7.2))))) else some (.inr (.inl ()))) : Option ((Int × Int) ⊕ ((Unit) ⊕ (Int × Int))))) (0, 0)).bind (Sum.elim (fun w5 => some ((addI .i64 (a1.length : Int) 1), 0)) some)))

/-- pneumatic/pneumaticlaw18.awake -/
def m12  : Option Bool :=
  (m34 [65, 43, 59, 32, 66, 43, 59, 32, 66, 45, 59, 32, 65, 45]).bind fun v1 => (m16 v1).bind fun v2 => (m34 [65, 43, 59, 32, 65, 45, 59, 32, 66, 43, 59, 32, 66, 45]).bind fun v3 => (m16 v3).bind fun v4 => (m34 [65, 43, 59, 32, 65, 45, 59, 32, 66, 43, 59, 32, 66, 45]).bind fun v5 => (m19 v5).bind fun v6 => (m34 [65, 43, 59, 32, 66, 43, 59, 32, 65, 45, 59, 32, 67, 43, 59, 32, 66, 45, 59, 32, 67, 45]).bind fun v7 => (m16 v7).bind fun v8 => ((bif ((addI .i64 (addI .i64 (addI .i64 v2.2 v4.2) v6.2) v8.2) != 0) then some true else (m18 v2.1 ([0, 2] : List Int)).bind fun v11 => (bif (!v11) then some true else (m18 v4.1 ([0, 1, 3] : List Int)).bind fun v13 => (bif (!v13) then some true else (m18 v6.1 ([1, 3] : List Int)).bind fun v15 => (bif (!v15) then some true else (m18 v8.1 ([0, 2, 5] : List Int)).bind fun v17 => some (!v17))))) : Option (Bool)).bind fun w9 => (bif w9 then some false else (m34 [65, 43, 59, 32, 66, 43, 59, 32, 66, 45, 59, 32, 65, 45]).bind fun v19 => (m13 v19 ([(1, 2)] : List (Int × Int))).bind fun v20 => (m34 [65, 43, 59, 32, 66, 43, 59, 32, 65, 45, 59, 32, 67, 43, 59, 32, 66, 45, 59, 32, 67, 45]).bind fun v21 => (m13 v21 ([(0, 2), (3, 5)] : List (Int × Int))).bind fun v22 => some (((addI .i64 v20.2 v22.2) == 0) && ((v20.1 == 2) && (v22.1 == 3))))

/-- pneumatic/pneumaticref18.list -/
def m65 (a0 : SSequence) (a1 : (List Int)) (a2 : Bool) : Option Int :=
  (bif ((a1.length : Int) == 0) then some 13 else (bif (decide ((a1.length : Int) > (a0.Steps.length : Int))) then some 5 else ((bif a2 then (idx a1 0).bind fun v5 => some (v5 != 0) else some false) : Option (Bool)).bind fun w3 => (bif w3 then some 3 else (iter (fun s7 : Int => ((bif (decide (s7 < (a1.length : Int))) then ((idx a1 s7).bind fun v11 => (bif (decide (v11 < 0)) then some true else (idx a1 s7).bind fun v13 => some (decide (v13 ≥ (a0.Steps.length : Int)))) : Option (Bool)).bind fun w10 => (bif w10 then some (.inr (.inr 2)) else ((bif (decide (s7 > 0)) then (idx a1 s7).bind fun v17 => (idx a1 (subI .i64 s7 1)).bind fun v18 => some (decide (v17 ≤ v18)) else some false) : Option (Bool)).bind fun w15 => (bif w15 then some (.inr (.inr 9)) else some (.inl (addI .i64 s7 1)))) else some (.inr (.inl ()))) : Option ((Int) ⊕ ((Unit) ⊕ Int)))) 0).bind (Sum.elim (fun w8 => some 0) some))))

/-- pneumatic/pneumaticref18.next -/
def m52 (a0 : SSequence) (a1 : (List Int)) (a2 : Int) : Option Int :=
  (bif (decide ((addI .i64 a2 1) < (a1.length : Int))) then (idx a1 (addI .i64 a2 1)).bind fun v2 => some v2 else (idx a1 0).bind fun v3 => some (addI .i64 (a0.Steps.length : Int) v3))

/-- pneumatic/pneumaticref18.Repeats -/
def m38 (a0 : SSequence) (a1 : Int) (a2 : Int) : Option Bool :=
  (iter (fun s1 : Int => ((bif (decide (s1 < a0.Actuators)) then ((idx a0.Steps a1).bind fun v5 => (m53 v5 s1).bind fun v6 => (bif (v6 != 0) then (idx a0.Steps a2).bind fun v8 => (m53 v8 s1).bind fun v9 => some (v9 != 0) else some false) : Option (Bool)).bind fun w4 => (bif w4 then some (.inr (.inr true)) else some (.inl (addI .i64 s1 1))) else some (.inr (.inl ()))) : Option ((Int) ⊕ ((Unit) ⊕ Bool)))) 0).bind (Sum.elim (fun w2 => some false) some)

/-- pneumatic/pneumaticref18.alone -/
def m78 (a0 : SSequence) (a1 : Int) (a2 : Int) : Option Bool :=
  (iter (fun s1 : Int => ((bif (decide (s1 < a2)) then (iter (fun s4 : Int => ((bif (decide (s4 < s1)) then (remc (addI .i64 a1 s1) (a0.Steps.length : Int)).bind fun v7 => (remc (addI .i64 a1 s4) (a0.Steps.length : Int)).bind fun v8 => (m38 a0 v7 v8).bind fun v9 => (bif v9 then some (.inr (.inr (.inr (.inr false)))) else some (.inl (addI .i64 s4 1))) else some (.inr (.inl ()))) : Option ((Int) ⊕ ((Unit) ⊕ ((Int) ⊕ ((Unit) ⊕ Bool)))))) 0).bind (Sum.elim (fun w5 => some (.inl (addI .i64 s1 1))) some) else some (.inr (.inl ()))) : Option ((Int) ⊕ ((Unit) ⊕ Bool)))) 0).bind (Sum.elim (fun w2 => some true) some)

/-- pneumatic/pneumaticref18.Right -/
def m66 (a0 : SSequence) (a1 : (List Int)) : Option Bool :=
  (iter (fun s1 : Int => ((bif (decide (s1 < (a1.length : Int))) then (idx a1 s1).bind fun v4 => (m52 a0 a1 s1).bind fun v5 => (idx a1 s1).bind fun v6 => (m78 a0 v4 (subI .i64 v5 v6)).bind fun v7 => (bif (!v7) then some (.inr (.inr false)) else some (.inl (addI .i64 s1 1))) else some (.inr (.inl ()))) : Option ((Int) ⊕ ((Unit) ⊕ Bool)))) 0).bind (Sum.elim (fun w2 => some true) some)

/-- pneumatic/pneumaticref18.check -/
def m46 (a0 : SSequence) (a1 : (List Int)) (a2 : Bool) : Option Int :=
  (m37 a0).bind fun v1 => (bif (v1 != 0) then some v1 else (m65 a0 a1 a2).bind fun v3 => (bif (v3 != 0) then some v3 else (m66 a0 a1).bind fun v5 => (bif (!v5) then some 7 else some 0)))

/-- pneumatic/pneumaticref18.CheckRing -/
def m22 (a0 : SSequence) (a1 : (List Int)) : Option Int :=
  (m46 a0 a1 false).bind fun v1 => some v1

/-- pneumatic/group.list -/
def m68 (a0 : SSequence) (a1 : (List Int)) (a2 : Bool) : Option Int :=
  (bif ((a1.length : Int) == 0) then some 13 else (bif (decide ((a1.length : Int) > (a0.Steps.length : Int))) then some 5 else ((bif a2 then (idx a1 0).bind fun v5 => some (v5 != 0) else some false) : Option (Bool)).bind fun w3 => (bif w3 then some 3 else (iter (fun s7 : Int => ((bif (decide (s7 < (a1.length : Int))) then (idx a1 s7).bind fun v10 => (bif ((decide (v10 < 0)) || (decide (v10 ≥ (a0.Steps.length : Int)))) then some (.inr (.inr 2)) else ((bif (decide (s7 > 0)) then (idx a1 (subI .i64 s7 1)).bind fun v16 => some (decide (v10 ≤ v16)) else some false) : Option (Bool)).bind fun w14 => (bif w14 then some (.inr (.inr 9)) else some (.inl (addI .i64 s7 1)))) else some (.inr (.inl ()))) : Option ((Int) ⊕ ((Unit) ⊕ Int)))) 0).bind (Sum.elim (fun w8 => some 0) some))))

/-- pneumatic/group.sizes -/
def m48 (a0 : SSequence) (a1 : (List Int)) : Option (List Int) :=
  (iter (fun s1 : (List Int) × Int => ((bif (decide (s1.2 < (a1.length : Int))) then (idx a1 s1.2).bind fun v4 => (idx a1 0).bind fun v5 => ((bif (decide ((addI .i64 s1.2 1) < (a1.length : Int))) then (idx a1 (addI .i64 s1.2 1)).bind fun v8 => some v8 else some (addI .i64 v5 (a0.Steps.length : Int))) : Option (Int)).bind fun w6 => (appc 8 s1.1 ([(subI .i64 w6 v4)] : List Int)).bind fun l9 => some (.inl (l9, (addI .i64 s1.2 1))) else some (.inr s1.1)) : Option (((List Int) × Int) ⊕ ((List Int))))) (([] : List Int), 0)).bind fun w2 => some w2

/-- pneumatic/group.check -/
def m47 (a0 : SSequence) (a1 : (List Int)) (a2 : Bool) : Option Int :=
  (m35 a0).bind fun v1 => (bif (v1 != 0) then some v1 else (m68 a0 a1 a2).bind fun v3 => (bif (v3 != 0) then some v3 else (m48 a0 a1).bind fun v5 => (iter (fun s6 : Int => ((bif (decide (s6 < (v5.length : Int))) then (idx v5 s6).bind fun v9 => (idx a1 s6).bind fun v10 => (m44 a0 v10 v9).bind fun v11 => (bif (!v11.2) then some (.inr (.inr 7)) else some (.inl (addI .i64 s6 1))) else some (.inr (.inl ()))) : Option ((Int) ⊕ ((Unit) ⊕ Int)))) 0).bind (Sum.elim (fun w7 => some 0) some)))

/-- pneumatic/group.CheckRing -/
def m23 (a0 : SSequence) (a1 : (List Int)) : Option Int :=
  (m47 a0 a1 false).bind fun v1 => some v1

/-- pneumatic/pneumaticlaw18.GroupTurns -/
def m6 (a0 : SSequence) : Option Bool :=
  ((m21 a0).bind fun v2 => (bif (!v2) then some true else some (decide ((a0.Steps.length : Int) > 12))) : Option (Bool)).bind fun w1 => (bif w1 then (m12).bind fun v5 => some v5 else (m16 a0).bind fun v6 => (m19 a0).bind fun v7 => ((bif ((addI .i64 v6.2 v7.2) != 0) then some true else (m22 a0 v7.1).bind fun v10 => (bif (v10 != 0) then some true else (m23 a0 v7.1).bind fun v12 => some (v12 != 0))) : Option (Bool)).bind fun w8 => (bif w8 then some false else ((bif (decide ((v7.1.length : Int) ≤ (v6.1.length : Int))) then (bif (decide ((v7.1.length : Int) ≥ (subI .i64 (v6.1.length : Int) 1))) then (m23 a0 v6.1).bind fun v17 => (bif (v17 == 0) then (m12).bind fun v19 => some v19 else some false) else some false) else some false) : Option (Bool)).bind fun w14 => some w14))

end G18
