/- Plain models of functions, printed by a program of mine (dec.py). No condition. -/
import Derived.Test.YtiicggigpcfefaaAmP0
namespace G17
open Go Go.Pl
set_option linter.unusedVariables false

structure SStroke where
  Actuator : Int
  Out : Bool
  deriving DecidableEq

structure SStep where
  Strokes : (List SStroke)
  Wait : Int
  deriving DecidableEq

structure SSequence where
  Actuators : Int
  Steps : (List SStep)
  deriving DecidableEq

structure SSpan where
  Low : Int
  High : Int
  deriving DecidableEq

structure STravel where
  Out : SSpan
  In : SSpan
  deriving DecidableEq

structure SPlant where
  Travels : (List STravel)
  deriving DecidableEq

structure SSlot where
  Begin : SSpan
  Moved : SSpan
  End : SSpan
  deriving DecidableEq

structure SboundsError where
  f_x : Int
  f_y : Int
  f_signed : Bool
  f_code : Int
  deriving DecidableEq

structure SerrorAddressString where
  f_msg : (List UInt8)
  f_addr : Int
  deriving DecidableEq


/-- pneumatic/pneumaticlaw17.Press: given -/
def m44  : Option SSequence := some ⟨2, [⟨[⟨0, true⟩, ⟨1, true⟩], 0⟩, ⟨[⟨0, false⟩], 100⟩, ⟨[⟨1, false⟩], 0⟩]⟩

/-- pneumatic/pneumaticref14.Few -/
def m43 (a0 : SSequence) : Option Bool :=
  (bif (decide ((a0.Steps.length : Int) > 128)) then some false else (iter (fun s2 : Int => ((bif (decide (s2 < (a0.Steps.length : Int))) then (idx a0.Steps s2).bind fun v5 => (bif (decide ((v5.Strokes.length : Int) > 40)) then some (.inr (.inr false)) else some (.inl (addI .i64 s2 1))) else some (.inr (.inl ()))) : Option ((Int) ⊕ ((Unit) ⊕ Bool)))) 0).bind (Sum.elim (fun w3 => some true) some))

/-- pneumatic/pneumaticref13.Actuator -/
def m85 (a0 : Int) : Option Bool :=
  some ((decide (a0 ≥ 0)) && (decide (a0 < 6)))

/-- pneumatic/pneumaticref03.Time -/
def m74 (a0 : Int) : Option Bool :=
  some ((decide (a0 ≥ 0)) && (decide (a0 ≤ 1000000)))

/-- pneumatic/pneumaticref13.CheckStep -/
def m81 (a0 : SStep) : Option Int :=
  (bif ((a0.Strokes.length : Int) == 0) then some 13 else (bif (decide ((a0.Strokes.length : Int) > 6)) then some 5 else (iter (fun s3 : Int => ((bif (decide (s3 < (a0.Strokes.length : Int))) then (idx a0.Strokes s3).bind fun v6 => (m85 v6.Actuator).bind fun v7 => (bif (!v7) then some (.inr (.inr 2)) else ((bif (decide (s3 > 0)) then (idx a0.Strokes s3).bind fun v11 => (idx a0.Strokes (subI .i64 s3 1)).bind fun v12 => some (v11.Actuator == v12.Actuator) else some false) : Option (Bool)).bind fun w9 => (bif w9 then some (.inr (.inr 7)) else ((bif (decide (s3 > 0)) then (idx a0.Strokes s3).bind fun v16 => (idx a0.Strokes (subI .i64 s3 1)).bind fun v17 => some (decide (v16.Actuator < v17.Actuator)) else some false) : Option (Bool)).bind fun w14 => (bif w14 then some (.inr (.inr 9)) else some (.inl (addI .i64 s3 1))))) else some (.inr (.inl ()))) : Option ((Int) ⊕ ((Unit) ⊕ Int)))) 0).bind (Sum.elim (fun w4 => (m74 a0.Wait).bind fun v19 => (bif (!v19) then some 2 else some 0)) some)))

/-- pneumatic/pneumaticref13.Suits -/
def m82 (a0 : SStep) (a1 : (List Bool)) : Option Bool :=
  (iter (fun s1 : Int => ((bif (decide (s1 < (a0.Strokes.length : Int))) then (idx a0.Strokes s1).bind fun v4 => ((bif (decide (v4.Actuator ≥ (a1.length : Int))) then some true else (idx a1 v4.Actuator).bind fun v7 => some ((v7 == v4.Out) != false)) : Option (Bool)).bind fun w5 => (bif w5 then some (.inr (.inr false)) else some (.inl (addI .i64 s1 1))) else some (.inr (.inl ()))) : Option ((Int) ⊕ ((Unit) ⊕ Bool)))) 0).bind (Sum.elim (fun w2 => some true) some)

/-- pneumatic/pneumaticref13.After -/
def m83 (a0 : SStep) (a1 : (List Bool)) : Option (List Bool) :=
  (appc 1 ([] : List Bool) a1).bind fun l1 => (iter (fun s2 : (List Bool) × Int => ((bif (decide (s2.2 < (a0.Strokes.length : Int))) then (idx a0.Strokes s2.2).bind fun v5 => (idx a0.Strokes s2.2).bind fun v6 => (idx s2.1 v5.Actuator).bind fun v7 => some (.inl ((s2.1.set v5.Actuator.toNat v6.Out), (addI .i64 s2.2 1))) else some (.inr s2.1)) : Option (((List Bool) × Int) ⊕ ((List Bool))))) (l1, 0)).bind fun w3 => some w3

/-- pneumatic/pneumaticref14.steps -/
def m68 (a0 : SSequence) : Option Int :=
  (mkc 1 a0.Actuators false).bind fun l1 => (iter (fun s2 : (List Bool) × Int => ((bif (decide (s2.2 < (a0.Steps.length : Int))) then (idx a0.Steps s2.2).bind fun v5 => (m81 v5).bind fun v6 => (bif (v6 != 0) then some (.inr (.inr v6)) else (iter (fun s8 : Int => ((bif (decide (s8 < (v5.Strokes.length : Int))) then (idx v5.Strokes s8).bind fun v11 => (bif (decide (v11.Actuator ≥ a0.Actuators)) then some (.inr (.inr (.inr (.inr 6)))) else some (.inl (addI .i64 s8 1))) else some (.inr (.inl ()))) : Option ((Int) ⊕ ((Unit) ⊕ (((List Bool) × Int) ⊕ (((List Bool)) ⊕ Int)))))) 0).bind (Sum.elim (fun w9 => (m82 v5 s2.1).bind fun v13 => (bif (!v13) then some (.inr (.inr 14)) else (m83 v5 s2.1).bind fun v15 => some (.inl (v15, (addI .i64 s2.2 1))))) some)) else some (.inr (.inl s2.1))) : Option (((List Bool) × Int) ⊕ (((List Bool)) ⊕ Int)))) (l1, 0)).bind (Sum.elim (fun w3 => (iter (fun s16 : Int => ((bif (decide (s16 < a0.Actuators)) then (idx w3 s16).bind fun v19 => (bif v19 then some (.inr (.inr 9)) else some (.inl (addI .i64 s16 1))) else some (.inr (.inl ()))) : Option ((Int) ⊕ ((Unit) ⊕ Int)))) 0).bind (Sum.elim (fun w17 => some 0) some)) some)

/-- pneumatic/pneumaticref13.Way -/
def m78 (a0 : SStep) (a1 : Int) : Option Int :=
  (iter (fun s1 : Int => ((bif (decide (s1 < (a0.Strokes.length : Int))) then (idx a0.Strokes s1).bind fun v4 => (bif (v4.Actuator == a1) then (idx a0.Strokes s1).bind fun v6 => (bif v6.Out then some (.inr (.inr 1)) else some (.inr (.inr (-1)))) else some (.inl (addI .i64 s1 1))) else some (.inr (.inl ()))) : Option ((Int) ⊕ ((Unit) ⊕ Int)))) 0).bind (Sum.elim (fun w2 => some 0) some)

/-- pneumatic/pneumaticref14.moves -/
def m69 (a0 : SSequence) (a1 : Int) : Option Bool :=
  (iter (fun s1 : Int => ((bif (decide (s1 < (a0.Steps.length : Int))) then (idx a0.Steps s1).bind fun v4 => (m78 v4 a1).bind fun v5 => (bif (v5 != 0) then some (.inr (.inr true)) else some (.inl (addI .i64 s1 1))) else some (.inr (.inl ()))) : Option ((Int) ⊕ ((Unit) ⊕ Bool)))) 0).bind (Sum.elim (fun w2 => some false) some)

/-- pneumatic/pneumaticref14.Check -/
def m42 (a0 : SSequence) : Option Int :=
  (bif ((decide (a0.Actuators < 1)) || (decide (a0.Actuators > 6))) then some 2 else (bif ((a0.Steps.length : Int) == 0) then some 13 else (bif (decide ((a0.Steps.length : Int) > 64)) then some 5 else (m68 a0).bind fun v6 => (bif (v6 != 0) then some v6 else (iter (fun s8 : Int => ((bif (decide (s8 < a0.Actuators)) then (m69 a0 s8).bind fun v11 => (bif (!v11) then some (.inr (.inr 13)) else some (.inl (addI .i64 s8 1))) else some (.inr (.inl ()))) : Option ((Int) ⊕ ((Unit) ⊕ Int)))) 0).bind (Sum.elim (fun w9 => some 0) some)))))

/-- pneumatic/pneumaticref17.Few -/
def m11 (a0 : SSequence) (a1 : SPlant) : Option Bool :=
  ((m43 a0).bind fun v2 => (bif v2 then (bif (decide ((a1.Travels.length : Int) ≤ 20)) then (bif (decide ((a0.Steps.length : Int) ≤ 12)) then some true else (m42 a0).bind fun v6 => some (v6 != 0)) else some false) else some false) : Option (Bool)).bind fun w1 => some w1

/-- pneumatic/pneumaticref03.Check -/
def m51 (a0 : SSpan) : Option Int :=
  ((m74 a0.Low).bind fun v2 => (bif (!v2) then some true else (m74 a0.High).bind fun v4 => some (!v4)) : Option (Bool)).bind fun w1 => (bif w1 then some 2 else (bif (decide (a0.Low > a0.High)) then some 9 else some 0))

/-- pneumatic/pneumaticref17.point -/
def m71 (a0 : Int) : Option SSpan :=
  some (⟨a0, a0⟩ : SSpan)

/-- pneumatic/pneumaticref17.Way -/
def m60 (a0 : SPlant) (a1 : SStroke) : Option SSpan :=
  (bif a1.Out then (idx a0.Travels a1.Actuator).bind fun v2 => some v2.Out else (idx a0.Travels a1.Actuator).bind fun v3 => some v3.In)

/-- pneumatic/pneumaticref03.Plus -/
def m59 (a0 : SSpan) (a1 : SSpan) : Option SSpan :=
  some (⟨(addI .i64 a0.Low a1.Low), (addI .i64 a0.High a1.High)⟩ : SSpan)

/-- pneumatic/pneumaticref03.Last -/
def m72 (a0 : SSpan) (a1 : SSpan) : Option SSpan :=
  some (⟨(maxI a0.Low a1.Low), (maxI a0.High a1.High)⟩ : SSpan)

/-- pneumatic/pneumaticref17.All -/
def m47 (a0 : SSequence) (a1 : SPlant) : Option (List SSlot) :=
  (m71 0).bind fun v1 => (iter (fun s2 : (List SSlot) × Int × Int × Int => ((bif (decide (s2.2.2.2 < (a0.Steps.length : Int))) then (idx a0.Steps s2.2.2.2).bind fun v5 => (iter (fun s6 : Int × Int × Int => ((bif (decide (s6.2.2 < (v5.Strokes.length : Int))) then (idx v5.Strokes s6.2.2).bind fun v9 => (m60 a1 v9).bind fun v10 => (m59 (⟨s2.2.1, s2.2.2.1⟩ : SSpan) v10).bind fun v11 => (m72 (⟨s6.1, s6.2.1⟩ : SSpan) v11).bind fun v12 => some (.inl (v12.Low, v12.High, (addI .i64 s6.2.2 1))) else some (.inr (s6.1, s6.2.1))) : Option ((Int × Int × Int) ⊕ (Int × Int)))) (s2.2.1, s2.2.2.1, 0)).bind fun w7 => (m71 v5.Wait).bind fun v13 => (m59 (⟨w7.1, w7.2⟩ : SSpan) v13).bind fun v14 => (appc 48 s2.1 ([(⟨(⟨s2.2.1, s2.2.2.1⟩ : SSpan), (⟨w7.1, w7.2⟩ : SSpan), v14⟩ : SSlot)] : List SSlot)).bind fun l15 => some (.inl (l15, v14.Low, v14.High, (addI .i64 s2.2.2.2 1))) else some (.inr (s2.1, s2.2.1, s2.2.2.1))) : Option (((List SSlot) × Int × Int × Int) ⊕ ((List SSlot) × Int × Int)))) (([] : List SSlot), v1.Low, v1.High, 0)).bind fun w3 => some w3.1

/-- pneumatic/pneumaticref17.Whole -/
def m49 (a0 : SSequence) (a1 : SPlant) : Option SSpan :=
  (m47 a0 a1).bind fun v1 => (idx v1 (subI .i64 (a0.Steps.length : Int) 1)).bind fun v2 => some v2.End

/-- pneumatic/pneumaticref17.Check -/
def m18 (a0 : SSequence) (a1 : SPlant) : Option Int :=
  (m42 a0).bind fun v1 => (bif (v1 != 0) then some v1 else (bif ((a1.Travels.length : Int) != a0.Actuators) then some 8 else (iter (fun s4 : Int => ((bif (decide (s4 < (a1.Travels.length : Int))) then (idx a1.Travels s4).bind fun v7 => (m51 v7.Out).bind fun v8 => (bif (v8 != 0) then some (.inr (.inr v8)) else (idx a1.Travels s4).bind fun v10 => (m51 v10.In).bind fun v11 => (bif (v11 != 0) then some (.inr (.inr v11)) else some (.inl (addI .i64 s4 1)))) else some (.inr (.inl ()))) : Option ((Int) ⊕ ((Unit) ⊕ Int)))) 0).bind (Sum.elim (fun w5 => (m49 a0 a1).bind fun v13 => (bif (decide (v13.High > 1000000)) then some 11 else some 0)) some)))

/-- pneumatic/pneumaticlaw17.right -/
def m25 (a0 : SSequence) (a1 : SPlant) : Option Bool :=
  ((m11 a0 a1).bind fun v2 => (bif v2 then (m18 a0 a1).bind fun v4 => some (v4 == 0) else some false) : Option (Bool)).bind fun w1 => some w1

/-- pneumatic/pneumaticlaw17.Travels -/
def m45  : Option SPlant :=
  some (⟨([(⟨(⟨200, 300⟩ : SSpan), (⟨150, 150⟩ : SSpan)⟩ : STravel), (⟨(⟨250, 250⟩ : SSpan), (⟨100, 400⟩ : SSpan)⟩ : STravel)] : List STravel)⟩ : SPlant)

/-- pneumatic/stroke.known -/
def m84 (a0 : Int) : Option Bool :=
  some ((decide (a0 ≥ 0)) && (decide (a0 < 6)))

/-- pneumatic/stroke.CheckStep -/
def m79 (a0 : SStep) : Option Int :=
  (bif ((a0.Strokes.length : Int) == 0) then some 13 else (bif (decide ((a0.Strokes.length : Int) > 6)) then some 5 else (iter (fun s3 : Int × Int => ((bif (decide (s3.1 < (a0.Strokes.length : Int))) then (idx a0.Strokes s3.1).bind fun v6 => (m84 v6.Actuator).bind fun v7 => (bif (!v7) then some (.inr (.inr 2)) else (bif (v6.Actuator == s3.2) then some (.inr (.inr 7)) else (bif (decide (v6.Actuator < s3.2)) then some (.inr (.inr 9)) else some (.inl ((addI .i64 s3.1 1), v6.Actuator))))) else some (.inr (.inl ()))) : Option ((Int × Int) ⊕ ((Unit) ⊕ Int)))) (0, (-1))).bind (Sum.elim (fun w4 => (bif ((decide (a0.Wait < 0)) || (decide (a0.Wait > 1000000))) then some 2 else some 0)) some)))

/-- pneumatic/sequence.fits -/
def m65 (a0 : SSequence) (a1 : SStep) (a2 : (Arr 6 Bool)) : Option Int :=
  (m79 a1).bind fun v1 => (bif (v1 != 0) then some v1 else (iter (fun s3 : Int => ((bif (decide (s3 < (a1.Strokes.length : Int))) then (idx a1.Strokes s3).bind fun v6 => (bif (decide (v6.Actuator ≥ a0.Actuators)) then some (.inr (.inr 6)) else some (.inl (addI .i64 s3 1))) else some (.inr (.inl ()))) : Option ((Int) ⊕ ((Unit) ⊕ Int)))) 0).bind (Sum.elim (fun w4 => (iter (fun s8 : Int => ((bif (decide (s8 < (a1.Strokes.length : Int))) then (idx a1.Strokes s8).bind fun v11 => (aidx a2 v11.Actuator).bind fun v12 => (bif ((v12 == v11.Out) != false) then some (.inr (.inr 14)) else some (.inl (addI .i64 s8 1))) else some (.inr (.inl ()))) : Option ((Int) ⊕ ((Unit) ⊕ Int)))) 0).bind (Sum.elim (fun w9 => some 0) some)) some))

/-- (pneumatic/sequence.ends).behind -/
def m66 (a0 : (Arr 6 Bool)) (a1 : SStep) : Option (Arr 6 Bool) :=
  (iter (fun s1 : (Arr 6 Bool) × Int => ((bif (decide (s1.2 < (a1.Strokes.length : Int))) then (idx a1.Strokes s1.2).bind fun v4 => (aidx s1.1 v4.Actuator).bind fun v5 => some (.inl ((s1.1.put v4.Actuator.toNat v4.Out), (addI .i64 s1.2 1))) else some (.inr s1.1)) : Option (((Arr 6 Bool) × Int) ⊕ ((Arr 6 Bool))))) (a0, 0)).bind fun w2 => some w2

/-- slices.Index[[]bool,bool] -/
def m80 (a0 : (List Bool)) (a1 : Bool) : Option Int :=
  (iter (fun s1 : Int => ((bif (decide (s1 < (a0.length : Int))) then (idx a0 s1).bind fun v4 => (bif ((a1 == v4) != false) then some (.inr (.inr s1)) else some (.inl (addI .i64 s1 1))) else some (.inr (.inl ()))) : Option ((Int) ⊕ ((Unit) ⊕ Int)))) 0).bind (Sum.elim (fun w2 => some (-1)) some)

/-- slices.Contains[[]bool,bool] -/
def m67 (a0 : (List Bool)) (a1 : Bool) : Option Bool :=
  (m80 a0 a1).bind fun v1 => some (decide (v1 ≥ 0))

/-- pneumatic/sequence.Check -/
def m41 (a0 : SSequence) : Option Int :=
  (bif ((decide (a0.Actuators < 1)) || (decide (a0.Actuators > 6))) then some 2 else (bif ((a0.Steps.length : Int) == 0) then some 13 else (bif (decide ((a0.Steps.length : Int) > 64)) then some 5 else (iter (fun s6 : (Arr 6 Bool) × (Arr 6 Bool) × Int => ((bif (decide (s6.2.2 < (a0.Steps.length : Int))) then (idx a0.Steps s6.2.2).bind fun v9 => (m65 a0 v9 s6.1).bind fun v10 => (bif (v10 != 0) then some (.inr (.inr v10)) else (m66 s6.1 v9).bind fun v12 => (iter (fun s13 : (Arr 6 Bool) × Int => ((bif (decide (s13.2 < (v9.Strokes.length : Int))) then (idx v9.Strokes s13.2).bind fun v16 => (aidx s13.1 v16.Actuator).bind fun v17 => some (.inl ((s13.1.put v16.Actuator.toNat true), (addI .i64 s13.2 1))) else some (.inr s13.1)) : Option (((Arr 6 Bool) × Int) ⊕ ((Arr 6 Bool))))) (s6.2.1, 0)).bind fun w14 => some (.inl (v12, w14, (addI .i64 s6.2.2 1)))) else some (.inr (.inl (s6.1, s6.2.1)))) : Option (((Arr 6 Bool) × (Arr 6 Bool) × Int) ⊕ (((Arr 6 Bool) × (Arr 6 Bool)) ⊕ Int)))) ((Arr.rep 6 false), (Arr.rep 6 false), 0)).bind (Sum.elim (fun w7 => (bif ((w7.1.1 == (Arr.rep 6 false).1) != true) then some 9 else (slcc w7.2.1 none (some a0.Actuators)).bind fun v19 => (m67 v19 false).bind fun v20 => (bif v20 then some 13 else some 0))) some))))

/-- pneumatic/timespan.timely -/
def m73 (a0 : Int) : Option Bool :=
  some ((decide (a0 ≥ 0)) && (decide (a0 ≤ 1000000)))

/-- pneumatic/timespan.Check -/
def m50 (a0 : SSpan) : Option Int :=
  ((m73 a0.Low).bind fun v2 => (bif (!v2) then some true else (m73 a0.High).bind fun v4 => some (!v4)) : Option (Bool)).bind fun w1 => (bif w1 then some 2 else (bif (decide (a0.Low > a0.High)) then some 9 else some 0))

/-- pneumatic/schedule.slots -/
def m46 (a0 : SSequence) (a1 : SPlant) : Option (Int × (List SStep) × (List STravel)) :=
  some (a0.Actuators, a0.Steps, a1.Travels)

/-- pneumatic/schedule.way -/
def m55 (a0 : SPlant) (a1 : SStroke) : Option SSpan :=
  (idx a0.Travels a1.Actuator).bind fun v3 => (idx ([(v3.In.Low, v3.In.High), (v3.Out.Low, v3.Out.High)] : List (Int × Int)) (bif a1.Out then 1 else 0)).bind fun v4 => some (⟨v4.1, v4.2⟩ : SSpan)

/-- pneumatic/schedule.moves$1 -/
def m76 (a0 : SStroke) (a1 : (List STravel)) : Option Int :=
  (m55 (⟨a1⟩ : SPlant) a0).bind fun v1 => some v1.Low

/-- pneumatic/schedule.most[pneumatic/api.Stroke] -/
def m75_76 (a0 : (List SStroke)) (a1 : (List STravel)) : Option Int :=
  (iter (fun s1 : Int × Int => ((bif (decide (s1.1 < (a0.length : Int))) then (idx a0 s1.1).bind fun v4 => (m76 v4 a1).bind fun v5 => some (.inl ((addI .i64 s1.1 1), (maxI s1.2 v5))) else some (.inr s1.2)) : Option ((Int × Int) ⊕ (Int)))) (0, 0)).bind fun w2 => some w2

/-- pneumatic/schedule.moves$2 -/
def m77 (a0 : SStroke) (a1 : (List STravel)) : Option Int :=
  (m55 (⟨a1⟩ : SPlant) a0).bind fun v1 => some v1.High

/-- pneumatic/schedule.most[pneumatic/api.Stroke] -/
def m75_77 (a0 : (List SStroke)) (a1 : (List STravel)) : Option Int :=
  (iter (fun s1 : Int × Int => ((bif (decide (s1.1 < (a0.length : Int))) then (idx a0 s1.1).bind fun v4 => (m77 v4 a1).bind fun v5 => some (.inl ((addI .i64 s1.1 1), (maxI s1.2 v5))) else some (.inr s1.2)) : Option ((Int × Int) ⊕ (Int)))) (0, 0)).bind fun w2 => some w2

/-- pneumatic/schedule.moves -/
def m57 (a0 : SPlant) (a1 : SStep) : Option SSpan :=
  (m75_76 a1.Strokes a0.Travels).bind fun v1 => (m75_77 a1.Strokes a0.Travels).bind fun v2 => some (⟨v1, v2⟩ : SSpan)

/-- pneumatic/schedule.later -/
def m54 (a0 : SSpan) (a1 : SSpan) : Option SSpan :=
  some (⟨(addI .i64 a0.Low a1.Low), (addI .i64 a0.High a1.High)⟩ : SSpan)

/-- pneumatic/schedule.waited -/
def m56 (a0 : SSpan) (a1 : Int) : Option SSpan :=
  (m54 a0 (⟨a1, a1⟩ : SSpan)).bind fun v1 => some v1

/-- what schedule.slots yields -/
def glgo70 (p : List STravel) : List SStep → Nat → SSpan → Option (List (Int × SSlot))
  | [], _, _ => some []
  | x :: r, k, now => (m57 ⟨p⟩ x).bind fun mv => (m54 now mv).bind fun moved => (m56 moved x.Wait).bind fun e => (glgo70 p r (k + 1) e).map fun ys => ((k : Int), ⟨now, moved, e⟩) :: ys
def gl70 (_ : Int) (l : List SStep) (p : List STravel) : Option (List (Int × SSlot)) := bif decide (l.length < 4611686018427387904) then glgo70 p l 0 ⟨0, 0⟩ else none

/-- pneumatic/schedule.whole -/
def m48 (a0 : SSequence) (a1 : SPlant) : Option SSpan :=
  (m46 a0 a1).bind fun v1 => (gl70 v1.1 v1.2.1 v1.2.2).bind fun y2 => (iterb (fun (s3 : Int × Int) (x4 : (Int × SSlot)) => (some (.inl (x4.2.End.Low, x4.2.End.High)) : Option ((Int × Int) ⊕ ((Int × Int) ⊕ SSpan)))) (fun s3 : Int × Int => (s3.1, s3.2)) y2 (0, 0)).bind (Sum.elim (fun w5 => some (⟨w5.1, w5.2⟩ : SSpan)) some)

/-- pneumatic/schedule.Check -/
def m17 (a0 : SSequence) (a1 : SPlant) : Option Int :=
  (m41 a0).bind fun v1 => (bif (v1 != 0) then some v1 else (bif ((a1.Travels.length : Int) != a0.Actuators) then some 8 else (iter (fun s4 : Int => ((bif (decide (s4 < (a1.Travels.length : Int))) then (idx a1.Travels s4).bind fun v7 => (iter (fun s8 : Int => ((bif (decide (s8 < (2 : Int))) then (idx ([v7.Out, v7.In] : List SSpan) s8).bind fun v11 => (m50 v11).bind fun v12 => (bif (v12 != 0) then some (.inr (.inr (.inr (.inr v12)))) else some (.inl (addI .i64 s8 1))) else some (.inr (.inl ()))) : Option ((Int) ⊕ ((Unit) ⊕ ((Int) ⊕ ((Unit) ⊕ Int)))))) 0).bind (Sum.elim (fun w9 => some (.inl (addI .i64 s4 1))) some) else some (.inr (.inl ()))) : Option ((Int) ⊕ ((Unit) ⊕ Int)))) 0).bind (Sum.elim (fun w5 => (m48 a0 a1).bind fun v14 => (bif (decide (v14.High > 1000000)) then some 11 else some 0)) some)))

/-- pneumatic/schedule.Slots -/
def m13 (a0 : SSequence) (a1 : SPlant) : Option ((List SSlot) × Int) :=
  (m17 a0 a1).bind fun v1 => (bif (v1 != 0) then some (([] : List SSlot), v1) else (m46 a0 a1).bind fun v3 => (gl70 v3.1 v3.2.1 v3.2.2).bind fun y4 => (iterb (fun (s5 : (List SSlot)) (x6 : (Int × SSlot)) => ((appc 48 s5 ([x6.2] : List SSlot)).bind fun l8 => some (.inl l8) : Option (((List SSlot)) ⊕ (((List SSlot)) ⊕ ((List SSlot) × Int))))) (fun s5 : (List SSlot) => s5) y4 ([] : List SSlot)).bind (Sum.elim (fun w7 => some (w7, 0)) some))

/-- pneumatic/schedule.Cycle -/
def m15 (a0 : SSequence) (a1 : SPlant) : Option (SSpan × Int) :=
  (m17 a0 a1).bind fun v1 => (bif (v1 != 0) then some ((⟨0, 0⟩ : SSpan), v1) else (m48 a0 a1).bind fun v3 => some (v3, 0))

/-- pneumatic/schedule.Last -/
def m30 (a0 : SSequence) (a1 : SPlant) (a2 : Int) : Option ((List Int) × Int) :=
  (m17 a0 a1).bind fun v1 => (bif (v1 != 0) then some (([] : List Int), v1) else (bif ((decide (a2 < 0)) || (decide (a2 ≥ (a0.Steps.length : Int)))) then some (([] : List Int), 2) else (idx a0.Steps a2).bind fun v6 => (iter (fun s7 : (List Int) × Int => ((bif (decide (s7.2 < (v6.Strokes.length : Int))) then (idx v6.Strokes s7.2).bind fun v10 => (m55 a1 v10).bind fun v11 => (idx a0.Steps a2).bind fun v12 => (m57 a1 v12).bind fun v13 => ((bif (decide (v11.High ≥ v13.Low)) then (appc 8 s7.1 ([s7.2] : List Int)).bind fun l16 => some l16 else some s7.1) : Option ((List Int))).bind fun w14 => some (.inl (w14, (addI .i64 s7.2 1))) else some (.inr s7.1)) : Option (((List Int) × Int) ⊕ ((List Int))))) (([] : List Int), 0)).bind fun w8 => some (w8, 0)))

/-- pneumatic/schedule.Busy$1 -/
def m53 (a0 : SStroke) (a1 : Int) : Option Bool :=
  some (a0.Actuator == a1)

/-- slices.IndexFunc[[]pneumatic/api.Stroke,pneumatic/api.Stroke] -/
def m52_53 (a0 : (List SStroke)) (a1 : Int) : Option Int :=
  (iter (fun s1 : Int => ((bif (decide (s1 < (a0.length : Int))) then (idx a0 s1).bind fun v4 => (m53 v4 a1).bind fun v5 => (bif v5 then some (.inr (.inr s1)) else some (.inl (addI .i64 s1 1))) else some (.inr (.inl ()))) : Option ((Int) ⊕ ((Unit) ⊕ Int)))) 0).bind (Sum.elim (fun w2 => some (-1)) some)

/-- pneumatic/schedule.Busy -/
def m21 (a0 : SSequence) (a1 : SPlant) (a2 : Int) : Option (SSpan × Int) :=
  (m17 a0 a1).bind fun v1 => (bif (v1 != 0) then some ((⟨0, 0⟩ : SSpan), v1) else (bif ((decide (a2 < 0)) || (decide (a2 ≥ a0.Actuators))) then some ((⟨0, 0⟩ : SSpan), 2) else (iter (fun s6 : Int × Int × Bool × Int => ((bif (decide (s6.2.2.2 < (a0.Steps.length : Int))) then (idx a0.Steps s6.2.2.2).bind fun v9 => (m52_53 v9.Strokes a2).bind fun v10 => ((bif (decide (v10 ≥ 0)) then (idx v9.Strokes v10).bind fun v13 => some v13.Out else some s6.2.2.1) : Option (Bool)).bind fun w11 => ((bif ((decide (v10 ≥ 0)) && (!w11)) then (idx v9.Strokes v10).bind fun v18 => (m55 a1 v18).bind fun v19 => (m54 (⟨s6.1, s6.2.1⟩ : SSpan) v19).bind fun v20 => some (v20.Low, v20.High) else ((bif w11 then (m57 a1 v9).bind fun v23 => (m54 (⟨s6.1, s6.2.1⟩ : SSpan) v23).bind fun v24 => (m56 v24 v9.Wait).bind fun v25 => some (v25.Low, v25.High) else some (s6.1, s6.2.1)) : Option (Int × Int)).bind fun w21 => some (w21.1, w21.2)) : Option (Int × Int)).bind fun w16 => some (.inl (w16.1, w16.2, w11, (addI .i64 s6.2.2.2 1))) else some (.inr (s6.1, s6.2.1))) : Option ((Int × Int × Bool × Int) ⊕ (Int × Int)))) (0, 0, false, 0)).bind fun w7 => some ((⟨w7.1, w7.2⟩ : SSpan), 0)))

/-- pneumatic/schedule.Meets -/
def m23 (a0 : SSequence) (a1 : SPlant) (a2 : Int) : Option (Bool × Bool × Int) :=
  (m17 a0 a1).bind fun v1 => (bif (v1 != 0) then some (false, false, v1) else (bif ((decide (a2 < 0)) || (decide (a2 > 1000000))) then some (false, false, 2) else (m48 a0 a1).bind fun v6 => some ((decide (v6.High ≤ a2)), (decide (v6.Low ≤ a2)), 0)))

/-- slices.Equal[[]int,int] -/
def m32 (a0 : (List Int)) (a1 : (List Int)) : Option Bool :=
  (bif ((a0.length : Int) != (a1.length : Int)) then some false else (iter (fun s2 : Int => ((bif (decide (s2 < (a0.length : Int))) then (idx a0 s2).bind fun v5 => (idx a1 s2).bind fun v6 => (bif (v5 != v6) then some (.inr (.inr false)) else some (.inl (addI .i64 s2 1))) else some (.inr (.inl ()))) : Option ((Int) ⊕ ((Unit) ⊕ Bool)))) 0).bind (Sum.elim (fun w3 => some true) some))

/-- pneumatic/pneumaticlaw17.awake -/
def m12  : Option Bool :=
  (m44).bind fun v1 => (m45).bind fun v2 => (m13 v1 v2).bind fun v3 => (m44).bind fun v4 => (m45).bind fun v5 => (m15 v4 v5).bind fun v6 => (m44).bind fun v7 => (m45).bind fun v8 => (m30 v7 v8 0).bind fun v9 => (m44).bind fun v10 => (m45).bind fun v11 => (m21 v10 v11 0).bind fun v12 => (m44).bind fun v13 => (m45).bind fun v14 => (m21 v13 v14 1).bind fun v15 => (m44).bind fun v16 => (m45).bind fun v17 => (m23 v16 v17 600).bind fun v18 => (bif (((addI .i64 (addI .i64 (addI .i64 (addI .i64 (addI .i64 v3.2 v6.2) v9.2) v12.2) v15.2) v18.2.2) != 0) || (((v3.1.length : Int) != 3) || (v18.1 || (!v18.2.1)))) then some false else ((idx v3.1 0).bind fun v25 => (bif ((v25.End.Low == 250 && (v25.End.High == 300 && true)) != false) then (idx v3.1 1).bind fun v27 => (bif ((v27.Moved.Low == 400 && (v27.Moved.High == 450 && true)) != false) then (idx v3.1 1).bind fun v29 => (bif ((v29.End.Low == 500 && (v29.End.High == 550 && true)) != false) then (bif ((v6.1.Low == 600 && (v6.1.High == 950 && true)) != false) then (m32 v9.1 ([0, 1] : List Int)).bind fun v32 => (bif v32 then (bif ((v12.1.Low == 400 && (v12.1.High == 450 && true)) != false) then some ((v15.1.Low == v6.1.Low && (v15.1.High == v6.1.High && true)) != false) else some false) else some false) else some false) else some false) else some false) else some false) : Option (Bool)).bind fun w24 => some w24)

/-- slices.Concat[[]pneumatic/api.Step,pneumatic/api.Step] -/
def m40 (a0 : (List (List SStep))) : Option (List SStep) :=
  (iter (fun s1 : Int × Int => ((bif (decide (s1.1 < (a0.length : Int))) then (idx a0 s1.1).bind fun v4 => (bif (decide ((addI .i64 s1.2 (v4.length : Int)) < 0)) then none else some (.inl ((addI .i64 s1.1 1), (addI .i64 s1.2 (v4.length : Int))))) else some (.inr s1.2)) : Option ((Int × Int) ⊕ (Int)))) (0, 0)).bind fun w2 => (bif (decide (w2 < 0)) then none else (bif (decide ((subI .i64 w2 (subI .i64 0 0)) > 0)) then (mkc1 32 (subI .i64 w2 (subI .i64 0 0)) ()).bind fun l8 => (iter (fun s10 : (List SStep) × Int => ((bif (decide (s10.2 < (a0.length : Int))) then (idx a0 s10.2).bind fun v13 => (appc 32 s10.1 v13).bind fun l14 => some (.inl (l14, (addI .i64 s10.2 1))) else some (.inr s10.1)) : Option (((List SStep) × Int) ⊕ ((List SStep))))) (([] : List SStep), 0)).bind fun w11 => some w11 else none))

/-- pneumatic/pneumaticlaw17.ScheduleAdds -/
def m10 (a0 : SSequence) (a1 : SSequence) (a2 : SPlant) : Option Bool :=
  ((m25 a0 a2).bind fun v2 => (bif (!v2) then some true else (m25 a1 a2).bind fun v4 => some (!v4)) : Option (Bool)).bind fun w1 => (bif w1 then (m12).bind fun v6 => some v6 else (m40 ([a0.Steps, a1.Steps] : List (List SStep))).bind fun v7 => ((m25 (⟨a0.Actuators, v7⟩ : SSequence) a2).bind fun v9 => (bif (!v9) then some true else (m41 (⟨a0.Actuators, v7⟩ : SSequence)).bind fun v11 => some (v11 != 0)) : Option (Bool)).bind fun w8 => (bif w8 then ((m12).bind fun v14 => (bif v14 then (m42 (⟨a0.Actuators, v7⟩ : SSequence)).bind fun v16 => (bif (v16 != 0) then some true else (m41 (⟨a0.Actuators, v7⟩ : SSequence)).bind fun v18 => some (v18 == 0)) else some false) : Option (Bool)).bind fun w13 => some w13 else (m15 a0 a2).bind fun v19 => (m15 a1 a2).bind fun v20 => (m15 (⟨a0.Actuators, v7⟩ : SSequence) a2).bind fun v21 => (bif (((addI .i64 (addI .i64 v19.2 v20.2) v21.2) != 0) || ((v21.1.Low != (addI .i64 v19.1.Low v20.1.Low)) || (v21.1.High != (addI .i64 v19.1.High v20.1.High)))) then some false else (iter (fun s26 : Int => ((bif (decide (s26 < a0.Actuators)) then (m21 a0 a2 s26).bind fun v29 => (m21 a1 a2 s26).bind fun v30 => (m21 (⟨a0.Actuators, v7⟩ : SSequence) a2 s26).bind fun v31 => (bif (((addI .i64 (addI .i64 v29.2 v30.2) v31.2) != 0) || ((v31.1.Low != (addI .i64 v29.1.Low v30.1.Low)) || ((v31.1.High != (addI .i64 v29.1.High v30.1.High)) || (decide (v31.1.High > v21.1.High))))) then some (.inr (.inr false)) else some (.inl (addI .i64 s26 1))) else some (.inr (.inl ()))) : Option ((Int) ⊕ ((Unit) ⊕ Bool)))) 0).bind (Sum.elim (fun w27 => (m12).bind fun v37 => some v37) some))))

end G17
