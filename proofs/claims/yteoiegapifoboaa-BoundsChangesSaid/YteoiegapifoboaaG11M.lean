/- Plain models of functions, printed by a program of mine (dec.py). No condition. -/
import Derived.Test.YteoiegapifoboaaAmP0
import Derived.Test.YteoiegapifoboaaG11u
namespace G11
open Go Go.Pl
set_option linter.unusedVariables false

structure SBounds where
  N : Int
  Most : (List (List Int))
  deriving DecidableEq

structure SSpan where
  Low : Int
  High : Int
  deriving DecidableEq

structure SChange where
  I : Int
  J : Int
  Most : Int
  Span : SSpan
  deriving DecidableEq

structure SboundsError where
  f_x : Int
  f_y : Int
  f_signed : Bool
  f_code : Int
  deriving DecidableEq

structure SerrorAddressString where
  f_msg : (List UInt8)
  f_addr : Int
  deriving DecidableEq


/-- pneumatic/pneumaticlaw11.awake: given -/
def m13  : Option Bool := some true

/-- pneumatic/bounds.New: given -/
def m33 (a0 : Int) : Option (SBounds × Int) := bif (decide (a0 < 0) || decide (a0 > 12)) then some (⟨0, []⟩, 2) else some (⟨a0, matL (a0 + 1).toNat freeM⟩, 0)

/-- pneumatic/pneumaticref11.New: given -/
def m34 (a0 : Int) : Option (SBounds × Int) := bif (decide (a0 < 0) || decide (a0 > 12)) then some (⟨0, []⟩, 2) else some (⟨a0, matL (a0 + 1).toNat freeM⟩, 0)

/-- pneumatic/bounds.inside -/
def m67 (a0 : Int) : Option Bool :=
  some ((decide (a0 ≥ (-64000000))) && (decide (a0 ≤ 64000000)))

/-- pneumatic/bounds.Check -/
def m32 (a0 : SBounds) : Option Int :=
  (bif ((decide (a0.N < 0)) || (decide (a0.N > 12))) then some 2 else (bif ((a0.Most.length : Int) != (addI .i64 a0.N 1)) then some 8 else (iter (fun s5 : Int => ((bif (decide (s5 < (a0.Most.length : Int))) then (idx a0.Most s5).bind fun v8 => (bif ((v8.length : Int) != (addI .i64 a0.N 1)) then some (.inr (.inr 8)) else some (.inl (addI .i64 s5 1))) else some (.inr (.inl ()))) : Option ((Int) ⊕ ((Unit) ⊕ Int)))) 0).bind (Sum.elim (fun w6 => (iter (fun s10 : Int => ((bif (decide (s10 < (a0.Most.length : Int))) then (idx a0.Most s10).bind fun v13 => (iter (fun s14 : Int => ((bif (decide (s14 < (v13.length : Int))) then (idx v13 s14).bind fun v17 => ((bif (v17 != (-1099511627776)) then (m67 v17).bind fun v20 => some (!v20) else some false) : Option (Bool)).bind fun w18 => (bif w18 then some (.inr (.inr (.inr (.inr 2)))) else (bif ((s10 == s14) && (v17 != 0)) then some (.inr (.inr (.inr (.inr 3)))) else some (.inl (addI .i64 s14 1)))) else some (.inr (.inl ()))) : Option ((Int) ⊕ ((Unit) ⊕ ((Int) ⊕ ((Unit) ⊕ Int)))))) 0).bind (Sum.elim (fun w15 => some (.inl (addI .i64 s10 1))) some) else some (.inr (.inl ()))) : Option ((Int) ⊕ ((Unit) ⊕ Int)))) 0).bind (Sum.elim (fun w11 => some 0) some)) some)))

/-- pneumatic/bounds.Add: given -/
def m35 (a0 : SBounds) (a1 : Int) (a2 : Int) (a3 : Int) : Option (SBounds × Int) := (m32 a0).bind fun c => bif (c != 0) then some (⟨0, []⟩, c) else (bif (decide (a1 < 0) || decide (a1 > a0.N) || decide (a2 < 0) || decide (a2 > a0.N)) then some (⟨0, []⟩, 2) else (bif (a1 == a2) then some (⟨0, []⟩, 1) else (bif !(decide (a3 ≥ (-64000000)) && decide (a3 ≤ 64000000)) then some (⟨0, []⟩, 2) else (bif decide (a0.N > 6) then none else some (⟨a0.N, addL a0.Most a0.Most.length a1.toNat a2.toNat a3⟩, 0)))))

/-- pneumatic/bounds.Shift: given -/
def m25 (a0 : SBounds) (a1 : Int) : Option (SBounds × Int) := (m32 a0).bind fun c => bif (c != 0) then some (⟨0, []⟩, c) else (bif (decide (a1 < 1) || decide (a1 > a0.N)) then some (⟨0, []⟩, 2) else (bif decide (a0.N > 6) then none else some (match solve a0.Most with | .inl _ => (⟨0, []⟩, 16) | .inr d => (bif big (shiftL d a0.Most.length a1.toNat) then (⟨0, []⟩, 11) else (⟨a0.N - 1, shiftL d a0.Most.length a1.toNat⟩, 0)))))

/-- pneumatic/bounds.Witness: given -/
def m20 (a0 : SBounds) : Option ((List Int) × Int) := (m32 a0).bind fun c => bif (c != 0) then some ([], c) else (bif decide (a0.N > 6) then none else some (match solve a0.Most with | .inl _ => ([], 16) | .inr d => wit d a0.Most.length))

/-- pneumatic/bounds.Extent: given -/
def m18 (a0 : SBounds) (a1 : Int) : Option (Int × Int × Int) := (m32 a0).bind fun c => bif (c != 0) then some (0, 0, c) else (bif (decide (a1 < 0) || decide (a1 > a0.N)) then some (0, 0, 2) else (bif decide (a0.N > 6) then none else some (match solve a0.Most with | .inl _ => (0, 0, 16) | .inr d => (neg1 (ent d a1.toNat 0), ent d 0 a1.toNat, 0))))

/-- pneumatic/bounds.Close: given -/
def m14 (a0 : SBounds) : Option (SBounds × (List Int) × Bool × Int) := (m32 a0).bind fun c => bif (c != 0) then some (⟨0, []⟩, [], false, c) else (bif decide (a0.N > 6) then none else some (match solve a0.Most with | .inl c => (⟨0, []⟩, c, false, 0) | .inr d => (bif big d then (⟨0, []⟩, [], false, 11) else (⟨a0.N, d⟩, [], true, 0))))

/-- pneumatic/pneumaticref11.In -/
def m65 (a0 : Int) : Option Bool :=
  some ((decide (a0 ≥ (-64000000))) && (decide (a0 ≤ 64000000)))

/-- pneumatic/pneumaticref11.Check -/
def m28 (a0 : SBounds) : Option Int :=
  (bif ((decide (a0.N < 0)) || (decide (a0.N > 12))) then some 2 else (bif ((a0.Most.length : Int) != (addI .i64 a0.N 1)) then some 8 else (iter (fun s5 : Int => ((bif (decide (s5 < (a0.Most.length : Int))) then (idx a0.Most s5).bind fun v8 => (bif ((v8.length : Int) != (addI .i64 a0.N 1)) then some (.inr (.inr 8)) else some (.inl (addI .i64 s5 1))) else some (.inr (.inl ()))) : Option ((Int) ⊕ ((Unit) ⊕ Int)))) 0).bind (Sum.elim (fun w6 => (iter (fun s10 : Int => ((bif (decide (s10 ≤ a0.N)) then (iter (fun s13 : Int => ((bif (decide (s13 ≤ a0.N)) then (idx a0.Most s10).bind fun v16 => (idx v16 s13).bind fun v17 => ((bif (v17 != (-1099511627776)) then (m65 v17).bind fun v20 => some (!v20) else some false) : Option (Bool)).bind fun w18 => (bif w18 then some (.inr (.inr (.inr (.inr 2)))) else ((bif (s10 == s13) then (idx a0.Most s10).bind fun v24 => (idx v24 s13).bind fun v25 => some (v25 != 0) else some false) : Option (Bool)).bind fun w22 => (bif w22 then some (.inr (.inr (.inr (.inr 3)))) else some (.inl (addI .i64 s13 1)))) else some (.inr (.inl ()))) : Option ((Int) ⊕ ((Unit) ⊕ ((Int) ⊕ ((Unit) ⊕ Int)))))) 0).bind (Sum.elim (fun w14 => some (.inl (addI .i64 s10 1))) some) else some (.inr (.inl ()))) : Option ((Int) ⊕ ((Unit) ⊕ Int)))) 0).bind (Sum.elim (fun w11 => some 0) some)) some)))

/-- pneumatic/pneumaticref11.Add: given -/
def m36 (a0 : SBounds) (a1 : Int) (a2 : Int) (a3 : Int) : Option (SBounds × Int) := (m28 a0).bind fun c => bif (c != 0) then some (⟨0, []⟩, c) else (bif (decide (a1 < 0) || decide (a1 > a0.N) || decide (a2 < 0) || decide (a2 > a0.N)) then some (⟨0, []⟩, 2) else (bif (a1 == a2) then some (⟨0, []⟩, 1) else (bif !(decide (a3 ≥ (-64000000)) && decide (a3 ≤ 64000000)) then some (⟨0, []⟩, 2) else (bif decide (a0.N > 6) then none else some (⟨a0.N, addL a0.Most a0.Most.length a1.toNat a2.toNat a3⟩, 0)))))

/-- pneumatic/pneumaticref11.Few -/
def m12 (a0 : SBounds) : Option Bool :=
  (bif (decide ((a0.Most.length : Int) > 50)) then some false else (iter (fun s2 : Int => ((bif (decide (s2 < (a0.Most.length : Int))) then (idx a0.Most s2).bind fun v5 => (bif (decide ((v5.length : Int) > 50)) then some (.inr (.inr false)) else some (.inl (addI .i64 s2 1))) else some (.inr (.inl ()))) : Option ((Int) ⊕ ((Unit) ⊕ Bool)))) 0).bind (Sum.elim (fun w3 => ((bif (decide (a0.N ≤ 5)) then some true else (m28 a0).bind fun v9 => some (v9 != 0)) : Option (Bool)).bind fun w7 => some w7) some))

/-- pneumatic/pneumaticref11.Less -/
def m84 (a0 : Int) (a1 : Int) : Option Bool :=
  some ((a0 != (-1099511627776)) && ((a1 == (-1099511627776)) || (decide (a0 < a1))))

/-- pneumatic/pneumaticref11.lesser -/
def m82 (a0 : Int) (a1 : Int) : Option Int :=
  (m84 a0 a1).bind fun v1 => (bif v1 then some a0 else some a1)

/-- pneumatic/pneumaticref11.Same -/
def m16 (a0 : SBounds) (a1 : SBounds) : Option Bool :=
  (bif ((a0.N != a1.N) || ((a0.Most.length : Int) != (a1.Most.length : Int))) then some false else (iter (fun s4 : Int => ((bif (decide (s4 < (a0.Most.length : Int))) then (idx a0.Most s4).bind fun v7 => (idx a1.Most s4).bind fun v8 => (bif ((v7.length : Int) != (v8.length : Int)) then some (.inr (.inr false)) else (iter (fun s10 : Int => ((idx a0.Most s4).bind fun v12 => (bif (decide (s10 < (v12.length : Int))) then (idx a0.Most s4).bind fun v14 => (idx v14 s10).bind fun v15 => (idx a1.Most s4).bind fun v16 => (idx v16 s10).bind fun v17 => (bif (v15 != v17) then some (.inr (.inr (.inr (.inr false)))) else some (.inl (addI .i64 s10 1))) else some (.inr (.inl ()))) : Option ((Int) ⊕ ((Unit) ⊕ ((Int) ⊕ ((Unit) ⊕ Bool)))))) 0).bind (Sum.elim (fun w11 => some (.inl (addI .i64 s4 1))) some)) else some (.inr (.inl ()))) : Option ((Int) ⊕ ((Unit) ⊕ Bool)))) 0).bind (Sum.elim (fun w5 => some true) some))

/-- pneumatic/pneumaticref11.index -/
def m52 (a0 : SBounds) (a1 : Int) : Option Bool :=
  some ((decide (a1 ≥ 0)) && (decide (a1 ≤ a0.N)))

/-- pneumatic/timespan.timely -/
def m93 (a0 : Int) : Option Bool :=
  some ((decide (a0 ≥ 0)) && (decide (a0 ≤ 1000000)))

/-- pneumatic/timespan.Check -/
def m73 (a0 : SSpan) : Option Int :=
  ((m93 a0.Low).bind fun v2 => (bif (!v2) then some true else (m93 a0.High).bind fun v4 => some (!v4)) : Option (Bool)).bind fun w1 => (bif w1 then some 2 else (bif (decide (a0.Low > a0.High)) then some 9 else some 0))

/-- pneumatic/bounds.Grow: given -/
def m37 (a0 : SBounds) (a1 : SSpan) : Option (SBounds × Int) := (m32 a0).bind fun c => bif (c != 0) then some (⟨0, []⟩, c) else (bif (a0.N == 12) then some (⟨0, []⟩, 5) else (m73 a1).bind fun e => bif (e != 0) then some (⟨0, []⟩, e) else (bif decide (a0.N > 6) then none else some (⟨a0.N + 1, growL a0.Most a0.Most.length a1.Low a1.High⟩, 0)))

/-- pneumatic/pneumaticref03.Time -/
def m94 (a0 : Int) : Option Bool :=
  some ((decide (a0 ≥ 0)) && (decide (a0 ≤ 1000000)))

/-- pneumatic/pneumaticref03.Check -/
def m75 (a0 : SSpan) : Option Int :=
  ((m94 a0.Low).bind fun v2 => (bif (!v2) then some true else (m94 a0.High).bind fun v4 => some (!v4)) : Option (Bool)).bind fun w1 => (bif w1 then some 2 else (bif (decide (a0.Low > a0.High)) then some 9 else some 0))

/-- pneumatic/pneumaticref11.Grow: given -/
def m38 (a0 : SBounds) (a1 : SSpan) : Option (SBounds × Int) := (m28 a0).bind fun c => bif (c != 0) then some (⟨0, []⟩, c) else (bif (a0.N == 12) then some (⟨0, []⟩, 5) else (m75 a1).bind fun e => bif (e != 0) then some (⟨0, []⟩, e) else (bif decide (a0.N > 6) then none else some (⟨a0.N + 1, growL a0.Most a0.Most.length a1.Low a1.High⟩, 0)))

/-- pneumatic/pneumaticlaw11.BoundsChanges -/
def m8 (a0 : SBounds) (a1 : SChange) : Option Bool :=
  (m12 a0).bind fun v1 => (bif (!v1) then (m13).bind fun v3 => some v3 else (m33 a1.I).bind fun v4 => (m34 a1.I).bind fun v5 => (m35 a0 a1.I a1.J a1.Most).bind fun v6 => (m36 a0 a1.I a1.J a1.Most).bind fun v7 => (m37 a0 a1.Span).bind fun v8 => (m38 a0 a1.Span).bind fun v9 => ((m13).bind fun v11 => (bif v11 then (m16 v4.1 v5.1).bind fun v13 => (bif v13 then (bif (v4.2 == v5.2) then (m16 v6.1 v7.1).bind fun v16 => (bif v16 then (bif (v6.2 == v7.2) then (m16 v8.1 v9.1).bind fun v19 => (bif v19 then some (v8.2 == v9.2) else some false) else some false) else some false) else some false) else some false) else some false) : Option (Bool)).bind fun w10 => some w10)

end G11
