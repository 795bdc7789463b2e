/- Plain models of functions, printed by a program of mine (dec.py). No condition. -/
import Derived.Test.YteoiegapifoboaaAmP0
import Derived.Test.YteoiegapifoboaaG11u
namespace G11
open Go Go.Pl
set_option linter.unusedVariables false

structure SBounds where
  N : Int
  Most : (List (List Int))
  deriving DecidableEq

structure SSpan where
  Low : Int
  High : Int
  deriving DecidableEq

structure SChange where
  I : Int
  J : Int
  Most : Int
  Span : SSpan
  deriving DecidableEq

structure SboundsError where
  f_x : Int
  f_y : Int
  f_signed : Bool
  f_code : Int
  deriving DecidableEq

structure SerrorAddressString where
  f_msg : (List UInt8)
  f_addr : Int
  deriving DecidableEq


/-- pneumatic/pneumaticlaw11.awake: given -/
def m13  : Option Bool := some true

/-- pneumatic/bounds.inside -/
def m67 (a0 : Int) : Option Bool :=
  some ((decide (a0 ≥ (-64000000))) && (decide (a0 ≤ 64000000)))

/-- pneumatic/bounds.Check -/
def m32 (a0 : SBounds) : Option Int :=
  (bif ((decide (a0.N < 0)) || (decide (a0.N > 12))) then some 2 else (bif ((a0.Most.length : Int) != (addI .i64 a0.N 1)) then some 8 else (iter (fun s5 : Int => ((bif (decide (s5 < (a0.Most.length : Int))) then (idx a0.Most s5).bind fun v8 => (bif ((v8.length : Int) != (addI .i64 a0.N 1)) then some (.inr (.inr 8)) else some (.inl (addI .i64 s5 1))) else some (.inr (.inl ()))) : Option ((Int) ⊕ ((Unit) ⊕ Int)))) 0).bind (Sum.elim (fun w6 => (iter (fun s10 : Int => ((bif (decide (s10 < (a0.Most.length : Int))) then (idx a0.Most s10).bind fun v13 => (iter (fun s14 : Int => ((bif (decide (s14 < (v13.length : Int))) then (idx v13 s14).bind fun v17 => ((bif (v17 != (-1099511627776)) then (m67 v17).bind fun v20 => some (!v20) else some false) : Option (Bool)).bind fun w18 => (bif w18 then some (.inr (.inr (.inr (.inr 2)))) else (bif ((s10 == s14) && (v17 != 0)) then some (.inr (.inr (.inr (.inr 3)))) else some (.inl (addI .i64 s14 1)))) else some (.inr (.inl ()))) : Option ((Int) ⊕ ((Unit) ⊕ ((Int) ⊕ ((Unit) ⊕ Int)))))) 0).bind (Sum.elim (fun w15 => some (.inl (addI .i64 s10 1))) some) else some (.inr (.inl ()))) : Option ((Int) ⊕ ((Unit) ⊕ Int)))) 0).bind (Sum.elim (fun w11 => some 0) some)) some)))

/-- pneumatic/bounds.Shift: given -/
def m25 (a0 : SBounds) (a1 : Int) : Option (SBounds × Int) := (m32 a0).bind fun c => bif (c != 0) then some (⟨0, []⟩, c) else (bif (decide (a1 < 1) || decide (a1 > a0.N)) then some (⟨0, []⟩, 2) else (bif decide (a0.N > 6) then none else some (match solve a0.Most with | .inl _ => (⟨0, []⟩, 16) | .inr d => (bif big (shiftL d a0.Most.length a1.toNat) then (⟨0, []⟩, 11) else (⟨a0.N - 1, shiftL d a0.Most.length a1.toNat⟩, 0)))))

/-- pneumatic/bounds.Witness: given -/
def m20 (a0 : SBounds) : Option ((List Int) × Int) := (m32 a0).bind fun c => bif (c != 0) then some ([], c) else (bif decide (a0.N > 6) then none else some (match solve a0.Most with | .inl _ => ([], 16) | .inr d => wit d a0.Most.length))

/-- pneumatic/bounds.Extent: given -/
def m18 (a0 : SBounds) (a1 : Int) : Option (Int × Int × Int) := (m32 a0).bind fun c => bif (c != 0) then some (0, 0, c) else (bif (decide (a1 < 0) || decide (a1 > a0.N)) then some (0, 0, 2) else (bif decide (a0.N > 6) then none else some (match solve a0.Most with | .inl _ => (0, 0, 16) | .inr d => (neg1 (ent d a1.toNat 0), ent d 0 a1.toNat, 0))))

/-- pneumatic/bounds.Close: given -/
def m14 (a0 : SBounds) : Option (SBounds × (List Int) × Bool × Int) := (m32 a0).bind fun c => bif (c != 0) then some (⟨0, []⟩, [], false, c) else (bif decide (a0.N > 6) then none else some (match solve a0.Most with | .inl c => (⟨0, []⟩, c, false, 0) | .inr d => (bif big d then (⟨0, []⟩, [], false, 11) else (⟨a0.N, d⟩, [], true, 0))))

/-- pneumatic/pneumaticref11.In -/
def m65 (a0 : Int) : Option Bool :=
  some ((decide (a0 ≥ (-64000000))) && (decide (a0 ≤ 64000000)))

/-- pneumatic/pneumaticref11.Check -/
def m28 (a0 : SBounds) : Option Int :=
  (bif ((decide (a0.N < 0)) || (decide (a0.N > 12))) then some 2 else (bif ((a0.Most.length : Int) != (addI .i64 a0.N 1)) then some 8 else (iter (fun s5 : Int => ((bif (decide (s5 < (a0.Most.length : Int))) then (idx a0.Most s5).bind fun v8 => (bif ((v8.length : Int) != (addI .i64 a0.N 1)) then some (.inr (.inr 8)) else some (.inl (addI .i64 s5 1))) else some (.inr (.inl ()))) : Option ((Int) ⊕ ((Unit) ⊕ Int)))) 0).bind (Sum.elim (fun w6 => (iter (fun s10 : Int => ((bif (decide (s10 ≤ a0.N)) then (iter (fun s13 : Int => ((bif (decide (s13 ≤ a0.N)) then (idx a0.Most s10).bind fun v16 => (idx v16 s13).bind fun v17 => ((bif (v17 != (-1099511627776)) then (m65 v17).bind fun v20 => some (!v20) else some false) : Option (Bool)).bind fun w18 => (bif w18 then some (.inr (.inr (.inr (.inr 2)))) else ((bif (s10 == s13) then (idx a0.Most s10).bind fun v24 => (idx v24 s13).bind fun v25 => some (v25 != 0) else some false) : Option (Bool)).bind fun w22 => (bif w22 then some (.inr (.inr (.inr (.inr 3)))) else some (.inl (addI .i64 s13 1)))) else some (.inr (.inl ()))) : Option ((Int) ⊕ ((Unit) ⊕ ((Int) ⊕ ((Unit) ⊕ Int)))))) 0).bind (Sum.elim (fun w14 => some (.inl (addI .i64 s10 1))) some) else some (.inr (.inl ()))) : Option ((Int) ⊕ ((Unit) ⊕ Int)))) 0).bind (Sum.elim (fun w11 => some 0) some)) some)))

/-- pneumatic/pneumaticlaw11.right$1$1 -/
def m64 (a0 : Int) : Option Bool :=
  some ((a0 != (-1099511627776)) && ((decide (a0 < (-1000000))) || (decide (a0 > 1000000))))

/-- slices.IndexFunc[[]int,int] -/
def m77_64 (a0 : (List Int)) : Option Int :=
  (iter (fun s1 : Int => ((bif (decide (s1 < (a0.length : Int))) then (idx a0 s1).bind fun v4 => (m64 v4).bind fun v5 => (bif v5 then some (.inr (.inr s1)) else some (.inl (addI .i64 s1 1))) else some (.inr (.inl ()))) : Option ((Int) ⊕ ((Unit) ⊕ Int)))) 0).bind (Sum.elim (fun w2 => some (-1)) some)

/-- slices.ContainsFunc[[]int,int] -/
def m39_64 (a0 : (List Int)) : Option Bool :=
  (m77_64 a0).bind fun v1 => some (decide (v1 ≥ 0))

/-- pneumatic/pneumaticlaw11.right$1 -/
def m63 (a0 : (List Int)) : Option Bool :=
  (m39_64 a0).bind fun v1 => some v1

/-- slices.IndexFunc[[][]int,[]int] -/
def m90_63 (a0 : (List (List Int))) : Option Int :=
  (iter (fun s1 : Int => ((bif (decide (s1 < (a0.length : Int))) then (idx a0 s1).bind fun v4 => (m63 v4).bind fun v5 => (bif v5 then some (.inr (.inr s1)) else some (.inl (addI .i64 s1 1))) else some (.inr (.inl ()))) : Option ((Int) ⊕ ((Unit) ⊕ Int)))) 0).bind (Sum.elim (fun w2 => some (-1)) some)

/-- slices.ContainsFunc[[][]int,[]int] -/
def m62_63 (a0 : (List (List Int))) : Option Bool :=
  (m90_63 a0).bind fun v1 => some (decide (v1 ≥ 0))

/-- pneumatic/pneumaticlaw11.right -/
def m27 (a0 : SBounds) : Option Bool :=
  ((bif (decide (a0.N > 6)) then some true else (m28 a0).bind fun v3 => some (v3 != 0)) : Option (Bool)).bind fun w1 => (bif w1 then some false else (m62_63 a0.Most).bind fun v5 => some (!v5))

/-- pneumatic/bounds.Holds$1 -/
def m66 (a0 : Int) : Option Bool :=
  (m67 a0).bind fun v1 => some (!v1)

/-- slices.IndexFunc[[]int,int] -/
def m77_66 (a0 : (List Int)) : Option Int :=
  (iter (fun s1 : Int => ((bif (decide (s1 < (a0.length : Int))) then (idx a0 s1).bind fun v4 => (m66 v4).bind fun v5 => (bif v5 then some (.inr (.inr s1)) else some (.inl (addI .i64 s1 1))) else some (.inr (.inl ()))) : Option ((Int) ⊕ ((Unit) ⊕ Int)))) 0).bind (Sum.elim (fun w2 => some (-1)) some)

/-- slices.ContainsFunc[[]int,int] -/
def m39_66 (a0 : (List Int)) : Option Bool :=
  (m77_66 a0).bind fun v1 => some (decide (v1 ≥ 0))

/-- pneumatic/bounds.Holds -/
def m30 (a0 : SBounds) (a1 : (List Int)) : Option (Bool × Int) :=
  (m32 a0).bind fun v1 => (bif (v1 != 0) then some (false, v1) else (bif ((a1.length : Int) != a0.N) then some (false, 8) else (m39_66 a1).bind fun v4 => (bif v4 then some (false, 2) else (appc 8 ([0] : List Int) a1).bind fun l6 => (iter (fun s7 : Int => ((bif (decide (s7 < (a0.Most.length : Int))) then (idx a0.Most s7).bind fun v10 => (iter (fun s11 : Int => ((bif (decide (s11 < (v10.length : Int))) then (idx v10 s11).bind fun v14 => ((bif (v14 != (-1099511627776)) then (idx l6 s11).bind fun v17 => (idx l6 s7).bind fun v18 => some (decide ((subI .i64 v17 v18) > v14)) else some false) : Option (Bool)).bind fun w15 => (bif w15 then some (.inr (.inr (.inr (.inr (false, 0))))) else some (.inl (addI .i64 s11 1))) else some (.inr (.inl ()))) : Option ((Int) ⊕ ((Unit) ⊕ ((Int) ⊕ ((Unit) ⊕ (Bool × Int))))))) 0).bind (Sum.elim (fun w12 => some (.inl (addI .i64 s7 1))) some) else some (.inr (.inl ()))) : Option ((Int) ⊕ ((Unit) ⊕ (Bool × Int))))) 0).bind (Sum.elim (fun w8 => some (true, 0)) some))))

/-- pneumatic/pneumaticlaw11.BoundsWitnesses$1 -/
def m40 (a0 : Int) : Option Bool :=
  some ((decide (a0 < (-1000000))) || (decide (a0 > 1000000)))

/-- slices.IndexFunc[[]int,int] -/
def m77_40 (a0 : (List Int)) : Option Int :=
  (iter (fun s1 : Int => ((bif (decide (s1 < (a0.length : Int))) then (idx a0 s1).bind fun v4 => (m40 v4).bind fun v5 => (bif v5 then some (.inr (.inr s1)) else some (.inl (addI .i64 s1 1))) else some (.inr (.inl ()))) : Option ((Int) ⊕ ((Unit) ⊕ Int)))) 0).bind (Sum.elim (fun w2 => some (-1)) some)

/-- slices.ContainsFunc[[]int,int] -/
def m39_40 (a0 : (List Int)) : Option Bool :=
  (m77_40 a0).bind fun v1 => some (decide (v1 ≥ 0))

/-- pneumatic/pneumaticlaw11.BoundsWitnesses -/
def m9 (a0 : SBounds) (a1 : (List Int)) : Option Bool :=
  ((m27 a0).bind fun v2 => (bif (!v2) then some true else (bif ((a1.length : Int) != a0.N) then some true else (m39_40 a1).bind fun v5 => some v5)) : Option (Bool)).bind fun w1 => (bif w1 then (m13).bind fun v7 => some v7 else (m30 a0 a1).bind fun v8 => (m20 a0).bind fun v9 => (bif ((v8.2 != 0) || ((v9.2 == 16) && v8.1)) then some false else (bif (v9.2 != 0) then ((bif (v9.2 == 16) then (m13).bind fun v17 => some v17 else (bif (v9.2 == 14) then (m13).bind fun v19 => some v19 else some false)) : Option (Bool)).bind fun w15 => some w15 else (m14 a0).bind fun v20 => (m30 a0 v9.1).bind fun v21 => (m30 v20.1 v9.1).bind fun v22 => (bif (((addI .i64 (addI .i64 v20.2.2.2 v21.2) v22.2) != 0) || ((!v20.2.2.1) || ((!v21.1) || ((!v22.1) || ((v9.1.length : Int) != a0.N))))) then some false else (iter (fun s29 : Int => ((bif (decide (s29 < (a1.length : Int))) then (idx a1 s29).bind fun v32 => (m18 a0 (addI .i64 s29 1)).bind fun v33 => ((bif (v33.2.2 != 0) then some true else (idx v9.1 s29).bind fun v36 => (bif (v33.1 != v36) then some true else (bif v8.1 then (idx v9.1 s29).bind fun v39 => some (decide (v32 < v39)) else some false))) : Option (Bool)).bind fun w34 => (bif w34 then some (.inr (.inr false)) else some (.inl (addI .i64 s29 1))) else some (.inr (.inl ()))) : Option ((Int) ⊕ ((Unit) ⊕ Bool)))) 0).bind (Sum.elim (fun w30 => (m13).bind fun v41 => some v41) some)))))

end G11
