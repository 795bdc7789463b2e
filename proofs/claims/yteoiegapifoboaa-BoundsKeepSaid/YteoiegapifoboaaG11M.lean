/- Plain models of functions, printed by a program of mine (dec.py). No condition. -/
import Derived.Test.YteoiegapifoboaaAmP0
import Derived.Test.YteoiegapifoboaaG11u
namespace G11
open Go Go.Pl
set_option linter.unusedVariables false

structure SBounds where
  N : Int
  Most : (List (List Int))
  deriving DecidableEq

structure SSpan where
  Low : Int
  High : Int
  deriving DecidableEq

structure SChange where
  I : Int
  J : Int
  Most : Int
  Span : SSpan
  deriving DecidableEq

structure SboundsError where
  f_x : Int
  f_y : Int
  f_signed : Bool
  f_code : Int
  deriving DecidableEq

structure SerrorAddressString where
  f_msg : (List UInt8)
  f_addr : Int
  deriving DecidableEq


/-- pneumatic/pneumaticlaw11.awake: given -/
def m13  : Option Bool := some true

/-- pneumatic/bounds.inside -/
def m67 (a0 : Int) : Option Bool :=
  some ((decide (a0 ≥ (-64000000))) && (decide (a0 ≤ 64000000)))

/-- pneumatic/bounds.Check -/
def m32 (a0 : SBounds) : Option Int :=
  (bif ((decide (a0.N < 0)) || (decide (a0.N > 12))) then some 2 else (bif ((a0.Most.length : Int) != (addI .i64 a0.N 1)) then some 8 else (iter (fun s5 : Int => ((bif (decide (s5 < (a0.Most.length : Int))) then (idx a0.Most s5).bind fun v8 => (bif ((v8.length : Int) != (addI .i64 a0.N 1)) then some (.inr (.inr 8)) else some (.inl (addI .i64 s5 1))) else some (.inr (.inl ()))) : Option ((Int) ⊕ ((Unit) ⊕ Int)))) 0).bind (Sum.elim (fun w6 => (iter (fun s10 : Int => ((bif (decide (s10 < (a0.Most.length : Int))) then (idx a0.Most s10).bind fun v13 => (iter (fun s14 : Int => ((bif (decide (s14 < (v13.length : Int))) then (idx v13 s14).bind fun v17 => ((bif (v17 != (-1099511627776)) then (m67 v17).bind fun v20 => some (!v20) else some false) : Option (Bool)).bind fun w18 => (bif w18 then some (.inr (.inr (.inr (.inr 2)))) else (bif ((s10 == s14) && (v17 != 0)) then some (.inr (.inr (.inr (.inr 3)))) else some (.inl (addI .i64 s14 1)))) else some (.inr (.inl ()))) : Option ((Int) ⊕ ((Unit) ⊕ ((Int) ⊕ ((Unit) ⊕ Int)))))) 0).bind (Sum.elim (fun w15 => some (.inl (addI .i64 s10 1))) some) else some (.inr (.inl ()))) : Option ((Int) ⊕ ((Unit) ⊕ Int)))) 0).bind (Sum.elim (fun w11 => some 0) some)) some)))

/-- pneumatic/bounds.Add: given -/
def m35 (a0 : SBounds) (a1 : Int) (a2 : Int) (a3 : Int) : Option (SBounds × Int) := (m32 a0).bind fun c => bif (c != 0) then some (⟨0, []⟩, c) else (bif (decide (a1 < 0) || decide (a1 > a0.N) || decide (a2 < 0) || decide (a2 > a0.N)) then some (⟨0, []⟩, 2) else (bif (a1 == a2) then some (⟨0, []⟩, 1) else (bif !(decide (a3 ≥ (-64000000)) && decide (a3 ≤ 64000000)) then some (⟨0, []⟩, 2) else (bif decide (a0.N > 6) then none else some (⟨a0.N, addL a0.Most a0.Most.length a1.toNat a2.toNat a3⟩, 0)))))

/-- pneumatic/bounds.Shift: given -/
def m25 (a0 : SBounds) (a1 : Int) : Option (SBounds × Int) := (m32 a0).bind fun c => bif (c != 0) then some (⟨0, []⟩, c) else (bif (decide (a1 < 1) || decide (a1 > a0.N)) then some (⟨0, []⟩, 2) else (bif decide (a0.N > 6) then none else some (match solve a0.Most with | .inl _ => (⟨0, []⟩, 16) | .inr d => (bif big (shiftL d a0.Most.length a1.toNat) then (⟨0, []⟩, 11) else (⟨a0.N - 1, shiftL d a0.Most.length a1.toNat⟩, 0)))))

/-- pneumatic/bounds.Witness: given -/
def m20 (a0 : SBounds) : Option ((List Int) × Int) := (m32 a0).bind fun c => bif (c != 0) then some ([], c) else (bif decide (a0.N > 6) then none else some (match solve a0.Most with | .inl _ => ([], 16) | .inr d => wit d a0.Most.length))

/-- pneumatic/bounds.Extent: given -/
def m18 (a0 : SBounds) (a1 : Int) : Option (Int × Int × Int) := (m32 a0).bind fun c => bif (c != 0) then some (0, 0, c) else (bif (decide (a1 < 0) || decide (a1 > a0.N)) then some (0, 0, 2) else (bif decide (a0.N > 6) then none else some (match solve a0.Most with | .inl _ => (0, 0, 16) | .inr d => (neg1 (ent d a1.toNat 0), ent d 0 a1.toNat, 0))))

/-- pneumatic/bounds.Close: given -/
def m14 (a0 : SBounds) : Option (SBounds × (List Int) × Bool × Int) := (m32 a0).bind fun c => bif (c != 0) then some (⟨0, []⟩, [], false, c) else (bif decide (a0.N > 6) then none else some (match solve a0.Most with | .inl c => (⟨0, []⟩, c, false, 0) | .inr d => (bif big d then (⟨0, []⟩, [], false, 11) else (⟨a0.N, d⟩, [], true, 0))))

/-- pneumatic/bounds.both -/
def m78 (a0 : SBounds) (a1 : SBounds) : Option Int :=
  (iter (fun s1 : Int => ((bif (decide (s1 < (2 : Int))) then (idx ([a0, a1] : List SBounds) s1).bind fun v4 => (m32 v4).bind fun v5 => (bif (v5 != 0) then some (.inr (.inr v5)) else some (.inl (addI .i64 s1 1))) else some (.inr (.inl ()))) : Option ((Int) ⊕ ((Unit) ⊕ Int)))) 0).bind (Sum.elim (fun w2 => (bif (a0.N != a1.N) then some 8 else some 0)) some)

/-- pneumatic/bounds.Leq: given -/
def m43 (a0 : SBounds) (a1 : SBounds) : Option (Bool × Int) := (m78 a0 a1).bind fun c => bif (c != 0) then some (false, c) else (bif decide (a0.N > 6) then none else some (match solve a0.Most with | .inl _ => (true, 0) | .inr d => (leqL d a1.Most a0.Most.length, 0)))

/-- pneumatic/bounds.Meet: given -/
def m41 (a0 : SBounds) (a1 : SBounds) : Option (SBounds × Int) := (m78 a0 a1).bind fun c => bif (c != 0) then some (⟨0, []⟩, c) else (bif decide (a0.N > 6) then none else some (⟨a0.N, meetL a0.Most a1.Most a0.Most.length⟩, 0))

/-- pneumatic/pneumaticref11.In -/
def m65 (a0 : Int) : Option Bool :=
  some ((decide (a0 ≥ (-64000000))) && (decide (a0 ≤ 64000000)))

/-- pneumatic/pneumaticref11.Check -/
def m28 (a0 : SBounds) : Option Int :=
  (bif ((decide (a0.N < 0)) || (decide (a0.N > 12))) then some 2 else (bif ((a0.Most.length : Int) != (addI .i64 a0.N 1)) then some 8 else (iter (fun s5 : Int => ((bif (decide (s5 < (a0.Most.length : Int))) then (idx a0.Most s5).bind fun v8 => (bif ((v8.length : Int) != (addI .i64 a0.N 1)) then some (.inr (.inr 8)) else some (.inl (addI .i64 s5 1))) else some (.inr (.inl ()))) : Option ((Int) ⊕ ((Unit) ⊕ Int)))) 0).bind (Sum.elim (fun w6 => (iter (fun s10 : Int => ((bif (decide (s10 ≤ a0.N)) then (iter (fun s13 : Int => ((bif (decide (s13 ≤ a0.N)) then (idx a0.Most s10).bind fun v16 => (idx v16 s13).bind fun v17 => ((bif (v17 != (-1099511627776)) then (m65 v17).bind fun v20 => some (!v20) else some false) : Option (Bool)).bind fun w18 => (bif w18 then some (.inr (.inr (.inr (.inr 2)))) else ((bif (s10 == s13) then (idx a0.Most s10).bind fun v24 => (idx v24 s13).bind fun v25 => some (v25 != 0) else some false) : Option (Bool)).bind fun w22 => (bif w22 then some (.inr (.inr (.inr (.inr 3)))) else some (.inl (addI .i64 s13 1)))) else some (.inr (.inl ()))) : Option ((Int) ⊕ ((Unit) ⊕ ((Int) ⊕ ((Unit) ⊕ Int)))))) 0).bind (Sum.elim (fun w14 => some (.inl (addI .i64 s10 1))) some) else some (.inr (.inl ()))) : Option ((Int) ⊕ ((Unit) ⊕ Int)))) 0).bind (Sum.elim (fun w11 => some 0) some)) some)))

/-- pneumatic/pneumaticlaw11.right$1$1 -/
def m64 (a0 : Int) : Option Bool :=
  some ((a0 != (-1099511627776)) && ((decide (a0 < (-1000000))) || (decide (a0 > 1000000))))

/-- slices.IndexFunc[[]int,int] -/
def m77_64 (a0 : (List Int)) : Option Int :=
  (iter (fun s1 : Int => ((bif (decide (s1 < (a0.length : Int))) then (idx a0 s1).bind fun v4 => (m64 v4).bind fun v5 => (bif v5 then some (.inr (.inr s1)) else some (.inl (addI .i64 s1 1))) else some (.inr (.inl ()))) : Option ((Int) ⊕ ((Unit) ⊕ Int)))) 0).bind (Sum.elim (fun w2 => some (-1)) some)

/-- slices.ContainsFunc[[]int,int] -/
def m39_64 (a0 : (List Int)) : Option Bool :=
  (m77_64 a0).bind fun v1 => some (decide (v1 ≥ 0))

/-- pneumatic/pneumaticlaw11.right$1 -/
def m63 (a0 : (List Int)) : Option Bool :=
  (m39_64 a0).bind fun v1 => some v1

/-- slices.IndexFunc[[][]int,[]int] -/
def m90_63 (a0 : (List (List Int))) : Option Int :=
  (iter (fun s1 : Int => ((bif (decide (s1 < (a0.length : Int))) then (idx a0 s1).bind fun v4 => (m63 v4).bind fun v5 => (bif v5 then some (.inr (.inr s1)) else some (.inl (addI .i64 s1 1))) else some (.inr (.inl ()))) : Option ((Int) ⊕ ((Unit) ⊕ Int)))) 0).bind (Sum.elim (fun w2 => some (-1)) some)

/-- slices.ContainsFunc[[][]int,[]int] -/
def m62_63 (a0 : (List (List Int))) : Option Bool :=
  (m90_63 a0).bind fun v1 => some (decide (v1 ≥ 0))

/-- pneumatic/pneumaticlaw11.right -/
def m27 (a0 : SBounds) : Option Bool :=
  ((bif (decide (a0.N > 6)) then some true else (m28 a0).bind fun v3 => some (v3 != 0)) : Option (Bool)).bind fun w1 => (bif w1 then some false else (m62_63 a0.Most).bind fun v5 => some (!v5))

/-- pneumatic/bounds.Holds$1 -/
def m66 (a0 : Int) : Option Bool :=
  (m67 a0).bind fun v1 => some (!v1)

/-- slices.IndexFunc[[]int,int] -/
def m77_66 (a0 : (List Int)) : Option Int :=
  (iter (fun s1 : Int => ((bif (decide (s1 < (a0.length : Int))) then (idx a0 s1).bind fun v4 => (m66 v4).bind fun v5 => (bif v5 then some (.inr (.inr s1)) else some (.inl (addI .i64 s1 1))) else some (.inr (.inl ()))) : Option ((Int) ⊕ ((Unit) ⊕ Int)))) 0).bind (Sum.elim (fun w2 => some (-1)) some)

/-- slices.ContainsFunc[[]int,int] -/
def m39_66 (a0 : (List Int)) : Option Bool :=
  (m77_66 a0).bind fun v1 => some (decide (v1 ≥ 0))

/-- pneumatic/bounds.Holds -/
def m30 (a0 : SBounds) (a1 : (List Int)) : Option (Bool × Int) :=
  (m32 a0).bind fun v1 => (bif (v1 != 0) then some (false, v1) else (bif ((a1.length : Int) != a0.N) then some (false, 8) else (m39_66 a1).bind fun v4 => (bif v4 then some (false, 2) else (appc 8 ([0] : List Int) a1).bind fun l6 => (iter (fun s7 : Int => ((bif (decide (s7 < (a0.Most.length : Int))) then (idx a0.Most s7).bind fun v10 => (iter (fun s11 : Int => ((bif (decide (s11 < (v10.length : Int))) then (idx v10 s11).bind fun v14 => ((bif (v14 != (-1099511627776)) then (idx l6 s11).bind fun v17 => (idx l6 s7).bind fun v18 => some (decide ((subI .i64 v17 v18) > v14)) else some false) : Option (Bool)).bind fun w15 => (bif w15 then some (.inr (.inr (.inr (.inr (false, 0))))) else some (.inl (addI .i64 s11 1))) else some (.inr (.inl ()))) : Option ((Int) ⊕ ((Unit) ⊕ ((Int) ⊕ ((Unit) ⊕ (Bool × Int))))))) 0).bind (Sum.elim (fun w12 => some (.inl (addI .i64 s7 1))) some) else some (.inr (.inl ()))) : Option ((Int) ⊕ ((Unit) ⊕ (Bool × Int))))) 0).bind (Sum.elim (fun w8 => some (true, 0)) some))))

/-- pneumatic/pneumaticref11.Same -/
def m16 (a0 : SBounds) (a1 : SBounds) : Option Bool :=
  (bif ((a0.N != a1.N) || ((a0.Most.length : Int) != (a1.Most.length : Int))) then some false else (iter (fun s4 : Int => ((bif (decide (s4 < (a0.Most.length : Int))) then (idx a0.Most s4).bind fun v7 => (idx a1.Most s4).bind fun v8 => (bif ((v7.length : Int) != (v8.length : Int)) then some (.inr (.inr false)) else (iter (fun s10 : Int => ((idx a0.Most s4).bind fun v12 => (bif (decide (s10 < (v12.length : Int))) then (idx a0.Most s4).bind fun v14 => (idx v14 s10).bind fun v15 => (idx a1.Most s4).bind fun v16 => (idx v16 s10).bind fun v17 => (bif (v15 != v17) then some (.inr (.inr (.inr (.inr false)))) else some (.inl (addI .i64 s10 1))) else some (.inr (.inl ()))) : Option ((Int) ⊕ ((Unit) ⊕ ((Int) ⊕ ((Unit) ⊕ Bool)))))) 0).bind (Sum.elim (fun w11 => some (.inl (addI .i64 s4 1))) some)) else some (.inr (.inl ()))) : Option ((Int) ⊕ ((Unit) ⊕ Bool)))) 0).bind (Sum.elim (fun w5 => some true) some))

/-- pneumatic/pneumaticlaw11.BoundsKeep$1 -/
def m45 (a0 : Int) : Option Bool :=
  some ((decide (a0 < (-1000000))) || (decide (a0 > 1000000)))

/-- slices.IndexFunc[[]int,int] -/
def m77_45 (a0 : (List Int)) : Option Int :=
  (iter (fun s1 : Int => ((bif (decide (s1 < (a0.length : Int))) then (idx a0 s1).bind fun v4 => (m45 v4).bind fun v5 => (bif v5 then some (.inr (.inr s1)) else some (.inl (addI .i64 s1 1))) else some (.inr (.inl ()))) : Option ((Int) ⊕ ((Unit) ⊕ Int)))) 0).bind (Sum.elim (fun w2 => some (-1)) some)

/-- slices.ContainsFunc[[]int,int] -/
def m39_45 (a0 : (List Int)) : Option Bool :=
  (m77_45 a0).bind fun v1 => some (decide (v1 ≥ 0))

/-- pneumatic/pneumaticlaw11.BoundsKeep -/
def m11 (a0 : SBounds) (a1 : SBounds) (a2 : (List Int)) : Option Bool :=
  ((m27 a0).bind fun v2 => (bif (!v2) then some true else (m27 a1).bind fun v4 => (bif (!v4) then some true else (bif (a0.N != a1.N) then some true else (bif ((a2.length : Int) != a0.N) then some true else (m39_45 a2).bind fun v8 => some v8)))) : Option (Bool)).bind fun w1 => (bif w1 then (m13).bind fun v10 => some v10 else (m14 a0).bind fun v11 => (m30 a0 a2).bind fun v12 => (m30 a1 a2).bind fun v13 => (m41 a0 a1).bind fun v14 => (m30 v14.1 a2).bind fun v15 => (m43 a0 a1).bind fun v16 => (bif (((addI .i64 (addI .i64 (addI .i64 (addI .i64 (addI .i64 v11.2.2.2 v12.2) v13.2) v14.2) v15.2) v16.2) != 0) || (bif v12.1 then (((v15.1 == v13.1) != true) || (v16.1 && (!v13.1))) else ((v15.1 == false) != true))) then some false else (bif (!v11.2.2.1) then ((bif (!v12.1) then (bif v16.1 then (m13).bind fun v31 => some v31 else some false) else some false) : Option (Bool)).bind fun w28 => some w28 else (m14 v11.1).bind fun v32 => (m30 v11.1 a2).bind fun v33 => (m43 v11.1 a0).bind fun v34 => ((bif ((addI .i64 (addI .i64 v32.2.2.2 v33.2) v34.2) == 0) then (bif v32.2.2.1 then (bif ((v33.1 == v12.1) != false) then (bif v34.1 then (m16 v32.1 v11.1).bind fun v40 => (bif v40 then (m13).bind fun v42 => some v42 else some false) else some false) else some false) else some false) else some false) : Option (Bool)).bind fun w35 => some w35)))

end G11
