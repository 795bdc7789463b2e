/- Plain models of functions, printed by a program of mine (dec.py). No condition. -/
import Derived.Test.YteoiegapifoboaaAmP0
import Derived.Test.YteoiegapifoboaaG11u
namespace G11
open Go Go.Pl
set_option linter.unusedVariables false

structure SBounds where
  N : Int
  Most : (List (List Int))
  deriving DecidableEq

structure SSpan where
  Low : Int
  High : Int
  deriving DecidableEq

structure SChange where
  I : Int
  J : Int
  Most : Int
  Span : SSpan
  deriving DecidableEq

structure SboundsError where
  f_x : Int
  f_y : Int
  f_signed : Bool
  f_code : Int
  deriving DecidableEq

structure SerrorAddressString where
  f_msg : (List UInt8)
  f_addr : Int
  deriving DecidableEq


/-- pneumatic/pneumaticlaw11.awake: given -/
def m13  : Option Bool := some true

/-- pneumatic/bounds.inside -/
def m67 (a0 : Int) : Option Bool :=
  some ((decide (a0 ≥ (-64000000))) && (decide (a0 ≤ 64000000)))

/-- pneumatic/bounds.Check -/
def m32 (a0 : SBounds) : Option Int :=
  (bif ((decide (a0.N < 0)) || (decide (a0.N > 12))) then some 2 else (bif ((a0.Most.length : Int) != (addI .i64 a0.N 1)) then some 8 else (iter (fun s5 : Int => ((bif (decide (s5 < (a0.Most.length : Int))) then (idx a0.Most s5).bind fun v8 => (bif ((v8.length : Int) != (addI .i64 a0.N 1)) then some (.inr (.inr 8)) else some (.inl (addI .i64 s5 1))) else some (.inr (.inl ()))) : Option ((Int) ⊕ ((Unit) ⊕ Int)))) 0).bind (Sum.elim (fun w6 => (iter (fun s10 : Int => ((bif (decide (s10 < (a0.Most.length : Int))) then (idx a0.Most s10).bind fun v13 => (iter (fun s14 : Int => ((bif (decide (s14 < (v13.length : Int))) then (idx v13 s14).bind fun v17 => ((bif (v17 != (-1099511627776)) then (m67 v17).bind fun v20 => some (!v20) else some false) : Option (Bool)).bind fun w18 => (bif w18 then some (.inr (.inr (.inr (.inr 2)))) else (bif ((s10 == s14) && (v17 != 0)) then some (.inr (.inr (.inr (.inr 3)))) else some (.inl (addI .i64 s14 1)))) else some (.inr (.inl ()))) : Option ((Int) ⊕ ((Unit) ⊕ ((Int) ⊕ ((Unit) ⊕ Int)))))) 0).bind (Sum.elim (fun w15 => some (.inl (addI .i64 s10 1))) some) else some (.inr (.inl ()))) : Option ((Int) ⊕ ((Unit) ⊕ Int)))) 0).bind (Sum.elim (fun w11 => some 0) some)) some)))

/-- pneumatic/bounds.Shift: given -/
def m25 (a0 : SBounds) (a1 : Int) : Option (SBounds × Int) := (m32 a0).bind fun c => bif (c != 0) then some (⟨0, []⟩, c) else (bif (decide (a1 < 1) || decide (a1 > a0.N)) then some (⟨0, []⟩, 2) else (bif decide (a0.N > 6) then none else some (match solve a0.Most with | .inl _ => (⟨0, []⟩, 16) | .inr d => (bif big (shiftL d a0.Most.length a1.toNat) then (⟨0, []⟩, 11) else (⟨a0.N - 1, shiftL d a0.Most.length a1.toNat⟩, 0)))))

/-- pneumatic/bounds.Forget: given -/
def m23 (a0 : SBounds) (a1 : Int) : Option (SBounds × Int) := (m32 a0).bind fun c => bif (c != 0) then some (⟨0, []⟩, c) else (bif (decide (a1 < 1) || decide (a1 > a0.N)) then some (⟨0, []⟩, 2) else (bif decide (a0.N > 6) then none else some (match solve a0.Most with | .inl _ => (⟨0, []⟩, 16) | .inr d => (bif big (forgetL d a0.Most.length a1.toNat) then (⟨0, []⟩, 11) else (⟨a0.N, forgetL d a0.Most.length a1.toNat⟩, 0)))))

/-- pneumatic/bounds.Witness: given -/
def m20 (a0 : SBounds) : Option ((List Int) × Int) := (m32 a0).bind fun c => bif (c != 0) then some ([], c) else (bif decide (a0.N > 6) then none else some (match solve a0.Most with | .inl _ => ([], 16) | .inr d => wit d a0.Most.length))

/-- pneumatic/bounds.Extent: given -/
def m18 (a0 : SBounds) (a1 : Int) : Option (Int × Int × Int) := (m32 a0).bind fun c => bif (c != 0) then some (0, 0, c) else (bif (decide (a1 < 0) || decide (a1 > a0.N)) then some (0, 0, 2) else (bif decide (a0.N > 6) then none else some (match solve a0.Most with | .inl _ => (0, 0, 16) | .inr d => (neg1 (ent d a1.toNat 0), ent d 0 a1.toNat, 0))))

/-- pneumatic/bounds.Close: given -/
def m14 (a0 : SBounds) : Option (SBounds × (List Int) × Bool × Int) := (m32 a0).bind fun c => bif (c != 0) then some (⟨0, []⟩, [], false, c) else (bif decide (a0.N > 6) then none else some (match solve a0.Most with | .inl c => (⟨0, []⟩, c, false, 0) | .inr d => (bif big d then (⟨0, []⟩, [], false, 11) else (⟨a0.N, d⟩, [], true, 0))))

/-- pneumatic/pneumaticref11.In -/
def m65 (a0 : Int) : Option Bool :=
  some ((decide (a0 ≥ (-64000000))) && (decide (a0 ≤ 64000000)))

/-- pneumatic/pneumaticref11.Check -/
def m28 (a0 : SBounds) : Option Int :=
  (bif ((decide (a0.N < 0)) || (decide (a0.N > 12))) then some 2 else (bif ((a0.Most.length : Int) != (addI .i64 a0.N 1)) then some 8 else (iter (fun s5 : Int => ((bif (decide (s5 < (a0.Most.length : Int))) then (idx a0.Most s5).bind fun v8 => (bif ((v8.length : Int) != (addI .i64 a0.N 1)) then some (.inr (.inr 8)) else some (.inl (addI .i64 s5 1))) else some (.inr (.inl ()))) : Option ((Int) ⊕ ((Unit) ⊕ Int)))) 0).bind (Sum.elim (fun w6 => (iter (fun s10 : Int => ((bif (decide (s10 ≤ a0.N)) then (iter (fun s13 : Int => ((bif (decide (s13 ≤ a0.N)) then (idx a0.Most s10).bind fun v16 => (idx v16 s13).bind fun v17 => ((bif (v17 != (-1099511627776)) then (m65 v17).bind fun v20 => some (!v20) else some false) : Option (Bool)).bind fun w18 => (bif w18 then some (.inr (.inr (.inr (.inr 2)))) else ((bif (s10 == s13) then (idx a0.Most s10).bind fun v24 => (idx v24 s13).bind fun v25 => some (v25 != 0) else some false) : Option (Bool)).bind fun w22 => (bif w22 then some (.inr (.inr (.inr (.inr 3)))) else some (.inl (addI .i64 s13 1)))) else some (.inr (.inl ()))) : Option ((Int) ⊕ ((Unit) ⊕ ((Int) ⊕ ((Unit) ⊕ Int)))))) 0).bind (Sum.elim (fun w14 => some (.inl (addI .i64 s10 1))) some) else some (.inr (.inl ()))) : Option ((Int) ⊕ ((Unit) ⊕ Int)))) 0).bind (Sum.elim (fun w11 => some 0) some)) some)))

/-- pneumatic/pneumaticlaw11.right$1$1 -/
def m64 (a0 : Int) : Option Bool :=
  some ((a0 != (-1099511627776)) && ((decide (a0 < (-1000000))) || (decide (a0 > 1000000))))

/-- slices.IndexFunc[[]int,int] -/
def m77_64 (a0 : (List Int)) : Option Int :=
  (iter (fun s1 : Int => ((bif (decide (s1 < (a0.length : Int))) then (idx a0 s1).bind fun v4 => (m64 v4).bind fun v5 => (bif v5 then some (.inr (.inr s1)) else some (.inl (addI .i64 s1 1))) else some (.inr (.inl ()))) : Option ((Int) ⊕ ((Unit) ⊕ Int)))) 0).bind (Sum.elim (fun w2 => some (-1)) some)

/-- slices.ContainsFunc[[]int,int] -/
def m39_64 (a0 : (List Int)) : Option Bool :=
  (m77_64 a0).bind fun v1 => some (decide (v1 ≥ 0))

/-- pneumatic/pneumaticlaw11.right$1 -/
def m63 (a0 : (List Int)) : Option Bool :=
  (m39_64 a0).bind fun v1 => some v1

/-- slices.IndexFunc[[][]int,[]int] -/
def m90_63 (a0 : (List (List Int))) : Option Int :=
  (iter (fun s1 : Int => ((bif (decide (s1 < (a0.length : Int))) then (idx a0 s1).bind fun v4 => (m63 v4).bind fun v5 => (bif v5 then some (.inr (.inr s1)) else some (.inl (addI .i64 s1 1))) else some (.inr (.inl ()))) : Option ((Int) ⊕ ((Unit) ⊕ Int)))) 0).bind (Sum.elim (fun w2 => some (-1)) some)

/-- slices.ContainsFunc[[][]int,[]int] -/
def m62_63 (a0 : (List (List Int))) : Option Bool :=
  (m90_63 a0).bind fun v1 => some (decide (v1 ≥ 0))

/-- pneumatic/pneumaticlaw11.right -/
def m27 (a0 : SBounds) : Option Bool :=
  ((bif (decide (a0.N > 6)) then some true else (m28 a0).bind fun v3 => some (v3 != 0)) : Option (Bool)).bind fun w1 => (bif w1 then some false else (m62_63 a0.Most).bind fun v5 => some (!v5))

/-- pneumatic/pneumaticlaw11.BoundsDrops -/
def m6 (a0 : SBounds) (a1 : Int) : Option Bool :=
  ((m27 a0).bind fun v2 => (bif (!v2) then some true else some (a0.N == 0)) : Option (Bool)).bind fun w1 => (bif w1 then (m13).bind fun v5 => some v5 else (remc (IntKind.wrap .i64 a1) a0.N).bind fun v6 => (m14 a0).bind fun v7 => (m23 a0 (addI .i64 1 v6)).bind fun v8 => (m25 a0 (addI .i64 1 v6)).bind fun v9 => (bif ((v7.2.2.2 != 0) || (!v7.2.2.1)) then ((bif (v7.2.2.2 == 0) then (bif (v8.2 == 16) then (bif (v9.2 == 16) then (m13).bind fun v17 => some v17 else some false) else some false) else some false) : Option (Bool)).bind fun w13 => some w13 else ((bif (v8.2 != 0) then some true else (bif (v9.2 != 0) then some true else (bif (v9.1.N != (subI .i64 a0.N 1)) then some true else (m28 v9.1).bind fun v22 => (bif (v22 != 0) then some true else (m28 v7.1).bind fun v24 => (bif (v24 != 0) then some true else some (v7.1.N != a0.N)))))) : Option (Bool)).bind fun w18 => (bif w18 then some false else (iter (fun s27 : Int => ((bif (decide (s27 ≤ a0.N)) then ((m18 v8.1 s27).bind fun v31 => (m18 a0 s27).bind fun v32 => (bif ((v31.2.2 != 0) || (v32.2.2 != 0)) then some (.inr (.inr (.inr false))) else (bif (s27 == (addI .i64 1 v6)) then (bif ((v31.1 != (-1099511627776)) || (v31.2.1 != (-1099511627776))) then some (.inr (.inr (.inr false))) else some (.inl ())) else ((bif (v31.1 != v32.1) then some true else (bif (v31.2.1 != v32.2.1) then some true else (idx v9.1.Most 0).bind fun v45 => (idx v45 (bif (decide (s27 > (addI .i64 1 v6))) then (subI .i64 s27 1) else s27)).bind fun v46 => (idx v7.1.Most (addI .i64 1 v6)).bind fun v47 => (idx v47 s27).bind fun v48 => (bif (v46 != v48) then some true else (idx v9.1.Most (bif (decide (s27 > (addI .i64 1 v6))) then (subI .i64 s27 1) else s27)).bind fun v50 => (idx v50 0).bind fun v51 => (idx v7.1.Most s27).bind fun v52 => (idx v52 (addI .i64 1 v6)).bind fun v53 => some (v51 != v53)))) : Option (Bool)).bind fun w42 => (bif w42 then some (.inr (.inr (.inr false))) else some (.inl ())))) : Option ((Unit) ⊕ ((Int) ⊕ ((Unit) ⊕ Bool)))).bind (Sum.elim (fun w30 => some (.inl (addI .i64 s27 1))) some) else some (.inr (.inl ()))) : Option ((Int) ⊕ ((Unit) ⊕ Bool)))) 1).bind (Sum.elim (fun w28 => (m13).bind fun v55 => some v55) some))))

end G11
