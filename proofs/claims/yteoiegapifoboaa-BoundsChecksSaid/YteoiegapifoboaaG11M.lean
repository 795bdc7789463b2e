/- Plain models of functions, printed by a program of mine (dec.py). No condition. -/
import Derived.Test.YteoiegapifoboaaAmP0
namespace G11
open Go Go.Pl
set_option linter.unusedVariables false

structure SBounds where
  N : Int
  Most : (List (List Int))
deriving DecidableEq

structure SSpan where
  Low : Int
  High : Int
deriving DecidableEq

structure SChange where
  I : Int
  J : Int
  Most : Int
  Span : SSpan
deriving DecidableEq

structure SboundsError where
  f_x : Int
  f_y : Int
  f_signed : Bool
  f_code : Int
deriving DecidableEq

structure SerrorAddressString where
  f_msg : (List UInt8)
  f_addr : Int
deriving DecidableEq


/-- pneumatic/pneumaticlaw11.awake: given -/
def m13  : Option Bool := some true

/-- pneumatic/pneumaticref11.In -/
def m65 (a0 : Int) : Option Bool :=
  some ((decide (a0 ≥ (-64000000))) && (decide (a0 ≤ 64000000)))

/-- pneumatic/pneumaticref11.Check -/
def m28 (a0 : SBounds) : Option Int :=
  (bif ((decide (a0.N < 0)) || (decide (a0.N > 12))) then some 2 else (bif ((a0.Most.length : Int) != (addI .i64 a0.N 1)) then some 8 else (iter (fun s5 : Int => ((bif (decide (s5 < (a0.Most.length : Int))) then (idx a0.Most s5).bind fun v8 => (bif ((v8.length : Int) != (addI .i64 a0.N 1)) then some (.inr (.inr 8)) else some (.inl (addI .i64 s5 1))) else some (.inr (.inl ()))) : Option ((Int) ⊕ ((Unit) ⊕ Int)))) 0).bind (Sum.elim (fun w6 => (iter (fun s10 : Int => ((bif (decide (s10 ≤ a0.N)) then (iter (fun s13 : Int => ((bif (decide (s13 ≤ a0.N)) then (idx a0.Most s10).bind fun v16 => (idx v16 s13).bind fun v17 => ((bif (v17 != (-1099511627776)) then (m65 v17).bind fun v20 => some (!v20) else some false) : Option (Bool)).bind fun w18 => (bif w18 then some (.inr (.inr (.inr (.inr 2)))) else ((bif (s10 == s13) then (idx a0.Most s10).bind fun v24 => (idx v24 s13).bind fun v25 => some (v25 != 0) else some false) : Option (Bool)).bind fun w22 => (bif w22 then some (.inr (.inr (.inr (.inr 3)))) else some (.inl (addI .i64 s13 1)))) else some (.inr (.inl ()))) : Option ((Int) ⊕ ((Unit) ⊕ ((Int) ⊕ ((Unit) ⊕ Int)))))) 0).bind (Sum.elim (fun w14 => some (.inl (addI .i64 s10 1))) some) else some (.inr (.inl ()))) : Option ((Int) ⊕ ((Unit) ⊕ Int)))) 0).bind (Sum.elim (fun w11 => some 0) some)) some)))

/-- pneumatic/pneumaticref11.Few -/
def m12 (a0 : SBounds) : Option Bool :=
  (bif (decide ((a0.Most.length : Int) > 50)) then some false else (iter (fun s2 : Int => ((bif (decide (s2 < (a0.Most.length : Int))) then (idx a0.Most s2).bind fun v5 => (bif (decide ((v5.length : Int) > 50)) then some (.inr (.inr false)) else some (.inl (addI .i64 s2 1))) else some (.inr (.inl ()))) : Option ((Int) ⊕ ((Unit) ⊕ Bool)))) 0).bind (Sum.elim (fun w3 => ((bif (decide (a0.N ≤ 5)) then some true else (m28 a0).bind fun v9 => some (v9 != 0)) : Option (Bool)).bind fun w7 => some w7) some))

/-- pneumatic/bounds.inside -/
def m67 (a0 : Int) : Option Bool :=
  some ((decide (a0 ≥ (-64000000))) && (decide (a0 ≤ 64000000)))

/-- pneumatic/bounds.Check -/
def m32 (a0 : SBounds) : Option Int :=
  (bif ((decide (a0.N < 0)) || (decide (a0.N > 12))) then some 2 else (bif ((a0.Most.length : Int) != (addI .i64 a0.N 1)) then some 8 else (iter (fun s5 : Int => ((bif (decide (s5 < (a0.Most.length : Int))) then (idx a0.Most s5).bind fun v8 => (bif ((v8.length : Int) != (addI .i64 a0.N 1)) then some (.inr (.inr 8)) else some (.inl (addI .i64 s5 1))) else some (.inr (.inl ()))) : Option ((Int) ⊕ ((Unit) ⊕ Int)))) 0).bind (Sum.elim (fun w6 => (iter (fun s10 : Int => ((bif (decide (s10 < (a0.Most.length : Int))) then (idx a0.Most s10).bind fun v13 => (iter (fun s14 : Int => ((bif (decide (s14 < (v13.length : Int))) then (idx v13 s14).bind fun v17 => ((bif (v17 != (-1099511627776)) then (m67 v17).bind fun v20 => some (!v20) else some false) : Option (Bool)).bind fun w18 => (bif w18 then some (.inr (.inr (.inr (.inr 2)))) else (bif ((s10 == s14) && (v17 != 0)) then some (.inr (.inr (.inr (.inr 3)))) else some (.inl (addI .i64 s14 1)))) else some (.inr (.inl ()))) : Option ((Int) ⊕ ((Unit) ⊕ ((Int) ⊕ ((Unit) ⊕ Int)))))) 0).bind (Sum.elim (fun w15 => some (.inl (addI .i64 s10 1))) some) else some (.inr (.inl ()))) : Option ((Int) ⊕ ((Unit) ⊕ Int)))) 0).bind (Sum.elim (fun w11 => some 0) some)) some)))

/-- pneumatic/bounds.Verify -/
def m29 (a0 : SBounds) (a1 : (List Int)) : Option (Bool × Int) :=
  (m32 a0).bind fun v1 => (bif (v1 != 0) then some (false, v1) else (bif ((a1.length : Int) == 0) then some (false, 13) else (iter (fun s4 : Int => ((bif (decide (s4 < (a1.length : Int))) then (idx a1 s4).bind fun v7 => (bif ((decide (v7 < 0)) || (decide (v7 > a0.N))) then some (.inr (.inr (false, 2))) else some (.inl (addI .i64 s4 1))) else some (.inr (.inl ()))) : Option ((Int) ⊕ ((Unit) ⊕ (Bool × Int))))) 0).bind (Sum.elim (fun w5 => (iter (fun s11 : Int × Int => ((bif (decide (s11.1 < (a1.length : Int))) then (idx a1 s11.1).bind fun v14 => (idx a0.Most v14).bind fun v15 => (remc (addI .i64 s11.1 1) (a1.length : Int)).bind fun v16 => (idx a1 v16).bind fun v17 => (idx v15 v17).bind fun v18 => (bif (v18 == (-1099511627776)) then some (.inr (.inr (false, 0))) else some (.inl ((addI .i64 s11.1 1), (addI .i64 s11.2 v18)))) else some (.inr (.inl s11.2))) : Option ((Int × Int) ⊕ ((Int) ⊕ (Bool × Int))))) (0, 0)).bind (Sum.elim (fun w12 => some ((decide (w12 < 0)), 0)) some)) some)))

/-- pneumatic/pneumaticref11.index -/
def m52 (a0 : SBounds) (a1 : Int) : Option Bool :=
  some ((decide (a1 ≥ 0)) && (decide (a1 ≤ a0.N)))

/-- pneumatic/pneumaticref11.sum -/
def m88 (a0 : Int) (a1 : Int) : Option Int :=
  (bif ((a0 == (-1099511627776)) || (a1 == (-1099511627776))) then some (-1099511627776) else some (addI .i64 a0 a1))

/-- pneumatic/pneumaticref11.Proves -/
def m53 (a0 : SBounds) (a1 : (List Int)) : Option Bool :=
  (iter (fun s1 : Int × Int => ((bif (decide (s1.2 < (a1.length : Int))) then (idx a1 s1.2).bind fun v4 => (idx a0.Most v4).bind fun v5 => (remc (addI .i64 s1.2 1) (a1.length : Int)).bind fun v6 => (idx a1 v6).bind fun v7 => (idx v5 v7).bind fun v8 => (m88 s1.1 v8).bind fun v9 => some (.inl (v9, (addI .i64 s1.2 1))) else some (.inr s1.1)) : Option ((Int × Int) ⊕ (Int)))) (0, 0)).bind fun w2 => some ((w2 != (-1099511627776)) && (decide (w2 < 0)))

/-- pneumatic/pneumaticref11.Verify -/
def m17 (a0 : SBounds) (a1 : (List Int)) : Option (Bool × Int) :=
  (m28 a0).bind fun v1 => (bif (v1 != 0) then some (false, v1) else (bif ((a1.length : Int) == 0) then some (false, 13) else (iter (fun s4 : Int => ((bif (decide (s4 < (a1.length : Int))) then (idx a1 s4).bind fun v7 => (m52 a0 v7).bind fun v8 => (bif (!v8) then some (.inr (.inr (false, 2))) else some (.inl (addI .i64 s4 1))) else some (.inr (.inl ()))) : Option ((Int) ⊕ ((Unit) ⊕ (Bool × Int))))) 0).bind (Sum.elim (fun w5 => (m53 a0 a1).bind fun v10 => some (v10, 0)) some)))

/-- pneumatic/bounds.Holds$1 -/
def m66 (a0 : Int) : Option Bool :=
  (m67 a0).bind fun v1 => some (!v1)

/-- slices.IndexFunc[[]int,int] -/
def m77_66 (a0 : (List Int)) : Option Int :=
  (iter (fun s1 : Int => ((bif (decide (s1 < (a0.length : Int))) then (idx a0 s1).bind fun v4 => (m66 v4).bind fun v5 => (bif v5 then some (.inr (.inr s1)) else some (.inl (addI .i64 s1 1))) else some (.inr (.inl ()))) : Option ((Int) ⊕ ((Unit) ⊕ Int)))) 0).bind (Sum.elim (fun w2 => some (-1)) some)

/-- slices.ContainsFunc[[]int,int] -/
def m39_66 (a0 : (List Int)) : Option Bool :=
  (m77_66 a0).bind fun v1 => some (decide (v1 ≥ 0))

/-- pneumatic/bounds.Holds -/
def m30 (a0 : SBounds) (a1 : (List Int)) : Option (Bool × Int) :=
  (m32 a0).bind fun v1 => (bif (v1 != 0) then some (false, v1) else (bif ((a1.length : Int) != a0.N) then some (false, 8) else (m39_66 a1).bind fun v4 => (bif v4 then some (false, 2) else (appc 8 ([0] : List Int) a1).bind fun l6 => (iter (fun s7 : Int => ((bif (decide (s7 < (a0.Most.length : Int))) then (idx a0.Most s7).bind fun v10 => (iter (fun s11 : Int => ((bif (decide (s11 < (v10.length : Int))) then (idx v10 s11).bind fun v14 => ((bif (v14 != (-1099511627776)) then (idx l6 s11).bind fun v17 => (idx l6 s7).bind fun v18 => some (decide ((subI .i64 v17 v18) > v14)) else some false) : Option (Bool)).bind fun w15 => (bif w15 then some (.inr (.inr (.inr (.inr (false, 0))))) else some (.inl (addI .i64 s11 1))) else some (.inr (.inl ()))) : Option ((Int) ⊕ ((Unit) ⊕ ((Int) ⊕ ((Unit) ⊕ (Bool × Int))))))) 0).bind (Sum.elim (fun w12 => some (.inl (addI .i64 s7 1))) some) else some (.inr (.inl ()))) : Option ((Int) ⊕ ((Unit) ⊕ (Bool × Int))))) 0).bind (Sum.elim (fun w8 => some (true, 0)) some))))

/-- pneumatic/pneumaticref11.Kept -/
def m68 (a0 : SBounds) (a1 : (List Int)) : Option Bool :=
  (appc 8 ([0] : List Int) a1).bind fun l1 => (iter (fun s2 : Int => ((bif (decide (s2 ≤ a0.N)) then (iter (fun s5 : Int => ((bif (decide (s5 ≤ a0.N)) then ((idx a0.Most s2).bind fun v9 => (idx v9 s5).bind fun v10 => (bif (v10 != (-1099511627776)) then (idx l1 s5).bind fun v12 => (idx l1 s2).bind fun v13 => (idx a0.Most s2).bind fun v14 => (idx v14 s5).bind fun v15 => some (decide ((subI .i64 v12 v13) > v15)) else some false) : Option (Bool)).bind fun w8 => (bif w8 then some (.inr (.inr (.inr (.inr false)))) else some (.inl (addI .i64 s5 1))) else some (.inr (.inl ()))) : Option ((Int) ⊕ ((Unit) ⊕ ((Int) ⊕ ((Unit) ⊕ Bool)))))) 0).bind (Sum.elim (fun w6 => some (.inl (addI .i64 s2 1))) some) else some (.inr (.inl ()))) : Option ((Int) ⊕ ((Unit) ⊕ Bool)))) 0).bind (Sum.elim (fun w3 => some true) some)

/-- pneumatic/pneumaticref11.Holds -/
def m31 (a0 : SBounds) (a1 : (List Int)) : Option (Bool × Int) :=
  (m28 a0).bind fun v1 => (bif (v1 != 0) then some (false, v1) else (bif ((a1.length : Int) != a0.N) then some (false, 8) else (iter (fun s4 : Int => ((bif (decide (s4 < (a1.length : Int))) then (idx a1 s4).bind fun v7 => (m65 v7).bind fun v8 => (bif (!v8) then some (.inr (.inr (false, 2))) else some (.inl (addI .i64 s4 1))) else some (.inr (.inl ()))) : Option ((Int) ⊕ ((Unit) ⊕ (Bool × Int))))) 0).bind (Sum.elim (fun w5 => (m68 a0 a1).bind fun v10 => some (v10, 0)) some)))

/-- pneumatic/pneumaticlaw11.BoundsChecks -/
def m7 (a0 : SBounds) (a1 : (List Int)) (a2 : (List Int)) : Option Bool :=
  ((m12 a0).bind fun v2 => (bif (!v2) then some true else (bif (decide ((a1.length : Int) > 50)) then some true else some (decide ((a2.length : Int) > 50)))) : Option (Bool)).bind fun w1 => (bif w1 then (m13).bind fun v6 => some v6 else (m29 a0 a1).bind fun v7 => (m17 a0 a1).bind fun v8 => (m30 a0 a2).bind fun v9 => (m31 a0 a2).bind fun v10 => ((m13).bind fun v12 => (bif v12 then (m32 a0).bind fun v14 => (m28 a0).bind fun v15 => (bif (v14 == v15) then (bif ((v7.1 == v8.1) != false) then (bif (v7.2 == v8.2) then (bif ((v9.1 == v10.1) != false) then some (v9.2 == v10.2) else some false) else some false) else some false) else some false) else some false) : Option (Bool)).bind fun w11 => some w11)

end G11
