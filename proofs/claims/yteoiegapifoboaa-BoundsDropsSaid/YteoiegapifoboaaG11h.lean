/- Bounds, and what is computed of them, in plain words. No condition. -/
import Derived.Test.YteoiegapifoboaaG11M
import Derived.Test.YteoiegapifoboaaAmP1
namespace G11
open Go Go.Pl

def mx : Nat := 9223372036854775807
def OkR (l : List Int) : Prop := l.length ≤ mx ∧ ∀ n ∈ l, -9223372036854775808 ≤ n ∧ n ≤ 9223372036854775807
def OkQ (b : SBounds) : Prop := (-9223372036854775808 ≤ b.N ∧ b.N ≤ 9223372036854775807) ∧ b.Most.length ≤ mx ∧ ∀ row ∈ b.Most, OkR row

def Ent (n : Int) : Prop := n = -1099511627776 ∨ (-64000000 ≤ n ∧ n ≤ 64000000)
def EntD (k i x : Int) : Prop := Ent x ∧ (k = i → x = 0)
structure Right (b : SBounds) : Prop where
  n0 : 0 ≤ b.N
  n1 : b.N ≤ 12
  len : (b.Most.length : Int) = b.N + 1
  row : ∀ i (h : i < b.Most.length), (b.Most[i].length : Int) = b.N + 1
  ent : ∀ i (h : i < b.Most.length) j (h' : j < b.Most[i].length), Ent b.Most[i][j]
  dg : ∀ i (h : i < b.Most.length) (h' : i < b.Most[i].length), b.Most[i][i] = 0

theorem m65_eq (n : Int) : m65 n = some (decide (-64000000 ≤ n ∧ n ≤ 64000000)) := by
  simp [m65, Bool.decide_and]
theorem m67_eq (n : Int) : m67 n = some (decide (-64000000 ≤ n ∧ n ≤ 64000000)) := by
  simp [m67, Bool.decide_and]

/-- is a number none, or a bound? -/
def bad (n : Int) : Bool := n != -1099511627776 && !decide (-64000000 ≤ n ∧ n ≤ 64000000)
theorem bad_ref (n : Int) : ((bif (n != (-1099511627776)) then (m65 n).bind fun v20 => some (!v20) else some false) : Option Bool) = some (bad n) := by
  unfold bad
  cases h : (n != -1099511627776) <;> simp [m65_eq]
theorem bad_prog (n : Int) : ((bif (n != (-1099511627776)) then (m67 n).bind fun v20 => some (!v20) else some false) : Option Bool) = some (bad n) := by
  unfold bad
  cases h : (n != -1099511627776) <;> simp [m67_eq]
theorem bad_false {n : Int} (h : bad n = false) : Ent n := by
  unfold bad at h; unfold Ent
  by_cases h1 : n = -1099511627776
  · exact .inl h1
  · right
    simp [h1] at h; exact h

theorem check_eq0 (b : SBounds) : ∃ c, m28 b = some c ∧ m32 b = some c ∧ (c = 0 → Right b) := by
  unfold m28 m32
  cases h1 : ((decide (b.N < 0)) || (decide (b.N > 12)))
  case true => exact ⟨2, rfl, rfl, fun h => by omega⟩
  simp only [Bool.or_eq_false_iff, decide_eq_false_iff_not] at h1
  rw [addI_eq (by omega) (by omega)]
  simp only [cond_false]
  cases h2 : ((b.Most.length : Int) != b.N + 1)
  case true => exact ⟨8, rfl, rfl, fun h => by omega⟩
  have h2' : (b.Most.length : Int) = b.N + 1 := by simpa using h2
  simp only [cond_false]
  obtain ⟨r, e, q⟩ : ∃ r, iter (fun s5 : Int => ((bif (decide (s5 < (b.Most.length : Int))) then (idx b.Most s5).bind fun v8 => (bif ((v8.length : Int) != b.N + 1) then some (.inr (.inr 8)) else some (.inl (addI .i64 s5 1))) else some (.inr (.inl ()))) : Option ((Int) ⊕ ((Unit) ⊕ Int)))) 0 = some r ∧
      (r = .inr 8 ∨ r = .inl () ∧ ∀ i (h : i < b.Most.length), (b.Most[i].length : Int) = b.N + 1) := by
    refine iter_cnt b.Most.length (by unfold fuel; omega) (fun k => ∀ i (h : i < b.Most.length), i < k → (b.Most[i].length : Int) = b.N + 1) _ (by intro i _ h; omega) ?_
    intro k hk hp
    by_cases hlt : k < b.Most.length
    · rw [cond_t (lt_t (by omega)), idx_lt hlt, Option.bind_some]
      cases h3 : ((b.Most[k].length : Int) != b.N + 1)
      · left
        refine ⟨hlt, by rw [cond_false, addI_nat (by omega)], fun i hi hik => ?_⟩
        by_cases e : i = k
        · subst e; simpa using h3
        · exact hp i hi (by omega)
      · right
        exact ⟨_, rfl, .inl rfl⟩
    · right
      rw [cond_f (lt_f (by omega))]
      exact ⟨_, rfl, .inr ⟨rfl, fun i hi => hp i hi (by omega)⟩⟩
  rw [e]
  rcases q with rfl | ⟨rfl, hrow⟩
  · exact ⟨8, rfl, rfl, fun h => by omega⟩
  simp only [Option.bind_some, Sum.elim_inl]
  -- the numbers
  let n := b.Most.length
  obtain ⟨r1, r2, e1, e2, q⟩ := sim_cnt (b1 := fun s10 : Int => ((bif (decide (s10 ≤ b.N)) then (iter (fun s13 : Int => ((bif (decide (s13 ≤ b.N)) then (idx b.Most s10).bind fun v16 => (idx v16 s13).bind fun v17 => ((bif (v17 != (-1099511627776)) then (m65 v17).bind fun v20 => some (!v20) else some false) : Option (Bool)).bind fun w18 => (bif w18 then some (.inr (.inr (.inr (.inr 2)))) else ((bif (s10 == s13) then (idx b.Most s10).bind fun v24 => (idx v24 s13).bind fun v25 => some (v25 != 0) else some false) : Option (Bool)).bind fun w22 => (bif w22 then some (.inr (.inr (.inr (.inr 3)))) else some (.inl (addI .i64 s13 1)))) else some (.inr (.inl ()))) : Option ((Int) ⊕ ((Unit) ⊕ ((Int) ⊕ ((Unit) ⊕ Int)))))) 0).bind (Sum.elim (fun w14 => some (.inl (addI .i64 s10 1))) some) else some (.inr (.inl ()))) : Option ((Int) ⊕ ((Unit) ⊕ Int))))
    (b2 := fun s10 : Int => ((bif (decide (s10 < (b.Most.length : Int))) then (idx b.Most s10).bind fun v13 => (iter (fun s14 : Int => ((bif (decide (s14 < (v13.length : Int))) then (idx v13 s14).bind fun v17 => ((bif (v17 != (-1099511627776)) then (m67 v17).bind fun v20 => some (!v20) else some false) : Option (Bool)).bind fun w18 => (bif w18 then some (.inr (.inr (.inr (.inr 2)))) else (bif ((s10 == s14) && (v17 != 0)) then some (.inr (.inr (.inr (.inr 3)))) else some (.inl (addI .i64 s14 1)))) else some (.inr (.inl ()))) : Option ((Int) ⊕ ((Unit) ⊕ ((Int) ⊕ ((Unit) ⊕ Int)))))) 0).bind (Sum.elim (fun w15 => some (.inl (addI .i64 s10 1))) some) else some (.inr (.inl ()))) : Option ((Int) ⊕ ((Unit) ⊕ Int))))
    n (by unfold fuel; omega) (fun k => ∀ i (h : i < b.Most.length), i < k → ∀ j (h' : j < b.Most[i].length), EntD (i : Int) (j : Int) b.Most[i][j])
    (fun r1 r2 => r1 = r2 ∧ ((∃ c, r1 = .inr c ∧ c ≠ 0) ∨ (r1 = .inl () ∧ ∀ i (h : i < b.Most.length), ∀ j (h' : j < b.Most[i].length), EntD (i : Int) (j : Int) b.Most[i][j]))) (by intro i _ h; omega) (by
    intro k hk hp
    by_cases hlt : k < b.Most.length
    · have hrk := hrow k hlt
      rw [cond_t (le_t (by omega)), cond_t (lt_t (by omega)), idx_lt hlt]
      simp only [Option.bind_some]
      obtain ⟨r1, r2, e1, e2, q⟩ := sim_cnt (b1 := fun s13 : Int => ((bif (decide (s13 ≤ b.N)) then (idx b.Most[k] s13).bind fun v17 => ((bif (v17 != (-1099511627776)) then (m65 v17).bind fun v20 => some (!v20) else some false) : Option (Bool)).bind fun w18 => (bif w18 then some (.inr (.inr (.inr (.inr 2)))) else ((bif ((k : Int) == s13) then (idx b.Most[k] s13).bind fun v25 => some (v25 != 0) else some false) : Option (Bool)).bind fun w22 => (bif w22 then some (.inr (.inr (.inr (.inr 3)))) else some (.inl (addI .i64 s13 1)))) else some (.inr (.inl ()))) : Option ((Int) ⊕ ((Unit) ⊕ ((Int) ⊕ ((Unit) ⊕ Int))))))
        (b2 := fun s14 : Int => ((bif (decide (s14 < (b.Most[k].length : Int))) then (idx b.Most[k] s14).bind fun v17 => ((bif (v17 != (-1099511627776)) then (m67 v17).bind fun v20 => some (!v20) else some false) : Option (Bool)).bind fun w18 => (bif w18 then some (.inr (.inr (.inr (.inr 2)))) else (bif (((k : Int) == s14) && (v17 != 0)) then some (.inr (.inr (.inr (.inr 3)))) else some (.inl (addI .i64 s14 1)))) else some (.inr (.inl ()))) : Option ((Int) ⊕ ((Unit) ⊕ ((Int) ⊕ ((Unit) ⊕ Int))))))
        b.Most[k].length (by unfold fuel; omega) (fun j => ∀ i (h : i < b.Most[k].length), i < j → EntD (k : Int) (i : Int) b.Most[k][i])
        (fun r1 r2 => r1 = r2 ∧ ((∃ c, r1 = .inr (.inr (.inr c)) ∧ c ≠ 0) ∨ (r1 = .inl () ∧ ∀ i (h : i < b.Most[k].length), EntD (k : Int) (i : Int) b.Most[k][i]))) (by intro i _ h; omega) (by
        intro j hj hq
        by_cases hlj : j < b.Most[k].length
        · rw [cond_t (le_t (by omega)), cond_t (lt_t (by omega)), idx_lt hlj]
          simp only [Option.bind_some, bad_ref, bad_prog]
          cases hbad : bad b.Most[k][j]
          · simp only [cond_false]
            cases hd : ((k : Int) == (j : Int))
            · left
              simp only [cond_false, Option.bind_some, Bool.false_and]
              refine ⟨hlj, by rw [addI_nat (by omega)], by rw [addI_nat (by omega)], fun i hi hij => ?_⟩
              by_cases e : i = j
              · subst e; exact ⟨bad_false hbad, fun h => by rw [h] at hd; simp at hd⟩
              · exact hq i hi (by omega)
            · simp only [cond_true, Option.bind_some, Bool.true_and]
              cases hz : (b.Most[k][j] != 0)
              · left
                simp only [cond_false]
                refine ⟨hlj, by rw [addI_nat (by omega)], by rw [addI_nat (by omega)], fun i hi hij => ?_⟩
                by_cases e : i = j
                · subst e; exact ⟨bad_false hbad, fun _ => by simpa using hz⟩
                · exact hq i hi (by omega)
              · right
                exact ⟨_, _, rfl, rfl, rfl, .inl ⟨3, rfl, by decide⟩⟩
          · right
            exact ⟨_, _, rfl, rfl, rfl, .inl ⟨2, rfl, by decide⟩⟩
        · right
          rw [cond_f (le_f (by omega)), cond_f (lt_f (by omega))]
          exact ⟨_, _, rfl, rfl, rfl, .inr ⟨rfl, fun i hi => hq i hi (by omega)⟩⟩)
      rw [e1, e2]
      obtain ⟨rfl, q⟩ := q
      rcases q with ⟨c, rfl, hc⟩ | ⟨rfl, q⟩
      · right
        exact ⟨_, _, rfl, rfl, rfl, .inl ⟨c, rfl, hc⟩⟩
      · left
        refine ⟨hlt, ?_, ?_, fun i hi hik => ?_⟩
        · simp only [Option.bind_some, Sum.elim_inl]; rw [addI_nat (by omega)]
        · simp only [Option.bind_some, Sum.elim_inl]; rw [addI_nat (by omega)]
        · by_cases e : i = k
          · subst e; exact q
          · exact hp i hi (by omega)
    · right
      rw [cond_f (le_f (by omega)), cond_f (lt_f (by omega))]
      exact ⟨_, _, rfl, rfl, rfl, .inr ⟨rfl, fun i hi => hp i hi (by omega)⟩⟩)
  rw [e1, e2]
  obtain ⟨rfl, q⟩ := q
  rcases q with ⟨c, rfl, hc⟩ | ⟨rfl, q⟩
  · exact ⟨c, rfl, rfl, fun h => (hc h).elim⟩
  · exact ⟨0, rfl, rfl, fun _ => ⟨by omega, by omega, h2', hrow, fun i h j h' => (q i h j h').1, fun i h h' => (q i h i h').2 rfl⟩⟩
end G11

namespace G11
open Go Go.Pl
set_option linter.unusedVariables false

/-- lists that are as long as they are wide -/
def Sq (n : Nat) (l : List (List Int)) : Prop := l.length = n ∧ ∀ r ∈ l, r.length = n
/-- right bounds about few times -/
structure Rt (N : Nat) (l : List (List Int)) : Prop where
  hN : N + 1 ≤ 7
  sq : Sq (N + 1) l
  dg : ∀ i, i < N + 1 → ent l i i = 0
  en : ∀ i j, i < N + 1 → j < N + 1 → Ent (ent l i j)

theorem ent_get {l : List (List Int)} {i j : Nat} (hi : i < l.length) (hj : j < l[i].length) : ent l i j = l[i][j] := by
  unfold ent
  simp [List.getD_eq_getElem?_getD, hi, hj]
theorem ent_out {l : List (List Int)} {i j : Nat} (h : ∀ hi : i < l.length, ¬ j < l[i].length) : ent l i j = 0 := by
  unfold ent
  by_cases hi : i < l.length
  · have := h hi
    simp only [List.getD_eq_getElem?_getD, List.getElem?_eq_getElem hi, Option.getD_some]
    rw [List.getElem?_eq_none (by omega)]; rfl
  · simp [List.getD_eq_getElem?_getD, List.getElem?_eq_none (show l.length ≤ i by omega)]

theorem Right.rt {b : SBounds} (h : Right b) (h6 : ¬ b.N > 6) : ∃ N : Nat, b.N = (N : Int) ∧ Rt N b.Most := by
  have h0 := h.n0
  refine ⟨b.N.toNat, by omega, ?_⟩
  have hl : b.Most.length = b.N.toNat + 1 := by have := h.len; omega
  have hr : ∀ i (hi : i < b.Most.length), b.Most[i].length = b.N.toNat + 1 := fun i hi => by have := h.row i hi; omega
  refine ⟨by omega, ⟨hl, fun r hr' => ?_⟩, fun i hi => ?_, fun i j hi hj => ?_⟩
  · obtain ⟨i, hi, rfl⟩ := List.getElem_of_mem hr'
    exact hr i hi
  · rw [ent_get (by omega) (by rw [hr i (by omega)]; exact hi)]
    exact h.dg i (by omega) (by rw [hr i (by omega)]; exact hi)
  · rw [ent_get (by omega) (by rw [hr i (by omega)]; exact hj)]
    exact h.ent i (by omega) j (by rw [hr i (by omega)]; exact hj)

section
variable {N : Nat} {l : List (List Int)} (h : Rt N l)
include h
theorem Rt.w0 {i : Nat} (hi : i < N + 1) : wt l i i = some 0 := by unfold wt toO; rw [h.dg i hi]; rfl
theorem Rt.any (i j : Nat) : Ent (ent l i j) := by
  by_cases hi : i < N + 1
  · by_cases hj : j < N + 1
    · exact h.en i j hi hj
    · rw [ent_out (fun hi' => by have := h.sq.2 _ (List.getElem_mem hi'); omega)]
      exact .inr ⟨by omega, by omega⟩
  · rw [ent_out (fun hi' => by have := h.sq.1; omega)]
    exact .inr ⟨by omega, by omega⟩
theorem Rt.ws {i j : Nat} {x : Int} (e : wt l i j = some x) : -64000000 ≤ x ∧ x ≤ 64000000 := by
  unfold wt toO at e
  split at e
  · cases e
  · rename_i hne
    injection e with e
    have := h.any i j
    unfold Ent at this
    omega
theorem Rt.es {i j : Nat} (hne : ent l i j ≠ -1099511627776) : -64000000 ≤ ent l i j ∧ ent l i j ≤ 64000000 := by
  have := h.any i j
  unfold Ent at this
  omega
omit h in
theorem ofO_toO (x : Int) : ofO (toO x) = x := by unfold toO; split <;> simp_all [ofO]

theorem Rt.solve_eq : solve l = (match rounds (N + 1) (wt l) (N + 1) bf0 with | some s => .inl ((cycL (N + 1) s).map fun x : Nat => (x : Int)) | none => .inr (matO (N + 1) (fw (wt l) (N + 1)))) := by
  unfold solve; rw [h.sq.1]; cases rounds (N + 1) (wt l) (N + 1) bf0 <;> rfl
end
theorem matO_ent {n : Nat} {d : Wt} {i j : Nat} (hi : i < n) (hj : j < n) : ent (matO n d) i j = ofO (d i j) := by
  simp [matO, matL, rowL, ent, List.getD_eq_getElem?_getD, hi, hj]
theorem matL_ent {n : Nat} {d : Nat → Nat → Int} {i j : Nat} (hi : i < n) (hj : j < n) : ent (matL n d) i j = d i j := by
  simp [matL, rowL, ent, List.getD_eq_getElem?_getD, hi, hj]

theorem matL_congr {n : Nat} {m m' : Nat → Nat → Int} (h : ∀ i j, i < n → j < n → m i j = m' i j) : matL n m = matL n m' := by
  unfold matL rowL
  refine List.map_congr_left (fun i hi => List.map_congr_left (fun j hj => h i j (List.mem_range.1 hi) (List.mem_range.1 hj)))
/-- a bound before a place is out of its range -/
def bigB (n : Nat) (m : Nat → Nat → Int) (i j : Nat) : Prop := ∃ a b, a < n ∧ b < n ∧ (a < i ∨ a = i ∧ b < j) ∧ bigE (m a b) = true

theorem bigL {n : Nat} {m : Nat → Nat → Int} : big (matL n m) = true ↔ bigB n m n 0 := by
  unfold big bigB matL rowL
  simp only [List.any_eq_true, List.mem_map, List.mem_range]
  constructor
  · rintro ⟨r, ⟨i, hi, rfl⟩, x, hx, hb⟩
    obtain ⟨j, hj, rfl⟩ := List.mem_map.1 hx
    exact ⟨i, j, hi, List.mem_range.1 hj, .inl hi, hb⟩
  · rintro ⟨a, b, ha, hb, _, h⟩
    exact ⟨_, ⟨a, ha, rfl⟩, m a b, List.mem_map.2 ⟨b, List.mem_range.2 hb, rfl⟩, h⟩
end G11

namespace G11
open Go Go.Pl
set_option linter.unusedVariables false

/-- the closed bounds are the least sums -/
theorem solve_inr {N : Nat} {l d : List (List Int)} (h : Rt N l) (hs : solve l = .inr d) : NonNeg (N + 1) (wt l) ∧ d = pathL l ∧ possL l = true := by
  rw [h.solve_eq] at hs
  cases hr : rounds (N + 1) (wt l) (N + 1) bf0 with
  | some s => rw [hr] at hs; cases hs
  | none =>
    rw [hr] at hs
    injection hs with hs
    have hnn : NonNeg (N + 1) (wt l) := neg_none (fun i hi => h.w0 hi) hr
    have hL1 := fw_Least hnn (fun i hi => h.w0 hi)
    have hL2 := pth_Least hnn (m := N + 1) (by omega)
    refine ⟨hnn, ?_, ?_⟩
    · rw [← hs]
      unfold pathL
      rw [h.sq.1]
      exact matL_congr (fun i j hi hj => by rw [hL1.uniq hL2 hi hj])
    · unfold possL
      rw [List.all_eq_true]
      intro i hi
      have hi : i < N + 1 := by have := List.mem_range.1 hi; rw [h.sq.1] at this; exact this
      obtain ⟨y, e, _⟩ := pth_monos (n := N + 1) (w := wt l) (m := N + 1) (Nat.zero_le _) (i := i) (j := i) (x := 0) ⟨0, h.w0 hi, Int.le_refl _⟩
      have h2 := pth_diag hnn hi e
      have h3 : ent (pathL l) i i = y := by
        unfold pathL
        rw [h.sq.1, matO_ent hi hi, e]; rfl
      rw [h3]
      simp; omega
theorem solve_inl {N : Nat} {l : List (List Int)} {c : List Int} (h : Rt N l) (hs : solve l = .inl c) : possL l = false ∧ ∃ s la k x, Cyc (N + 1) (wt l) s la k x ∧ c = (cycL (N + 1) s).map fun x : Nat => (x : Int) := by
  rw [h.solve_eq] at hs
  cases hr : rounds (N + 1) (wt l) (N + 1) bf0 with
  | none => rw [hr] at hs; cases hs
  | some s =>
    rw [hr] at hs
    injection hs with hs
    obtain ⟨la, k, x, hc⟩ := neg_some (by omega) (fun i hi => h.w0 hi) hr
    refine ⟨?_, s, la, k, x, hc, hs.symm⟩
    obtain ⟨i, y, hi, e, hy⟩ := hc.pth (m := N + 1) (by omega)
    unfold possL
    rw [List.all_eq_false]
    refine ⟨i, List.mem_range.2 (by rw [h.sq.1]; exact hi), ?_⟩
    have h3 : ent (pathL l) i i = y := by
      unfold pathL
      rw [h.sq.1, matO_ent hi hi, e]; rfl
    rw [h3]
    simp [hy]

end G11

namespace G11
open Go Go.Pl
set_option linter.unusedVariables false

theorem any_loop {α : Type} (q : α → Bool) (mq : α → Option Bool) (l : List α) (hq : ∀ x ∈ l, mq x = some (q x)) (hl : l.length ≤ mx) :
    ((iter (fun s1 : Int => ((bif (decide (s1 < (l.length : Int))) then (idx l s1).bind fun v4 => (mq v4).bind fun v5 => (bif v5 then some (.inr (.inr s1)) else some (.inl (addI .i64 s1 1))) else some (.inr (.inl ()))) : Option ((Int) ⊕ ((Unit) ⊕ Int)))) 0).bind (Sum.elim (fun w2 => some (-1)) some)).bind (fun v1 => some (decide (v1 ≥ 0))) = some (l.any q) := by
  unfold mx at hl
  obtain ⟨r, e, h⟩ := iter_cnt (body := fun s1 : Int => ((bif (decide (s1 < (l.length : Int))) then (idx l s1).bind fun v4 => (mq v4).bind fun v5 => (bif v5 then some (.inr (.inr s1)) else some (.inl (addI .i64 s1 1))) else some (.inr (.inl ()))) : Option ((Int) ⊕ ((Unit) ⊕ Int))))
    l.length (by unfold fuel; omega) (fun k => ∀ i (h : i < l.length), i < k → q l[i] = false) (fun r => (∃ k : Nat, r = .inr (k : Int) ∧ l.any q = true) ∨ r = .inl () ∧ l.any q = false) (fun i _ h => by omega) (by
    intro k hk hp
    by_cases hlt : k < l.length
    · have hm := hq _ (List.getElem_mem hlt)
      simp only [lt_t (show (k : Int) < (l.length : Int) by omega), cond_true, idx_lt hlt, Option.bind_some, hm]
      cases hb : q l[k] with
      | true =>
        right
        exact ⟨_, rfl, .inl ⟨k, rfl, List.any_eq_true.2 ⟨_, List.getElem_mem hlt, hb⟩⟩⟩
      | false =>
        left
        refine ⟨hlt, by rw [cond_false, addI_nat (by omega)], fun i hi hik => ?_⟩
        by_cases e : i = k
        · subst e; exact hb
        · exact hp i hi (by omega)
    · right
      simp only [lt_f (show ¬ (k : Int) < (l.length : Int) by omega), cond_false]
      refine ⟨_, rfl, .inr ⟨rfl, ?_⟩⟩
      rw [List.any_eq_false]
      intro x hx
      obtain ⟨i, hi, rfl⟩ := List.getElem_of_mem hx
      rw [hp i hi (by omega)]; decide)
  rw [e]
  rcases h with ⟨k, rfl, h⟩ | ⟨rfl, h⟩
  · rw [h]
    show some (decide ((k : Int) ≥ 0)) = some true
    rw [decide_eq_true (by omega)]
  · rw [h]; rfl

theorem far64 (l : List Int) (hl : l.length ≤ mx) : m39_64 l = some (l.any fun n => n != -1099511627776 && (decide (n < -1000000) || decide (n > 1000000))) :=
  any_loop (fun n => n != -1099511627776 && (decide (n < -1000000) || decide (n > 1000000))) m64 l (fun x _ => rfl) hl
theorem far62 (L : List (List Int)) (hl : L.length ≤ mx) (hr : ∀ r ∈ L, r.length ≤ mx) : m62_63 L = some (L.any fun l => l.any fun n => n != -1099511627776 && (decide (n < -1000000) || decide (n > 1000000))) :=
by
  have := any_loop (α := List Int) (fun l : List Int => l.any fun n => n != -1099511627776 && (decide (n < -1000000) || decide (n > 1000000))) m63 L (fun x hx => by unfold m63; rw [far64 x (hr x hx)]; rfl) hl
  exact this

/-- right bounds, few times, small numbers -/
theorem right_eq (b : SBounds) (hb : OkQ b) : ∃ r, m27 b = some r ∧ (r = true → m28 b = some 0 ∧ m32 b = some 0 ∧ b.N ≤ 6 ∧ Right b ∧ ∀ row ∈ b.Most, ∀ n ∈ row, n = -1099511627776 ∨ -1000000 ≤ n ∧ n ≤ 1000000) := by
  obtain ⟨c, e28, e32, hR⟩ := check_eq0 b
  unfold m27
  cases h1 : decide (b.N > 6)
  case true => exact ⟨false, rfl, fun h => by cases h⟩
  rw [cond_false, e28, Option.bind_some, Option.bind_some]
  cases h2 : (c != 0)
  case true => exact ⟨false, rfl, fun h => by cases h⟩
  have hc : c = 0 := by simpa using h2
  subst hc
  rw [cond_false, far62 b.Most hb.2.1 (fun r hr => (hb.2.2 r hr).1)]
  refine ⟨_, rfl, fun h => ⟨rfl, e32, by simp at h1; omega, hR rfl, fun row hrow n hn => ?_⟩⟩
  simp only [Bool.not_eq_true', List.any_eq_false] at h
  have h3 := h row hrow
  simp only [Bool.not_eq_true, List.any_eq_false] at h3
  have h4 := h3 n hn
  by_cases e : n = -1099511627776
  · exact .inl e
  · right
    simp [e] at h4
    omega

/-- right bounds pass the check -/
theorem check_ok {N : Nat} {l : List (List Int)} (h : Rt N l) : m32 ⟨(N : Int), l⟩ = some 0 := by
  have hN7 := h.hN
  have hlen := h.sq.1
  have hrow : ∀ i (hi : i < l.length), l[i].length = N + 1 := fun i hi => h.sq.2 _ (List.getElem_mem hi)
  unfold m32
  rw [show (decide ((N : Int) < 0) || decide ((N : Int) > 12)) = false by simp; omega, cond_false]
  simp only
  rw [addI_nat (k := N) (by omega), show ((l.length : Int) != ((N + 1 : Nat) : Int)) = false by simp [hlen], cond_false]
  obtain ⟨r, e, q⟩ := iter_cnt (body := fun s5 : Int => ((bif (decide (s5 < (l.length : Int))) then (idx l s5).bind fun v8 => (bif ((v8.length : Int) != ((N + 1 : Nat) : Int)) then some (.inr (.inr (8 : Int))) else some (.inl (addI .i64 s5 1))) else some (.inr (.inl ()))) : Option ((Int) ⊕ ((Unit) ⊕ Int))))
    l.length (by unfold fuel; omega) (fun _ => True) (fun r => r = .inl ()) trivial (by
    intro k hk _
    by_cases hlt : k < l.length
    · left
      refine ⟨hlt, ?_, trivial⟩
      simp only [lt_t (show (k : Int) < (l.length : Int) by omega), cond_true, idx_lt hlt, Option.bind_some, hrow k hlt, bne_self_eq_false, cond_false]
      rw [addI_nat (by omega)]
    · right
      simp only [lt_f (show ¬ (k : Int) < (l.length : Int) by omega), cond_false]
      exact ⟨_, rfl, rfl⟩)
  rw [e]; subst q
  simp only [Option.bind_some, Sum.elim_inl]
  obtain ⟨r, e, q⟩ := iter_cnt (body := fun s10 : Int => ((bif (decide (s10 < (l.length : Int))) then (idx l s10).bind fun v13 => (iter (fun s14 : Int => ((bif (decide (s14 < (v13.length : Int))) then (idx v13 s14).bind fun v17 => ((bif (v17 != (-1099511627776)) then (m67 v17).bind fun v20 => some (!v20) else some false) : Option (Bool)).bind fun w18 => (bif w18 then some (.inr (.inr (.inr (.inr (2 : Int))))) else (bif ((s10 == s14) && (v17 != 0)) then some (.inr (.inr (.inr (.inr 3)))) else some (.inl (addI .i64 s14 1)))) else some (.inr (.inl ()))) : Option ((Int) ⊕ ((Unit) ⊕ ((Int) ⊕ ((Unit) ⊕ Int)))))) 0).bind (Sum.elim (fun w15 => some (.inl (addI .i64 s10 1))) some) else some (.inr (.inl ()))) : Option ((Int) ⊕ ((Unit) ⊕ Int))))
    l.length (by unfold fuel; omega) (fun _ => True) (fun r => r = .inl ()) trivial (by
    intro k hk _
    by_cases hlt : k < l.length
    · left
      have hrk := hrow k hlt
      refine ⟨hlt, ?_, trivial⟩
      simp only [lt_t (show (k : Int) < (l.length : Int) by omega), cond_true, idx_lt hlt, Option.bind_some]
      obtain ⟨r, e, q⟩ := iter_cnt (body := fun s14 : Int => ((bif (decide (s14 < (l[k].length : Int))) then (idx l[k] s14).bind fun v17 => ((bif (v17 != (-1099511627776)) then (m67 v17).bind fun v20 => some (!v20) else some false) : Option (Bool)).bind fun w18 => (bif w18 then some (.inr (.inr (.inr (.inr (2 : Int))))) else (bif (((k : Int) == s14) && (v17 != 0)) then some (.inr (.inr (.inr (.inr 3)))) else some (.inl (addI .i64 s14 1)))) else some (.inr (.inl ()))) : Option ((Int) ⊕ ((Unit) ⊕ ((Int) ⊕ ((Unit) ⊕ Int))))))
        l[k].length (by unfold fuel; omega) (fun _ => True) (fun r => r = .inl ()) trivial (by
        intro j hj _
        by_cases hlj : j < l[k].length
        · left
          refine ⟨hlj, ?_, trivial⟩
          have he := ent_get hlt hlj
          have hE := h.en k j (by omega) (by omega)
          rw [he] at hE
          have hbad : bad l[k][j] = false := by
            unfold bad
            unfold Ent at hE
            rcases hE with g | g
            · simp [g]
            · simp [g.1, g.2]
          have hdg : (((k : Int) == (j : Int)) && (l[k][j] != 0)) = false := by
            by_cases e : k = j
            · subst e
              have := h.dg k (by omega)
              rw [he] at this
              simp [this]
            · have : ((k : Int) == (j : Int)) = false := by simp; omega
              rw [this]; rfl
          simp only [lt_t (show (j : Int) < (l[k].length : Int) by omega), cond_true, idx_lt hlj, Option.bind_some, bad_prog, hbad, cond_false, hdg]
          rw [addI_nat (by omega)]
        · right
          simp only [lt_f (show ¬ (j : Int) < (l[k].length : Int) by omega), cond_false]
          exact ⟨_, rfl, rfl⟩)
      rw [e]; subst q
      show some (Sum.inl (addI .i64 (k : Int) 1)) = _
      rw [addI_nat (by omega)]
    · right
      simp only [lt_f (show ¬ (k : Int) < (l.length : Int) by omega), cond_false]
      exact ⟨_, rfl, rfl⟩)
  rw [e]; subst q; rfl
end G11

namespace G11
open Go Go.Pl
set_option linter.unusedVariables false

/-- bounds that are closed, with small numbers -/
theorem closed_facts {N : Nat} {l d : List (List Int)} (h : Rt N l) (hM : ∀ i j x, wt l i j = some x → -1000000 ≤ x ∧ x ≤ 1000000) (hs : solve l = .inr d) :
    ∃ D : Wt, NonNeg (N + 1) (wt l) ∧ Least (N + 1) (wt l) D ∧ (∀ i, i < N + 1 → D i i = some 0) ∧ (∀ i j, i < N + 1 → j < N + 1 → ent d i j = ofO (D i j)) ∧ (∀ i j x, D i j = some x → -8000000 ≤ x ∧ x ≤ 8000000) ∧ d = matL (N + 1) (ent d) := by
  obtain ⟨hnn, hd, _⟩ := solve_inr h hs
  have hN7 := h.hN
  have hL := pth_Least hnn (m := N + 1) (by omega)
  have he : ∀ i j, i < N + 1 → j < N + 1 → ent d i j = ofO (pth (N + 1) (wt l) (N + 1) i j) := fun i j hi hj => by
    rw [hd]; unfold pathL; rw [h.sq.1, matO_ent hi hj]
  refine ⟨pth (N + 1) (wt l) (N + 1), hnn, hL, fun i hi => ?_, he, fun i j x e => ?_, ?_⟩
  · obtain ⟨y, e, hy⟩ := hL.least i i 1 0 (by omega) (.one hi hi (h.w0 hi))
    have := pth_diag hnn hi e
    rw [e]; congr 1; omega
  · have := pth_small (M := 1000000) (by omega) hM (N + 1) e
    omega
  · have : d = matL (N + 1) fun i j => ofO (pth (N + 1) (wt l) (N + 1) i j) := by rw [hd]; unfold pathL; rw [h.sq.1]; rfl
    rw [this]
    exact matL_congr (fun i j hi hj => (matL_ent (d := fun i j => ofO (pth (N + 1) (wt l) (N + 1) i j)) hi hj).symm)
theorem closed_rt {N : Nat} {l d : List (List Int)} {D : Wt} (h : Rt N l) (h0 : ∀ i, i < N + 1 → D i i = some 0) (he : ∀ i j, i < N + 1 → j < N + 1 → ent d i j = ofO (D i j)) (hs : ∀ i j x, D i j = some x → -8000000 ≤ x ∧ x ≤ 8000000) (hd : d = matL (N + 1) (ent d)) : Rt N d := by
  refine ⟨h.hN, ⟨by rw [hd]; simp [matL], fun r hr => ?_⟩, fun i hi => by rw [he i i hi hi, h0 i hi]; rfl, fun i j hi hj => ?_⟩
  · rw [hd] at hr
    obtain ⟨i, _, rfl⟩ := List.mem_map.1 hr
    simp [rowL]
  · rw [he i j hi hj]
    cases e : D i j with
    | none => exact .inl rfl
    | some x => have := hs i j x e; exact .inr ⟨by show -64000000 ≤ x; omega, by show x ≤ 64000000; omega⟩
theorem ofO_some {D : Option Int} {x : Int} (hs : ∀ y, D = some y → -8000000 ≤ y ∧ y ≤ 8000000) (h : ofO D = x) (hne : x ≠ -1099511627776) : D = some x := by
  cases D with
  | none => exact (hne h.symm).elim
  | some y => congr 1

theorem small_wt {b : SBounds} {N : Nat} (h : Rt N b.Most) (hs : ∀ row ∈ b.Most, ∀ n ∈ row, n = -1099511627776 ∨ -1000000 ≤ n ∧ n ≤ 1000000) : ∀ i j x, wt b.Most i j = some x → -1000000 ≤ x ∧ x ≤ 1000000 := by
  intro i j x e
  unfold wt toO at e
  split at e
  · cases e
  · rename_i hne
    injection e with e
    subst e
    by_cases hi : i < b.Most.length
    · by_cases hj : j < b.Most[i].length
      · rw [ent_get hi hj] at hne ⊢
        rcases hs _ (List.getElem_mem hi) _ (List.getElem_mem hj) with g | g
        · exact (hne g).elim
        · exact g
      · rw [ent_out (fun hi' => hj)]; omega
    · rw [ent_out (fun hi' => (hi hi').elim)]; omega

end G11

namespace G11
open Go Go.Pl
set_option linter.unusedVariables false

/-- a loop that counts from 1 -/
theorem iter_one {ρ : Type} {body : Int → Option (Int ⊕ ρ)} (n : Nat) (hn : n < fuel) (Q : ρ → Prop)
    (h : ∀ k : Nat, 1 ≤ k → k ≤ n + 1 → (k < n + 1 ∧ body k = some (.inl ((k + 1 : Nat) : Int))) ∨ ∃ r, body k = some (.inr r) ∧ Q r) : ∃ r, iter body 1 = some r ∧ Q r := by
  refine iter_rule (fun s : Int => ∃ k : Nat, s = (k : Int) ∧ 1 ≤ k ∧ k ≤ n + 1) (fun s : Int => n + 1 - s.toNat) Q ⟨1, rfl, Nat.le_refl _, by omega⟩ (by simp; exact hn) ?_
  rintro s ⟨k, rfl, hk, hk2⟩
  rcases h k hk hk2 with ⟨h1, h2⟩ | ⟨r, h1, h2⟩
  · exact .inl ⟨_, h2, ⟨k + 1, rfl, by omega, h1⟩, by simp; omega⟩
  · exact .inr ⟨r, h1, h2⟩

theorem forget_solve {N kk : Nat} {l d : List (List Int)} (hRt : Rt N l) (hM : ∀ i j x, wt l i j = some x → -1000000 ≤ x ∧ x ≤ 1000000) (hs : solve l = .inr d) (h1 : 1 ≤ kk) (hk : kk ≤ N) :
    Rt N (forgetL d (N + 1) kk) ∧ ∃ d', solve (forgetL d (N + 1) kk) = .inr d' ∧ (∀ j, j < N + 1 → j ≠ kk → ent d' j 0 = ent d j 0 ∧ ent d' 0 j = ent d 0 j) ∧ ent d' kk 0 = -1099511627776 ∧ ent d' 0 kk = -1099511627776 := by
  obtain ⟨D, hnn, hL, hD0, he, hDs, hd⟩ := closed_facts hRt hM hs
  have hRd := closed_rt hRt hD0 he hDs hd
  have hF : ∀ i j, i < N + 1 → j < N + 1 → ent (forgetL d (N + 1) kk) i j = if i ≠ j ∧ (i = kk ∨ j = kk) then -1099511627776 else ent d i j := fun i j hi hj =>
    matL_ent (d := fun j k => if j ≠ k ∧ (j = kk ∨ k = kk) then -1099511627776 else ent d j k) hi hj
  have hRF : Rt N (forgetL d (N + 1) kk) := by
    refine ⟨hRt.hN, ⟨by simp [forgetL, matL], fun r hr => ?_⟩, fun i hi => ?_, fun i j hi hj => ?_⟩
    · obtain ⟨i, _, rfl⟩ := List.mem_map.1 hr
      simp [rowL]
    · rw [hF i i hi hi, if_neg (fun h => h.1 rfl)]; exact hRd.dg i hi
    · rw [hF i j hi hj]
      split
      · exact .inl rfl
      · exact hRd.en i j hi hj
  have wtF : ∀ i j x, i < N + 1 → j < N + 1 → wt (forgetL d (N + 1) kk) i j = some x → D i j = some x ∧ (i = kk ↔ j = kk) := by
    intro i j x hi hj e
    unfold wt toO at e
    rw [hF i j hi hj] at e
    by_cases c : i ≠ j ∧ (i = kk ∨ j = kk)
    · rw [if_pos c, if_pos rfl] at e; cases e
    · rw [if_neg c] at e
      split at e
      · cases e
      · rename_i hne
        injection e with e
        exact ⟨ofO_some (fun y => hDs _ _ y) ((he i j hi hj).symm.trans e) (by rw [← e]; exact hne), by omega⟩
  have walkF : ∀ {i j L s}, Walk (N + 1) (wt (forgetL d (N + 1) kk)) i j L s → (∃ L', (0 < L → 0 < L') ∧ Walk (N + 1) (wt l) i j L' s) ∧ (i = kk ↔ j = kk) := by
    intro i j L s h
    induction h with
    | nil h => exact ⟨⟨0, id, .nil h⟩, Iff.rfl⟩
    | @snoc k j L s x h hj e ih =>
      obtain ⟨⟨L', _, hw⟩, hi⟩ := ih
      obtain ⟨e1, e2⟩ := wtF _ _ _ h.right hj e
      obtain ⟨M, hM0, hw2⟩ := hL.walk _ _ _ h.right hj e1
      exact ⟨⟨L' + M, fun _ => by omega, hw.app hw2⟩, hi.trans e2⟩
  have nnF : NonNeg (N + 1) (wt (forgetL d (N + 1) kk)) := fun i L s h => by
    obtain ⟨⟨L', _, hw⟩, _⟩ := walkF h
    exact hnn _ _ _ hw
  refine ⟨hRF, ?_⟩
  cases hs' : solve (forgetL d (N + 1) kk) with
  | inl c =>
    obtain ⟨_, s, la, k, x, hc, _⟩ := solve_inl hRF hs'
    have hw := hc.walk k (Nat.le_refl _)
    rw [Nat.add_sub_cancel, hc.back] at hw
    have := nnF _ _ _ hw
    have := hc.neg
    omega
  | inr d' =>
    obtain ⟨_, hd', _⟩ := solve_inr hRF hs'
    have hL' := pth_Least nnF (m := N + 1) (by omega)
    have he' : ∀ i j, i < N + 1 → j < N + 1 → ent d' i j = ofO (pth (N + 1) (wt (forgetL d (N + 1) kk)) (N + 1) i j) := fun i j hi hj => by
      rw [hd']; unfold pathL; rw [hRF.sq.1, matO_ent hi hj]
    have same : ∀ i j, i < N + 1 → j < N + 1 → i ≠ kk → j ≠ kk → ent d' i j = ent d i j := by
      intro i j hi hj ni nj
      rw [he' i j hi hj, he i j hi hj]
      congr 1
      cases e : D i j with
      | none =>
        cases e2 : pth (N + 1) (wt (forgetL d (N + 1) kk)) (N + 1) i j with
        | none => rfl
        | some x =>
          obtain ⟨L, hL0, hw⟩ := hL'.walk i j x hi hj e2
          obtain ⟨⟨L2, hL2, hw2⟩, _⟩ := walkF hw
          obtain ⟨y, e3, _⟩ := hL.least i j L2 x (hL2 hL0) hw2
          rw [e] at e3; cases e3
      | some y =>
        have hy := hDs _ _ _ e
        have e1 : wt (forgetL d (N + 1) kk) i j = some y := by
          unfold wt toO
          rw [hF i j hi hj, if_neg (show ¬ (i ≠ j ∧ (i = kk ∨ j = kk)) by omega), he i j hi hj, e]
          exact if_neg (by show y ≠ _; omega)
        obtain ⟨z, e2, hz⟩ := hL'.least i j 1 y (by omega) (.one hi hj e1)
        obtain ⟨L, hL0, hw⟩ := hL'.walk i j z hi hj e2
        obtain ⟨⟨L2, hL2, hw2⟩, _⟩ := walkF hw
        obtain ⟨y', e3, h3⟩ := hL.least i j L2 z (hL2 hL0) hw2
        rw [e] at e3
        injection e3 with e3
        rw [e2]; congr 1; omega
    have lost : ∀ i j, i < N + 1 → j < N + 1 → ¬ (i = kk ↔ j = kk) → ent d' i j = -1099511627776 := by
      intro i j hi hj hn
      rw [he' i j hi hj]
      cases e2 : pth (N + 1) (wt (forgetL d (N + 1) kk)) (N + 1) i j with
      | none => rfl
      | some x =>
        obtain ⟨L, hL0, hw⟩ := hL'.walk i j x hi hj e2
        exact (hn (walkF hw).2).elim
    exact ⟨d', rfl, fun j hj nj => ⟨same j 0 hj (by omega) nj (by omega), same 0 j (by omega) hj (by omega) nj⟩, lost kk 0 (by omega) (by omega) (by omega), lost 0 kk (by omega) (by omega) (by omega)⟩

theorem shift_rt {N kk : Nat} {d : List (List Int)} (hRd : Rt N d) (h1 : 1 ≤ kk) (hk : kk ≤ N) : Rt (N - 1) (shiftL d (N + 1) kk) ∧ ∀ i j, i < N → j < N → ent (shiftL d (N + 1) kk) i j = ent d (ord kk i) (ord kk j) := by
  have hN := hRd.hN
  have hS : ∀ i j, i < N → j < N → ent (shiftL d (N + 1) kk) i j = ent d (ord kk i) (ord kk j) := fun i j hi hj =>
    matL_ent (n := N + 1 - 1) (d := fun j k => ent d (ord kk j) (ord kk k)) (by omega) (by omega)
  have ho : ∀ i, i < N → ord kk i < N + 1 := fun i hi => by unfold ord; split; (· omega); split <;> omega
  refine ⟨⟨by omega, ⟨by simp [shiftL, matL]; omega, fun r hr => ?_⟩, fun i hi => ?_, fun i j hi hj => ?_⟩, hS⟩
  · obtain ⟨i, _, rfl⟩ := List.mem_map.1 hr
    simp [rowL]; omega
  · rw [hS i i (by omega) (by omega)]; exact hRd.dg _ (ho i (by omega))
  · rw [hS i j (by omega) (by omega)]; exact hRd.en _ _ (ho i (by omega)) (ho j (by omega))
theorem big_rt {N : Nat} {l : List (List Int)} (h : Rt N l) : big l = false := by
  cases hb : big l with
  | false => rfl
  | true =>
    unfold big at hb
    rw [List.any_eq_true] at hb
    obtain ⟨r, hr, hb⟩ := hb
    rw [List.any_eq_true] at hb
    obtain ⟨x, hx, hb⟩ := hb
    obtain ⟨i, hi, rfl⟩ := List.getElem_of_mem hr
    obtain ⟨j, hj, rfl⟩ := List.getElem_of_mem hx
    have he := h.any i j
    rw [ent_get hi hj] at he
    unfold bigE at hb
    unfold Ent at he
    simp at hb
    omega

theorem idx_ent {N : Nat} {l : List (List Int)} (h : Rt N l) {i j : Nat} (hi : i < N + 1) (hj : j < N + 1) : (idx l (i : Int)).bind (fun r => idx r (j : Int)) = some (ent l i j) := by
  have hi' : i < l.length := by rw [h.sq.1]; exact hi
  have hj' : j < l[i].length := by rw [h.sq.2 _ (List.getElem_mem hi')]; exact hj
  rw [idx_lt hi', Option.bind_some, idx_lt hj', ent_get hi' hj']

theorem ext_eq {N : Nat} {l d : List (List Int)} (hR : Rt N l) (hs : solve l = .inr d) {n : Int} (hn : n = (N : Int)) (k : Nat) (hk : k ≤ N) : m18 ⟨n, l⟩ (k : Int) = some (neg1 (ent d k 0), ent d 0 k, 0) := by
  have hN := hR.hN
  subst hn
  unfold m18
  rw [check_ok hR, Option.bind_some, show ((0 : Int) != 0) = false from rfl, cond_false]
  simp only
  rw [show (decide ((k : Int) < 0) || decide ((k : Int) > (N : Int))) = false by simp; omega, cond_false, show decide ((N : Int) > 6) = false by simp; omega, cond_false, Int.toNat_natCast, hs]

theorem plain6 (b : SBounds) (i : Int) (hb : OkQ b) (hi : 0 ≤ i ∧ i ≤ 255) : m6 b i = some true := by
  have h13 : m13 = some true := rfl
  obtain ⟨rt, e27, hrt⟩ := right_eq b hb
  unfold m6
  rw [e27, Option.bind_some]
  cases rt with
  | false => rfl
  | true =>
  obtain ⟨e28, e32, hN6, hR, hsm⟩ := hrt rfl
  obtain ⟨N, hN, hRt⟩ := hR.rt (by omega)
  have hN7 := hRt.hN
  rw [Bool.not_true, cond_false, Option.bind_some]
  cases h1 : (b.N == 0)
  case true => rfl
  have hN0 : N ≠ 0 := by have : b.N ≠ 0 := by simpa using h1
                         omega
  have hM := small_wt hRt hsm
  obtain ⟨n, rfl⟩ : ∃ n : Nat, i = (n : Int) := ⟨i.toNat, by omega⟩
  have hrem : remc (IntKind.wrap .i64 (n : Int)) b.N = some ((n % N : Nat) : Int) := by
    rw [wrap_i64 (by omega) (by omega), hN]
    unfold remc
    rw [if_neg (by omega)]
    rfl
  obtain ⟨kk, hkk⟩ : ∃ kk, kk = n % N + 1 := ⟨_, rfl⟩
  have hkN : 1 ≤ kk ∧ kk ≤ N := by have := Nat.mod_lt n (show N > 0 by omega); omega
  have hadd : addI .i64 1 ((n % N : Nat) : Int) = (kk : Int) := by rw [addI_eq (by omega) (by omega)]; omega
  rw [cond_false, hrem, Option.bind_some, hadd]
  have e6 : decide (b.N > 6) = false := by simp; omega
  have ek : (decide ((kk : Int) < 1) || decide ((kk : Int) > b.N)) = false := by simp; omega
  have e14 : m14 b = some (match solve b.Most with | .inl c => (⟨0, []⟩, c, false, 0) | .inr d => (bif big d then (⟨0, []⟩, [], false, 11) else (⟨b.N, d⟩, [], true, 0))) := by
    unfold m14
    rw [e32, Option.bind_some, show ((0 : Int) != 0) = false from rfl, cond_false, e6, cond_false]
    cases solve b.Most <;> rfl
  have e23 : m23 b (kk : Int) = some (match solve b.Most with | .inl _ => (⟨0, []⟩, 16) | .inr d => (bif big (forgetL d (N + 1) kk) then (⟨0, []⟩, 11) else (⟨b.N, forgetL d (N + 1) kk⟩, 0))) := by
    unfold m23
    rw [e32, Option.bind_some, show ((0 : Int) != 0) = false from rfl, cond_false, ek, cond_false, e6, cond_false, Int.toNat_natCast, hRt.sq.1]
    cases solve b.Most <;> rfl
  have e25 : m25 b (kk : Int) = some (match solve b.Most with | .inl _ => (⟨0, []⟩, 16) | .inr d => (bif big (shiftL d (N + 1) kk) then (⟨0, []⟩, 11) else (⟨b.N - 1, shiftL d (N + 1) kk⟩, 0))) := by
    unfold m25
    rw [e32, Option.bind_some, show ((0 : Int) != 0) = false from rfl, cond_false, ek, cond_false, e6, cond_false, Int.toNat_natCast, hRt.sq.1]
    cases solve b.Most <;> rfl
  rw [e14, Option.bind_some, e23, Option.bind_some, e25, Option.bind_some]
  cases hs : solve b.Most with
  | inl c => rfl
  | inr d =>
    obtain ⟨hRF, d', hs', hkeep, hl1, hl2⟩ := forget_solve hRt hM hs hkN.1 hkN.2
    obtain ⟨D, hnn, hL, hD0, he, hDs, hd⟩ := closed_facts hRt hM hs
    have hRd := closed_rt hRt hD0 he hDs hd
    obtain ⟨hRS, hS⟩ := shift_rt hRd hkN.1 hkN.2
    have hbd := big_rt hRd
    have hbF := big_rt hRF
    have hbS := big_rt hRS
    have c28 : ∀ {M : Nat} {l : List (List Int)} (m : Int), m = (M : Int) → Rt M l → m28 ⟨m, l⟩ = some 0 := by
      intro M l m hm h
      subst hm
      obtain ⟨c, e1, e2, _⟩ := check_eq0 ⟨(M : Int), l⟩
      rw [check_ok h] at e2
      injection e2 with e2
      rw [e1, ← e2]
    have k1 : m28 ⟨b.N - 1, shiftL d (N + 1) kk⟩ = some 0 := c28 _ (by omega) hRS
    have k2 : m28 ⟨b.N, d⟩ = some 0 := c28 _ hN hRd
    have hsub : subI .i64 b.N 1 = b.N - 1 := subI_eq (by omega) (by omega)
    simp only [hbd, hbF, hbS, cond_false, bne_self_eq_false, Bool.not_true, Bool.or_false, hsub, k1, k2, Option.bind_some]
    obtain ⟨r, e, q⟩ := iter_one (body := fun s27 : Int => ((bif (decide (s27 ≤ b.N)) then ((m18 ⟨b.N, forgetL d (N + 1) kk⟩ s27).bind fun v31 => (m18 b s27).bind fun v32 => (bif ((v31.2.2 != 0) || (v32.2.2 != 0)) then some (.inr (.inr (.inr false))) else (bif (s27 == (kk : Int)) then (bif ((v31.1 != (-1099511627776)) || (v31.2.1 != (-1099511627776))) then some (.inr (.inr (.inr false))) else some (.inl ())) else ((bif (v31.1 != v32.1) then some true else (bif (v31.2.1 != v32.2.1) then some true else (idx (shiftL d (N + 1) kk) 0).bind fun v45 => (idx v45 (bif (decide (s27 > (kk : Int))) then (subI .i64 s27 1) else s27)).bind fun v46 => (idx d (kk : Int)).bind fun v47 => (idx v47 s27).bind fun v48 => (bif (v46 != v48) then some true else (idx (shiftL d (N + 1) kk) (bif (decide (s27 > (kk : Int))) then (subI .i64 s27 1) else s27)).bind fun v50 => (idx v50 0).bind fun v51 => (idx d s27).bind fun v52 => (idx v52 (kk : Int)).bind fun v53 => some (v51 != v53)))) : Option (Bool)).bind fun w42 => (bif w42 then some (.inr (.inr (.inr false))) else some (.inl ())))) : Option ((Unit) ⊕ ((Int) ⊕ ((Unit) ⊕ Bool)))).bind (Sum.elim (fun w30 => some (.inl (addI .i64 s27 1))) some) else some (.inr (.inl ()))) : Option ((Int) ⊕ ((Unit) ⊕ Bool))))
      N (by unfold fuel; omega) (fun r => r = .inl ()) (by
      intro j hj1 hj2
      by_cases hlt : j ≤ N
      · left
        refine ⟨by omega, ?_⟩
        have x1 := ext_eq hRF hs' hN j hlt
        have x2 : m18 b (j : Int) = _ := ext_eq hRt hs hN j hlt
        simp only [le_t (show (j : Int) ≤ b.N by omega), cond_true, x1, x2, Option.bind_some, bne_self_eq_false, Bool.or_false, cond_false]
        by_cases ej : j = kk
        · subst ej
          have n1 : neg1 (ent d' j 0) = -1099511627776 := by rw [hl1]; rfl
          simp only [beq_self_eq_true, cond_true, n1, hl2, bne_self_eq_false, Bool.or_false, cond_false, Option.bind_some, Sum.elim_inl]
          rw [addI_nat (by omega)]
        · obtain ⟨g1, g2⟩ := hkeep j (by omega) ej
          obtain ⟨at', hat, hatN, hord⟩ : ∃ a : Nat, (bif (decide ((j : Int) > (kk : Int))) then (subI .i64 (j : Int) 1) else (j : Int)) = (a : Int) ∧ a < N ∧ ord kk a = j := by
            by_cases hgt : j > kk
            · refine ⟨j - 1, ?_, by omega, ?_⟩
              · rw [decide_eq_true (show (j : Int) > (kk : Int) by omega), cond_true, subI_eq (by omega) (by omega)]; omega
              · unfold ord; rw [if_neg (by omega), if_neg (by omega)]; omega
            · refine ⟨j, ?_, by omega, ?_⟩
              · rw [decide_eq_false (show ¬ (j : Int) > (kk : Int) by omega), cond_false]
              · unfold ord; rw [if_neg (by omega), if_pos (by omega)]
          have y1 := idx_ent hRS (i := 0) (j := at') (by omega) (by omega)
          have y2 := idx_ent hRd (i := kk) (j := j) (by omega) (by omega)
          have y3 := idx_ent hRS (i := at') (j := 0) (by omega) (by omega)
          have y4 := idx_ent hRd (i := j) (j := kk) (by omega) (by omega)
          rw [hS _ _ (by omega) (by omega), hord] at y1 y3
          have o0 : ord kk 0 = kk := rfl
          rw [o0] at y1 y3
          obtain ⟨r1, z1, z1'⟩ := Option.bind_eq_some_iff.1 y1
          obtain ⟨r2, z2, z2'⟩ := Option.bind_eq_some_iff.1 y2
          obtain ⟨r3, z3, z3'⟩ := Option.bind_eq_some_iff.1 y3
          obtain ⟨r4, z4, z4'⟩ := Option.bind_eq_some_iff.1 y4
          have z1 : idx (shiftL d (N + 1) kk) 0 = some r1 := z1
          have z3' : idx r3 0 = _ := z3'
          rw [show ((j : Int) == (kk : Int)) = false by simp; omega]
          simp only [cond_false, g1, g2, bne_self_eq_false, hat, z1, z1', z2, z2', z3, z3', z4, z4', Option.bind_some, Sum.elim_inl]
          rw [addI_nat (by omega)]
      · right
        simp only [le_f (show ¬ (j : Int) ≤ b.N by omega), cond_false]
        exact ⟨_, rfl, rfl⟩)
    rw [e]; subst q; rfl
end G11
