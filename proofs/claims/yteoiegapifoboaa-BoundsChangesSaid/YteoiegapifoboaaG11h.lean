/- Bounds, and what is computed of them, in plain words. No condition. -/
import Derived.Test.YteoiegapifoboaaG11M
import Derived.Test.YteoiegapifoboaaAmP1
namespace G11
open Go Go.Pl

def mx : Nat := 9223372036854775807
def OkR (l : List Int) : Prop := l.length ≤ mx ∧ ∀ n ∈ l, -9223372036854775808 ≤ n ∧ n ≤ 9223372036854775807
def OkQ (b : SBounds) : Prop := (-9223372036854775808 ≤ b.N ∧ b.N ≤ 9223372036854775807) ∧ b.Most.length ≤ mx ∧ ∀ row ∈ b.Most, OkR row

def Ent (n : Int) : Prop := n = -1099511627776 ∨ (-64000000 ≤ n ∧ n ≤ 64000000)
def EntD (k i x : Int) : Prop := Ent x ∧ (k = i → x = 0)
structure Right (b : SBounds) : Prop where
  n0 : 0 ≤ b.N
  n1 : b.N ≤ 12
  len : (b.Most.length : Int) = b.N + 1
  row : ∀ i (h : i < b.Most.length), (b.Most[i].length : Int) = b.N + 1
  ent : ∀ i (h : i < b.Most.length) j (h' : j < b.Most[i].length), Ent b.Most[i][j]
  dg : ∀ i (h : i < b.Most.length) (h' : i < b.Most[i].length), b.Most[i][i] = 0

theorem m65_eq (n : Int) : m65 n = some (decide (-64000000 ≤ n ∧ n ≤ 64000000)) := by
  simp [m65, Bool.decide_and]
theorem m67_eq (n : Int) : m67 n = some (decide (-64000000 ≤ n ∧ n ≤ 64000000)) := by
  simp [m67, Bool.decide_and]

/-- is a number none, or a bound? -/
def bad (n : Int) : Bool := n != -1099511627776 && !decide (-64000000 ≤ n ∧ n ≤ 64000000)
theorem bad_ref (n : Int) : ((bif (n != (-1099511627776)) then (m65 n).bind fun v20 => some (!v20) else some false) : Option Bool) = some (bad n) := by
  unfold bad
  cases h : (n != -1099511627776) <;> simp [m65_eq]
theorem bad_prog (n : Int) : ((bif (n != (-1099511627776)) then (m67 n).bind fun v20 => some (!v20) else some false) : Option Bool) = some (bad n) := by
  unfold bad
  cases h : (n != -1099511627776) <;> simp [m67_eq]
theorem bad_false {n : Int} (h : bad n = false) : Ent n := by
  unfold bad at h; unfold Ent
  by_cases h1 : n = -1099511627776
  · exact .inl h1
  · right
    simp [h1] at h; exact h

theorem check_eq0 (b : SBounds) : ∃ c, m28 b = some c ∧ m32 b = some c ∧ (c = 0 → Right b) := by
  unfold m28 m32
  cases h1 : ((decide (b.N < 0)) || (decide (b.N > 12)))
  case true => exact ⟨2, rfl, rfl, fun h => by omega⟩
  simp only [Bool.or_eq_false_iff, decide_eq_false_iff_not] at h1
  rw [addI_eq (by omega) (by omega)]
  simp only [cond_false]
  cases h2 : ((b.Most.length : Int) != b.N + 1)
  case true => exact ⟨8, rfl, rfl, fun h => by omega⟩
  have h2' : (b.Most.length : Int) = b.N + 1 := by simpa using h2
  simp only [cond_false]
  obtain ⟨r, e, q⟩ : ∃ r, iter (fun s5 : Int => ((bif (decide (s5 < (b.Most.length : Int))) then (idx b.Most s5).bind fun v8 => (bif ((v8.length : Int) != b.N + 1) then some (.inr (.inr 8)) else some (.inl (addI .i64 s5 1))) else some (.inr (.inl ()))) : Option ((Int) ⊕ ((Unit) ⊕ Int)))) 0 = some r ∧
      (r = .inr 8 ∨ r = .inl () ∧ ∀ i (h : i < b.Most.length), (b.Most[i].length : Int) = b.N + 1) := by
    refine iter_cnt b.Most.length (by unfold fuel; omega) (fun k => ∀ i (h : i < b.Most.length), i < k → (b.Most[i].length : Int) = b.N + 1) _ (by intro i _ h; omega) ?_
    intro k hk hp
    by_cases hlt : k < b.Most.length
    · rw [cond_t (lt_t (by omega)), idx_lt hlt, Option.bind_some]
      cases h3 : ((b.Most[k].length : Int) != b.N + 1)
      · left
        refine ⟨hlt, by rw [cond_false, addI_nat (by omega)], fun i hi hik => ?_⟩
        by_cases e : i = k
        · subst e; simpa using h3
        · exact hp i hi (by omega)
      · right
        exact ⟨_, rfl, .inl rfl⟩
    · right
      rw [cond_f (lt_f (by omega))]
      exact ⟨_, rfl, .inr ⟨rfl, fun i hi => hp i hi (by omega)⟩⟩
  rw [e]
  rcases q with rfl | ⟨rfl, hrow⟩
  · exact ⟨8, rfl, rfl, fun h => by omega⟩
  simp only [Option.bind_some, Sum.elim_inl]
  -- the numbers
  let n := b.Most.length
  obtain ⟨r1, r2, e1, e2, q⟩ := sim_cnt (b1 := fun s10 : Int => ((bif (decide (s10 ≤ b.N)) then (iter (fun s13 : Int => ((bif (decide (s13 ≤ b.N)) then (idx b.Most s10).bind fun v16 => (idx v16 s13).bind fun v17 => ((bif (v17 != (-1099511627776)) then (m65 v17).bind fun v20 => some (!v20) else some false) : Option (Bool)).bind fun w18 => (bif w18 then some (.inr (.inr (.inr (.inr 2)))) else ((bif (s10 == s13) then (idx b.Most s10).bind fun v24 => (idx v24 s13).bind fun v25 => some (v25 != 0) else some false) : Option (Bool)).bind fun w22 => (bif w22 then some (.inr (.inr (.inr (.inr 3)))) else some (.inl (addI .i64 s13 1)))) else some (.inr (.inl ()))) : Option ((Int) ⊕ ((Unit) ⊕ ((Int) ⊕ ((Unit) ⊕ Int)))))) 0).bind (Sum.elim (fun w14 => some (.inl (addI .i64 s10 1))) some) else some (.inr (.inl ()))) : Option ((Int) ⊕ ((Unit) ⊕ Int))))
    (b2 := fun s10 : Int => ((bif (decide (s10 < (b.Most.length : Int))) then (idx b.Most s10).bind fun v13 => (iter (fun s14 : Int => ((bif (decide (s14 < (v13.length : Int))) then (idx v13 s14).bind fun v17 => ((bif (v17 != (-1099511627776)) then (m67 v17).bind fun v20 => some (!v20) else some false) : Option (Bool)).bind fun w18 => (bif w18 then some (.inr (.inr (.inr (.inr 2)))) else (bif ((s10 == s14) && (v17 != 0)) then some (.inr (.inr (.inr (.inr 3)))) else some (.inl (addI .i64 s14 1)))) else some (.inr (.inl ()))) : Option ((Int) ⊕ ((Unit) ⊕ ((Int) ⊕ ((Unit) ⊕ Int)))))) 0).bind (Sum.elim (fun w15 => some (.inl (addI .i64 s10 1))) some) else some (.inr (.inl ()))) : Option ((Int) ⊕ ((Unit) ⊕ Int))))
    n (by unfold fuel; omega) (fun k => ∀ i (h : i < b.Most.length), i < k → ∀ j (h' : j < b.Most[i].length), EntD (i : Int) (j : Int) b.Most[i][j])
    (fun r1 r2 => r1 = r2 ∧ ((∃ c, r1 = .inr c ∧ c ≠ 0) ∨ (r1 = .inl () ∧ ∀ i (h : i < b.Most.length), ∀ j (h' : j < b.Most[i].length), EntD (i : Int) (j : Int) b.Most[i][j]))) (by intro i _ h; omega) (by
    intro k hk hp
    by_cases hlt : k < b.Most.length
    · have hrk := hrow k hlt
      rw [cond_t (le_t (by omega)), cond_t (lt_t (by omega)), idx_lt hlt]
      simp only [Option.bind_some]
      obtain ⟨r1, r2, e1, e2, q⟩ := sim_cnt (b1 := fun s13 : Int => ((bif (decide (s13 ≤ b.N)) then (idx b.Most[k] s13).bind fun v17 => ((bif (v17 != (-1099511627776)) then (m65 v17).bind fun v20 => some (!v20) else some false) : Option (Bool)).bind fun w18 => (bif w18 then some (.inr (.inr (.inr (.inr 2)))) else ((bif ((k : Int) == s13) then (idx b.Most[k] s13).bind fun v25 => some (v25 != 0) else some false) : Option (Bool)).bind fun w22 => (bif w22 then some (.inr (.inr (.inr (.inr 3)))) else some (.inl (addI .i64 s13 1)))) else some (.inr (.inl ()))) : Option ((Int) ⊕ ((Unit) ⊕ ((Int) ⊕ ((Unit) ⊕ Int))))))
        (b2 := fun s14 : Int => ((bif (decide (s14 < (b.Most[k].length : Int))) then (idx b.Most[k] s14).bind fun v17 => ((bif (v17 != (-1099511627776)) then (m67 v17).bind fun v20 => some (!v20) else some false) : Option (Bool)).bind fun w18 => (bif w18 then some (.inr (.inr (.inr (.inr 2)))) else (bif (((k : Int) == s14) && (v17 != 0)) then some (.inr (.inr (.inr (.inr 3)))) else some (.inl (addI .i64 s14 1)))) else some (.inr (.inl ()))) : Option ((Int) ⊕ ((Unit) ⊕ ((Int) ⊕ ((Unit) ⊕ Int))))))
        b.Most[k].length (by unfold fuel; omega) (fun j => ∀ i (h : i < b.Most[k].length), i < j → EntD (k : Int) (i : Int) b.Most[k][i])
        (fun r1 r2 => r1 = r2 ∧ ((∃ c, r1 = .inr (.inr (.inr c)) ∧ c ≠ 0) ∨ (r1 = .inl () ∧ ∀ i (h : i < b.Most[k].length), EntD (k : Int) (i : Int) b.Most[k][i]))) (by intro i _ h; omega) (by
        intro j hj hq
        by_cases hlj : j < b.Most[k].length
        · rw [cond_t (le_t (by omega)), cond_t (lt_t (by omega)), idx_lt hlj]
          simp only [Option.bind_some, bad_ref, bad_prog]
          cases hbad : bad b.Most[k][j]
          · simp only [cond_false]
            cases hd : ((k : Int) == (j : Int))
            · left
              simp only [cond_false, Option.bind_some, Bool.false_and]
              refine ⟨hlj, by rw [addI_nat (by omega)], by rw [addI_nat (by omega)], fun i hi hij => ?_⟩
              by_cases e : i = j
              · subst e; exact ⟨bad_false hbad, fun h => by rw [h] at hd; simp at hd⟩
              · exact hq i hi (by omega)
            · simp only [cond_true, Option.bind_some, Bool.true_and]
              cases hz : (b.Most[k][j] != 0)
              · left
                simp only [cond_false]
                refine ⟨hlj, by rw [addI_nat (by omega)], by rw [addI_nat (by omega)], fun i hi hij => ?_⟩
                by_cases e : i = j
                · subst e; exact ⟨bad_false hbad, fun _ => by simpa using hz⟩
                · exact hq i hi (by omega)
              · right
                exact ⟨_, _, rfl, rfl, rfl, .inl ⟨3, rfl, by decide⟩⟩
          · right
            exact ⟨_, _, rfl, rfl, rfl, .inl ⟨2, rfl, by decide⟩⟩
        · right
          rw [cond_f (le_f (by omega)), cond_f (lt_f (by omega))]
          exact ⟨_, _, rfl, rfl, rfl, .inr ⟨rfl, fun i hi => hq i hi (by omega)⟩⟩)
      rw [e1, e2]
      obtain ⟨rfl, q⟩ := q
      rcases q with ⟨c, rfl, hc⟩ | ⟨rfl, q⟩
      · right
        exact ⟨_, _, rfl, rfl, rfl, .inl ⟨c, rfl, hc⟩⟩
      · left
        refine ⟨hlt, ?_, ?_, fun i hi hik => ?_⟩
        · simp only [Option.bind_some, Sum.elim_inl]; rw [addI_nat (by omega)]
        · simp only [Option.bind_some, Sum.elim_inl]; rw [addI_nat (by omega)]
        · by_cases e : i = k
          · subst e; exact q
          · exact hp i hi (by omega)
    · right
      rw [cond_f (le_f (by omega)), cond_f (lt_f (by omega))]
      exact ⟨_, _, rfl, rfl, rfl, .inr ⟨rfl, fun i hi => hp i hi (by omega)⟩⟩)
  rw [e1, e2]
  obtain ⟨rfl, q⟩ := q
  rcases q with ⟨c, rfl, hc⟩ | ⟨rfl, q⟩
  · exact ⟨c, rfl, rfl, fun h => (hc h).elim⟩
  · exact ⟨0, rfl, rfl, fun _ => ⟨by omega, by omega, h2', hrow, fun i h j h' => (q i h j h').1, fun i h h' => (q i h i h').2 rfl⟩⟩
end G11

namespace G11
open Go Go.Pl
set_option linter.unusedVariables false

/-- lists that are as long as they are wide -/
def Sq (n : Nat) (l : List (List Int)) : Prop := l.length = n ∧ ∀ r ∈ l, r.length = n
/-- right bounds about few times -/
structure Rt (N : Nat) (l : List (List Int)) : Prop where
  hN : N + 1 ≤ 7
  sq : Sq (N + 1) l
  dg : ∀ i, i < N + 1 → ent l i i = 0
  en : ∀ i j, i < N + 1 → j < N + 1 → Ent (ent l i j)

theorem ent_get {l : List (List Int)} {i j : Nat} (hi : i < l.length) (hj : j < l[i].length) : ent l i j = l[i][j] := by
  unfold ent
  simp [List.getD_eq_getElem?_getD, hi, hj]
theorem ent_out {l : List (List Int)} {i j : Nat} (h : ∀ hi : i < l.length, ¬ j < l[i].length) : ent l i j = 0 := by
  unfold ent
  by_cases hi : i < l.length
  · have := h hi
    simp only [List.getD_eq_getElem?_getD, List.getElem?_eq_getElem hi, Option.getD_some]
    rw [List.getElem?_eq_none (by omega)]; rfl
  · simp [List.getD_eq_getElem?_getD, List.getElem?_eq_none (show l.length ≤ i by omega)]

theorem Right.rt {b : SBounds} (h : Right b) (h6 : ¬ b.N > 6) : ∃ N : Nat, b.N = (N : Int) ∧ Rt N b.Most := by
  have h0 := h.n0
  refine ⟨b.N.toNat, by omega, ?_⟩
  have hl : b.Most.length = b.N.toNat + 1 := by have := h.len; omega
  have hr : ∀ i (hi : i < b.Most.length), b.Most[i].length = b.N.toNat + 1 := fun i hi => by have := h.row i hi; omega
  refine ⟨by omega, ⟨hl, fun r hr' => ?_⟩, fun i hi => ?_, fun i j hi hj => ?_⟩
  · obtain ⟨i, hi, rfl⟩ := List.getElem_of_mem hr'
    exact hr i hi
  · rw [ent_get (by omega) (by rw [hr i (by omega)]; exact hi)]
    exact h.dg i (by omega) (by rw [hr i (by omega)]; exact hi)
  · rw [ent_get (by omega) (by rw [hr i (by omega)]; exact hj)]
    exact h.ent i (by omega) j (by rw [hr i (by omega)]; exact hj)

section
variable {N : Nat} {l : List (List Int)} (h : Rt N l)
include h
theorem Rt.any (i j : Nat) : Ent (ent l i j) := by
  by_cases hi : i < N + 1
  · by_cases hj : j < N + 1
    · exact h.en i j hi hj
    · rw [ent_out (fun hi' => by have := h.sq.2 _ (List.getElem_mem hi'); omega)]
      exact .inr ⟨by omega, by omega⟩
  · rw [ent_out (fun hi' => by have := h.sq.1; omega)]
    exact .inr ⟨by omega, by omega⟩
theorem Rt.es {i j : Nat} (hne : ent l i j ≠ -1099511627776) : -64000000 ≤ ent l i j ∧ ent l i j ≤ 64000000 := by
  have := h.any i j
  unfold Ent at this
  omega
end
theorem matL_congr {n : Nat} {m m' : Nat → Nat → Int} (h : ∀ i j, i < n → j < n → m i j = m' i j) : matL n m = matL n m' := by
  unfold matL rowL
  refine List.map_congr_left (fun i hi => List.map_congr_left (fun j hj => h i j (List.mem_range.1 hi) (List.mem_range.1 hj)))
end G11

namespace G11
open Go Go.Pl
set_option linter.unusedVariables false

theorem few_eq2 (b : SBounds) (hl : b.Most.length ≤ mx) : ∃ r, m12 b = some r ∧ (r = true → b.N ≤ 5 ∨ ∃ c, m28 b = some c ∧ c ≠ 0) := by
  obtain ⟨c, hc, _, _⟩ := check_eq0 b
  unfold m12
  unfold mx at hl
  cases h1 : (decide ((b.Most.length : Int) > 50))
  case true => exact ⟨false, rfl, fun h => by simp at h⟩
  have h1' : b.Most.length ≤ 50 := by simp at h1; omega
  simp only [cond_false]
  obtain ⟨r, e, q⟩ : ∃ r, iter (fun s2 : Int => ((bif (decide (s2 < (b.Most.length : Int))) then (idx b.Most s2).bind fun v5 => (bif (decide ((v5.length : Int) > 50)) then some (.inr (.inr false)) else some (.inl (addI .i64 s2 1))) else some (.inr (.inl ()))) : Option ((Int) ⊕ ((Unit) ⊕ Bool)))) 0 = some r ∧
      (r = .inr false ∨ r = .inl ()) := by
    refine iter_cnt b.Most.length (by unfold fuel; omega) (fun _ => True) _ trivial ?_
    intro k hk _
    by_cases hlt : k < b.Most.length
    · rw [cond_t (lt_t (by omega)), idx_lt hlt, Option.bind_some]
      cases h3 : (decide ((b.Most[k].length : Int) > 50))
      · exact .inl ⟨hlt, by rw [cond_false, addI_nat (by omega)], trivial⟩
      · exact .inr ⟨_, rfl, .inl rfl⟩
    · rw [cond_f (lt_f (by omega))]
      exact .inr ⟨_, rfl, .inr rfl⟩
  rw [e]
  rcases q with rfl | rfl
  · exact ⟨false, rfl, fun h => by simp at h⟩
  · simp only [Option.bind_some, Sum.elim_inl, hc]
    cases h5 : decide (b.N ≤ 5)
    · exact ⟨_, rfl, fun h => .inr ⟨c, rfl, by simpa using h⟩⟩
    · exact ⟨_, rfl, fun _ => .inl (of_decide_eq_true h5)⟩

theorem same_refl (b : SBounds) (hl : b.Most.length ≤ 1000000) (hr : ∀ r ∈ b.Most, r.length ≤ 1000000) : m16 b b = some true := by
  unfold m16
  rw [show ((b.N != b.N) || ((b.Most.length : Int) != (b.Most.length : Int))) = false by simp, cond_false]
  obtain ⟨r, e, q⟩ := iter_cnt (body := fun s4 : Int => ((bif (decide (s4 < (b.Most.length : Int))) then (idx b.Most s4).bind fun v7 => (idx b.Most s4).bind fun v8 => (bif ((v7.length : Int) != (v8.length : Int)) then some (.inr (.inr false)) else (iter (fun s10 : Int => ((idx b.Most s4).bind fun v12 => (bif (decide (s10 < (v12.length : Int))) then (idx b.Most s4).bind fun v14 => (idx v14 s10).bind fun v15 => (idx b.Most s4).bind fun v16 => (idx v16 s10).bind fun v17 => (bif (v15 != v17) then some (.inr (.inr (.inr (.inr false)))) else some (.inl (addI .i64 s10 1))) else some (.inr (.inl ()))) : Option ((Int) ⊕ ((Unit) ⊕ ((Int) ⊕ ((Unit) ⊕ Bool)))))) 0).bind (Sum.elim (fun w11 => some (.inl (addI .i64 s4 1))) some)) else some (.inr (.inl ()))) : Option ((Int) ⊕ ((Unit) ⊕ Bool))))
    b.Most.length (by unfold fuel; omega) (fun _ => True) (fun r => r = .inl ()) trivial (by
    intro k hk _
    by_cases hlt : k < b.Most.length
    · left
      refine ⟨hlt, ?_, trivial⟩
      have hrk := hr _ (List.getElem_mem hlt)
      simp only [lt_t (show (k : Int) < (b.Most.length : Int) by omega), cond_true, idx_lt hlt, Option.bind_some, bne_self_eq_false, cond_false]
      obtain ⟨r, e, q⟩ := iter_cnt (body := fun s10 : Int => ((bif (decide (s10 < (b.Most[k].length : Int))) then (idx b.Most[k] s10).bind fun v15 => (idx b.Most[k] s10).bind fun v17 => (bif (v15 != v17) then some (.inr (.inr (.inr (.inr false)))) else some (.inl (addI .i64 s10 1))) else some (.inr (.inl ()))) : Option ((Int) ⊕ ((Unit) ⊕ ((Int) ⊕ ((Unit) ⊕ Bool))))))
        b.Most[k].length (by unfold fuel; omega) (fun _ => True) (fun r => r = .inl ()) trivial (by
        intro j hj _
        by_cases hlj : j < b.Most[k].length
        · left
          refine ⟨hlj, ?_, trivial⟩
          simp only [lt_t (show (j : Int) < (b.Most[k].length : Int) by omega), cond_true, idx_lt hlj, Option.bind_some, bne_self_eq_false, cond_false]
          rw [addI_nat (by omega)]
        · right
          simp only [lt_f (show ¬ (j : Int) < (b.Most[k].length : Int) by omega), cond_false]
          exact ⟨_, rfl, rfl⟩)
      rw [e]; subst q
      show some (Sum.inl (addI .i64 (k : Int) 1)) = _
      rw [addI_nat (by omega)]
    · right
      simp only [lt_f (show ¬ (k : Int) < (b.Most.length : Int) by omega), cond_false]
      exact ⟨_, rfl, rfl⟩)
  rw [e]; subst q; rfl
theorem matL_small {n : Nat} {m : Nat → Nat → Int} (hn : n ≤ 1000000) : (matL n m).length ≤ 1000000 ∧ ∀ r ∈ matL n m, r.length ≤ 1000000 := by
  refine ⟨by simp [matL]; exact hn, fun r hr => ?_⟩
  obtain ⟨i, _, rfl⟩ := List.mem_map.1 hr
  simp [rowL]; exact hn

end G11

namespace G11
open Go Go.Pl
set_option linter.unusedVariables false

theorem same_mat (n : Int) {k : Nat} {m : Nat → Nat → Int} (hk : k ≤ 1000000) : m16 (⟨n, matL k m⟩ : SBounds) ⟨n, matL k m⟩ = some true :=
  same_refl _ (matL_small hk).1 (matL_small hk).2
theorem same_0 : m16 (⟨0, []⟩ : SBounds) ⟨0, []⟩ = some true := same_refl _ (by simp) (by simp)

theorem plain8 (b : SBounds) (x : SChange) (hb : OkQ b) : m8 b x = some true := by
  obtain ⟨c, e28, e32, hR⟩ := check_eq0 b
  obtain ⟨r, e12, h12⟩ := few_eq2 b hb.2.1
  have h13 : m13 = some true := rfl
  have hnew : ∃ q, m33 x.I = some q ∧ m34 x.I = some q ∧ m16 q.1 q.1 = some true := by
    unfold m33 m34
    cases h : (decide (x.I < 0) || decide (x.I > 12))
    · refine ⟨_, rfl, rfl, same_mat _ ?_⟩
      simp only [Bool.or_eq_false_iff, decide_eq_false_iff_not] at h
      omega
    · exact ⟨_, rfl, rfl, same_0⟩
  obtain ⟨q1, n1, n2, n3⟩ := hnew
  unfold m8
  rw [e12, Option.bind_some]
  cases r with
  | false => rfl
  | true =>
  have h5 : c = 0 → b.N ≤ 5 := fun hc => by
    rcases h12 rfl with h | ⟨c', h1, h2⟩
    · exact h
    · rw [e28] at h1; injection h1 with h1; exact (h2 (h1.symm.trans hc)).elim
  have hadd : ∃ q, m35 b x.I x.J x.Most = some q ∧ m36 b x.I x.J x.Most = some q ∧ m16 q.1 q.1 = some true := by
    unfold m35 m36
    rw [e28, e32]
    simp only [Option.bind_some]
    cases hc : (c != 0)
    case true => exact ⟨_, rfl, rfl, same_0⟩
    have hc0 : c = 0 := by simpa using hc
    have h6 : decide (b.N > 6) = false := by have := h5 hc0; simp; omega
    obtain ⟨N, hN, hrt⟩ := (hR hc0).rt (by have := h5 hc0; omega)
    have hN7 := hrt.hN
    simp only [cond_false, h6]
    cases (decide (x.I < 0) || decide (x.I > b.N) || decide (x.J < 0) || decide (x.J > b.N))
    case true => exact ⟨_, rfl, rfl, same_0⟩
    cases (x.I == x.J)
    case true => exact ⟨_, rfl, rfl, same_0⟩
    cases (!(decide (x.Most ≥ -64000000) && decide (x.Most ≤ 64000000)))
    case true => exact ⟨_, rfl, rfl, same_0⟩
    exact ⟨_, rfl, rfl, same_mat _ (by rw [hrt.sq.1]; omega)⟩
  obtain ⟨q2, a1, a2, a3⟩ := hadd
  have hgrow : ∃ q, m37 b x.Span = some q ∧ m38 b x.Span = some q ∧ m16 q.1 q.1 = some true := by
    have e75 : m75 x.Span = m73 x.Span := rfl
    unfold m37 m38
    rw [e28, e32, e75]
    simp only [Option.bind_some]
    cases hc : (c != 0)
    case true => exact ⟨_, rfl, rfl, same_0⟩
    have hc0 : c = 0 := by simpa using hc
    have h6 : decide (b.N > 6) = false := by have := h5 hc0; simp; omega
    obtain ⟨N, hN, hrt⟩ := (hR hc0).rt (by have := h5 hc0; omega)
    have hN7 := hrt.hN
    simp only [cond_false, h6]
    cases (b.N == 12)
    case true => exact ⟨_, rfl, rfl, same_0⟩
    obtain ⟨e, e73⟩ : ∃ e, m73 x.Span = some e := by
      unfold m73 m93
      simp only [Option.bind_some]
      cases (!(decide (x.Span.Low ≥ 0) && decide (x.Span.Low ≤ 1000000))) <;> cases (!(decide (x.Span.High ≥ 0) && decide (x.Span.High ≤ 1000000))) <;> cases (decide (x.Span.Low > x.Span.High)) <;> exact ⟨_, rfl⟩
    rw [e73]
    simp only [Option.bind_some, cond_false]
    cases (e != 0)
    case true => exact ⟨_, rfl, rfl, same_0⟩
    exact ⟨_, rfl, rfl, same_mat _ (by rw [hrt.sq.1]; omega)⟩
  obtain ⟨q3, g1, g2, g3⟩ := hgrow
  simp only [Bool.not_true, cond_false, n1, n2, n3, a1, a2, a3, g1, g2, g3, h13, Option.bind_some, cond_true, beq_self_eq_true]
end G11
