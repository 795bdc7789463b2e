/- Bounds, and what is computed of them, in plain words. No condition. -/
import Derived.Test.YteoiegapifoboaaG11M
import Derived.Test.YteoiegapifoboaaAmP1
namespace G11
open Go Go.Pl

def mx : Nat := 9223372036854775807
def OkR (l : List Int) : Prop := l.length ≤ mx ∧ ∀ n ∈ l, -9223372036854775808 ≤ n ∧ n ≤ 9223372036854775807
def OkQ (b : SBounds) : Prop := (-9223372036854775808 ≤ b.N ∧ b.N ≤ 9223372036854775807) ∧ b.Most.length ≤ mx ∧ ∀ row ∈ b.Most, OkR row

def Ent (n : Int) : Prop := n = -1099511627776 ∨ (-64000000 ≤ n ∧ n ≤ 64000000)
def EntD (k i x : Int) : Prop := Ent x ∧ (k = i → x = 0)
structure Right (b : SBounds) : Prop where
  n0 : 0 ≤ b.N
  n1 : b.N ≤ 12
  len : (b.Most.length : Int) = b.N + 1
  row : ∀ i (h : i < b.Most.length), (b.Most[i].length : Int) = b.N + 1
  ent : ∀ i (h : i < b.Most.length) j (h' : j < b.Most[i].length), Ent b.Most[i][j]
  dg : ∀ i (h : i < b.Most.length) (h' : i < b.Most[i].length), b.Most[i][i] = 0

theorem m65_eq (n : Int) : m65 n = some (decide (-64000000 ≤ n ∧ n ≤ 64000000)) := by
  simp [m65, Bool.decide_and]
theorem m67_eq (n : Int) : m67 n = some (decide (-64000000 ≤ n ∧ n ≤ 64000000)) := by
  simp [m67, Bool.decide_and]

/-- is a number none, or a bound? -/
def bad (n : Int) : Bool := n != -1099511627776 && !decide (-64000000 ≤ n ∧ n ≤ 64000000)
theorem bad_ref (n : Int) : ((bif (n != (-1099511627776)) then (m65 n).bind fun v20 => some (!v20) else some false) : Option Bool) = some (bad n) := by
  unfold bad
  cases h : (n != -1099511627776) <;> simp [m65_eq]
theorem bad_prog (n : Int) : ((bif (n != (-1099511627776)) then (m67 n).bind fun v20 => some (!v20) else some false) : Option Bool) = some (bad n) := by
  unfold bad
  cases h : (n != -1099511627776) <;> simp [m67_eq]
theorem bad_false {n : Int} (h : bad n = false) : Ent n := by
  unfold bad at h; unfold Ent
  by_cases h1 : n = -1099511627776
  · exact .inl h1
  · right
    simp [h1] at h; exact h

theorem check_eq0 (b : SBounds) : ∃ c, m28 b = some c ∧ m32 b = some c ∧ (c = 0 → Right b) := by
  unfold m28 m32
  cases h1 : ((decide (b.N < 0)) || (decide (b.N > 12)))
  case true => exact ⟨2, rfl, rfl, fun h => by omega⟩
  simp only [Bool.or_eq_false_iff, decide_eq_false_iff_not] at h1
  rw [addI_eq (by omega) (by omega)]
  simp only [cond_false]
  cases h2 : ((b.Most.length : Int) != b.N + 1)
  case true => exact ⟨8, rfl, rfl, fun h => by omega⟩
  have h2' : (b.Most.length : Int) = b.N + 1 := by simpa using h2
  simp only [cond_false]
  obtain ⟨r, e, q⟩ : ∃ r, iter (fun s5 : Int => ((bif (decide (s5 < (b.Most.length : Int))) then (idx b.Most s5).bind fun v8 => (bif ((v8.length : Int) != b.N + 1) then some (.inr (.inr 8)) else some (.inl (addI .i64 s5 1))) else some (.inr (.inl ()))) : Option ((Int) ⊕ ((Unit) ⊕ Int)))) 0 = some r ∧
      (r = .inr 8 ∨ r = .inl () ∧ ∀ i (h : i < b.Most.length), (b.Most[i].length : Int) = b.N + 1) := by
    refine iter_cnt b.Most.length (by unfold fuel; omega) (fun k => ∀ i (h : i < b.Most.length), i < k → (b.Most[i].length : Int) = b.N + 1) _ (by intro i _ h; omega) ?_
    intro k hk hp
    by_cases hlt : k < b.Most.length
    · rw [cond_t (lt_t (by omega)), idx_lt hlt, Option.bind_some]
      cases h3 : ((b.Most[k].length : Int) != b.N + 1)
      · left
        refine ⟨hlt, by rw [cond_false, addI_nat (by omega)], fun i hi hik => ?_⟩
        by_cases e : i = k
        · subst e; simpa using h3
        · exact hp i hi (by omega)
      · right
        exact ⟨_, rfl, .inl rfl⟩
    · right
      rw [cond_f (lt_f (by omega))]
      exact ⟨_, rfl, .inr ⟨rfl, fun i hi => hp i hi (by omega)⟩⟩
  rw [e]
  rcases q with rfl | ⟨rfl, hrow⟩
  · exact ⟨8, rfl, rfl, fun h => by omega⟩
  simp only [Option.bind_some, Sum.elim_inl]
  -- the numbers
  let n := b.Most.length
  obtain ⟨r1, r2, e1, e2, q⟩ := sim_cnt (b1 := fun s10 : Int => ((bif (decide (s10 ≤ b.N)) then (iter (fun s13 : Int => ((bif (decide (s13 ≤ b.N)) then (idx b.Most s10).bind fun v16 => (idx v16 s13).bind fun v17 => ((bif (v17 != (-1099511627776)) then (m65 v17).bind fun v20 => some (!v20) else some false) : Option (Bool)).bind fun w18 => (bif w18 then some (.inr (.inr (.inr (.inr 2)))) else ((bif (s10 == s13) then (idx b.Most s10).bind fun v24 => (idx v24 s13).bind fun v25 => some (v25 != 0) else some false) : Option (Bool)).bind fun w22 => (bif w22 then some (.inr (.inr (.inr (.inr 3)))) else some (.inl (addI .i64 s13 1)))) else some (.inr (.inl ()))) : Option ((Int) ⊕ ((Unit) ⊕ ((Int) ⊕ ((Unit) ⊕ Int)))))) 0).bind (Sum.elim (fun w14 => some (.inl (addI .i64 s10 1))) some) else some (.inr (.inl ()))) : Option ((Int) ⊕ ((Unit) ⊕ Int))))
    (b2 := fun s10 : Int => ((bif (decide (s10 < (b.Most.length : Int))) then (idx b.Most s10).bind fun v13 => (iter (fun s14 : Int => ((bif (decide (s14 < (v13.length : Int))) then (idx v13 s14).bind fun v17 => ((bif (v17 != (-1099511627776)) then (m67 v17).bind fun v20 => some (!v20) else some false) : Option (Bool)).bind fun w18 => (bif w18 then some (.inr (.inr (.inr (.inr 2)))) else (bif ((s10 == s14) && (v17 != 0)) then some (.inr (.inr (.inr (.inr 3)))) else some (.inl (addI .i64 s14 1)))) else some (.inr (.inl ()))) : Option ((Int) ⊕ ((Unit) ⊕ ((Int) ⊕ ((Unit) ⊕ Int)))))) 0).bind (Sum.elim (fun w15 => some (.inl (addI .i64 s10 1))) some) else some (.inr (.inl ()))) : Option ((Int) ⊕ ((Unit) ⊕ Int))))
    n (by unfold fuel; omega) (fun k => ∀ i (h : i < b.Most.length), i < k → ∀ j (h' : j < b.Most[i].length), EntD (i : Int) (j : Int) b.Most[i][j])
    (fun r1 r2 => r1 = r2 ∧ ((∃ c, r1 = .inr c ∧ c ≠ 0) ∨ (r1 = .inl () ∧ ∀ i (h : i < b.Most.length), ∀ j (h' : j < b.Most[i].length), EntD (i : Int) (j : Int) b.Most[i][j]))) (by intro i _ h; omega) (by
    intro k hk hp
    by_cases hlt : k < b.Most.length
    · have hrk := hrow k hlt
      rw [cond_t (le_t (by omega)), cond_t (lt_t (by omega)), idx_lt hlt]
      simp only [Option.bind_some]
      obtain ⟨r1, r2, e1, e2, q⟩ := sim_cnt (b1 := fun s13 : Int => ((bif (decide (s13 ≤ b.N)) then (idx b.Most[k] s13).bind fun v17 => ((bif (v17 != (-1099511627776)) then (m65 v17).bind fun v20 => some (!v20) else some false) : Option (Bool)).bind fun w18 => (bif w18 then some (.inr (.inr (.inr (.inr 2)))) else ((bif ((k : Int) == s13) then (idx b.Most[k] s13).bind fun v25 => some (v25 != 0) else some false) : Option (Bool)).bind fun w22 => (bif w22 then some (.inr (.inr (.inr (.inr 3)))) else some (.inl (addI .i64 s13 1)))) else some (.inr (.inl ()))) : Option ((Int) ⊕ ((Unit) ⊕ ((Int) ⊕ ((Unit) ⊕ Int))))))
        (b2 := fun s14 : Int => ((bif (decide (s14 < (b.Most[k].length : Int))) then (idx b.Most[k] s14).bind fun v17 => ((bif (v17 != (-1099511627776)) then (m67 v17).bind fun v20 => some (!v20) else some false) : Option (Bool)).bind fun w18 => (bif w18 then some (.inr (.inr (.inr (.inr 2)))) else (bif (((k : Int) == s14) && (v17 != 0)) then some (.inr (.inr (.inr (.inr 3)))) else some (.inl (addI .i64 s14 1)))) else some (.inr (.inl ()))) : Option ((Int) ⊕ ((Unit) ⊕ ((Int) ⊕ ((Unit) ⊕ Int))))))
        b.Most[k].length (by unfold fuel; omega) (fun j => ∀ i (h : i < b.Most[k].length), i < j → EntD (k : Int) (i : Int) b.Most[k][i])
        (fun r1 r2 => r1 = r2 ∧ ((∃ c, r1 = .inr (.inr (.inr c)) ∧ c ≠ 0) ∨ (r1 = .inl () ∧ ∀ i (h : i < b.Most[k].length), EntD (k : Int) (i : Int) b.Most[k][i]))) (by intro i _ h; omega) (by
        intro j hj hq
        by_cases hlj : j < b.Most[k].length
        · rw [cond_t (le_t (by omega)), cond_t (lt_t (by omega)), idx_lt hlj]
          simp only [Option.bind_some, bad_ref, bad_prog]
          cases hbad : bad b.Most[k][j]
          · simp only [cond_false]
            cases hd : ((k : Int) == (j : Int))
            · left
              simp only [cond_false, Option.bind_some, Bool.false_and]
              refine ⟨hlj, by rw [addI_nat (by omega)], by rw [addI_nat (by omega)], fun i hi hij => ?_⟩
              by_cases e : i = j
              · subst e; exact ⟨bad_false hbad, fun h => by rw [h] at hd; simp at hd⟩
              · exact hq i hi (by omega)
            · simp only [cond_true, Option.bind_some, Bool.true_and]
              cases hz : (b.Most[k][j] != 0)
              · left
                simp only [cond_false]
                refine ⟨hlj, by rw [addI_nat (by omega)], by rw [addI_nat (by omega)], fun i hi hij => ?_⟩
                by_cases e : i = j
                · subst e; exact ⟨bad_false hbad, fun _ => by simpa using hz⟩
                · exact hq i hi (by omega)
              · right
                exact ⟨_, _, rfl, rfl, rfl, .inl ⟨3, rfl, by decide⟩⟩
          · right
            exact ⟨_, _, rfl, rfl, rfl, .inl ⟨2, rfl, by decide⟩⟩
        · right
          rw [cond_f (le_f (by omega)), cond_f (lt_f (by omega))]
          exact ⟨_, _, rfl, rfl, rfl, .inr ⟨rfl, fun i hi => hq i hi (by omega)⟩⟩)
      rw [e1, e2]
      obtain ⟨rfl, q⟩ := q
      rcases q with ⟨c, rfl, hc⟩ | ⟨rfl, q⟩
      · right
        exact ⟨_, _, rfl, rfl, rfl, .inl ⟨c, rfl, hc⟩⟩
      · left
        refine ⟨hlt, ?_, ?_, fun i hi hik => ?_⟩
        · simp only [Option.bind_some, Sum.elim_inl]; rw [addI_nat (by omega)]
        · simp only [Option.bind_some, Sum.elim_inl]; rw [addI_nat (by omega)]
        · by_cases e : i = k
          · subst e; exact q
          · exact hp i hi (by omega)
    · right
      rw [cond_f (le_f (by omega)), cond_f (lt_f (by omega))]
      exact ⟨_, _, rfl, rfl, rfl, .inr ⟨rfl, fun i hi => hp i hi (by omega)⟩⟩)
  rw [e1, e2]
  obtain ⟨rfl, q⟩ := q
  rcases q with ⟨c, rfl, hc⟩ | ⟨rfl, q⟩
  · exact ⟨c, rfl, rfl, fun h => (hc h).elim⟩
  · exact ⟨0, rfl, rfl, fun _ => ⟨by omega, by omega, h2', hrow, fun i h j h' => (q i h j h').1, fun i h h' => (q i h i h').2 rfl⟩⟩
end G11

namespace G11
open Go Go.Pl
set_option linter.unusedVariables false

/-- lists that are as long as they are wide -/
def Sq (n : Nat) (l : List (List Int)) : Prop := l.length = n ∧ ∀ r ∈ l, r.length = n
/-- right bounds about few times -/
structure Rt (N : Nat) (l : List (List Int)) : Prop where
  hN : N + 1 ≤ 7
  sq : Sq (N + 1) l
  dg : ∀ i, i < N + 1 → ent l i i = 0
  en : ∀ i j, i < N + 1 → j < N + 1 → Ent (ent l i j)

theorem ent_get {l : List (List Int)} {i j : Nat} (hi : i < l.length) (hj : j < l[i].length) : ent l i j = l[i][j] := by
  unfold ent
  simp [List.getD_eq_getElem?_getD, hi, hj]
theorem ent_out {l : List (List Int)} {i j : Nat} (h : ∀ hi : i < l.length, ¬ j < l[i].length) : ent l i j = 0 := by
  unfold ent
  by_cases hi : i < l.length
  · have := h hi
    simp only [List.getD_eq_getElem?_getD, List.getElem?_eq_getElem hi, Option.getD_some]
    rw [List.getElem?_eq_none (by omega)]; rfl
  · simp [List.getD_eq_getElem?_getD, List.getElem?_eq_none (show l.length ≤ i by omega)]

theorem Right.rt {b : SBounds} (h : Right b) (h6 : ¬ b.N > 6) : ∃ N : Nat, b.N = (N : Int) ∧ Rt N b.Most := by
  have h0 := h.n0
  refine ⟨b.N.toNat, by omega, ?_⟩
  have hl : b.Most.length = b.N.toNat + 1 := by have := h.len; omega
  have hr : ∀ i (hi : i < b.Most.length), b.Most[i].length = b.N.toNat + 1 := fun i hi => by have := h.row i hi; omega
  refine ⟨by omega, ⟨hl, fun r hr' => ?_⟩, fun i hi => ?_, fun i j hi hj => ?_⟩
  · obtain ⟨i, hi, rfl⟩ := List.getElem_of_mem hr'
    exact hr i hi
  · rw [ent_get (by omega) (by rw [hr i (by omega)]; exact hi)]
    exact h.dg i (by omega) (by rw [hr i (by omega)]; exact hi)
  · rw [ent_get (by omega) (by rw [hr i (by omega)]; exact hj)]
    exact h.ent i (by omega) j (by rw [hr i (by omega)]; exact hj)

section
variable {N : Nat} {l : List (List Int)} (h : Rt N l)
include h
theorem Rt.w0 {i : Nat} (hi : i < N + 1) : wt l i i = some 0 := by unfold wt toO; rw [h.dg i hi]; rfl
theorem Rt.any (i j : Nat) : Ent (ent l i j) := by
  by_cases hi : i < N + 1
  · by_cases hj : j < N + 1
    · exact h.en i j hi hj
    · rw [ent_out (fun hi' => by have := h.sq.2 _ (List.getElem_mem hi'); omega)]
      exact .inr ⟨by omega, by omega⟩
  · rw [ent_out (fun hi' => by have := h.sq.1; omega)]
    exact .inr ⟨by omega, by omega⟩
theorem Rt.ws {i j : Nat} {x : Int} (e : wt l i j = some x) : -64000000 ≤ x ∧ x ≤ 64000000 := by
  unfold wt toO at e
  split at e
  · cases e
  · rename_i hne
    injection e with e
    have := h.any i j
    unfold Ent at this
    omega
theorem Rt.es {i j : Nat} (hne : ent l i j ≠ -1099511627776) : -64000000 ≤ ent l i j ∧ ent l i j ≤ 64000000 := by
  have := h.any i j
  unfold Ent at this
  omega
omit h in
theorem ofO_toO (x : Int) : ofO (toO x) = x := by unfold toO; split <;> simp_all [ofO]

theorem Rt.solve_eq : solve l = (match rounds (N + 1) (wt l) (N + 1) bf0 with | some s => .inl ((cycL (N + 1) s).map fun x : Nat => (x : Int)) | none => .inr (matO (N + 1) (fw (wt l) (N + 1)))) := by
  unfold solve; rw [h.sq.1]; cases rounds (N + 1) (wt l) (N + 1) bf0 <;> rfl
end
theorem matO_ent {n : Nat} {d : Wt} {i j : Nat} (hi : i < n) (hj : j < n) : ent (matO n d) i j = ofO (d i j) := by
  simp [matO, matL, rowL, ent, List.getD_eq_getElem?_getD, hi, hj]
theorem matL_congr {n : Nat} {m m' : Nat → Nat → Int} (h : ∀ i j, i < n → j < n → m i j = m' i j) : matL n m = matL n m' := by
  unfold matL rowL
  refine List.map_congr_left (fun i hi => List.map_congr_left (fun j hj => h i j (List.mem_range.1 hi) (List.mem_range.1 hj)))
end G11

namespace G11
open Go Go.Pl
set_option linter.unusedVariables false

theorem few_eq2 (b : SBounds) (hl : b.Most.length ≤ mx) : ∃ r, m12 b = some r ∧ (r = true → b.N ≤ 5 ∨ ∃ c, m28 b = some c ∧ c ≠ 0) := by
  obtain ⟨c, hc, _, _⟩ := check_eq0 b
  unfold m12
  unfold mx at hl
  cases h1 : (decide ((b.Most.length : Int) > 50))
  case true => exact ⟨false, rfl, fun h => by simp at h⟩
  have h1' : b.Most.length ≤ 50 := by simp at h1; omega
  simp only [cond_false]
  obtain ⟨r, e, q⟩ : ∃ r, iter (fun s2 : Int => ((bif (decide (s2 < (b.Most.length : Int))) then (idx b.Most s2).bind fun v5 => (bif (decide ((v5.length : Int) > 50)) then some (.inr (.inr false)) else some (.inl (addI .i64 s2 1))) else some (.inr (.inl ()))) : Option ((Int) ⊕ ((Unit) ⊕ Bool)))) 0 = some r ∧
      (r = .inr false ∨ r = .inl ()) := by
    refine iter_cnt b.Most.length (by unfold fuel; omega) (fun _ => True) _ trivial ?_
    intro k hk _
    by_cases hlt : k < b.Most.length
    · rw [cond_t (lt_t (by omega)), idx_lt hlt, Option.bind_some]
      cases h3 : (decide ((b.Most[k].length : Int) > 50))
      · exact .inl ⟨hlt, by rw [cond_false, addI_nat (by omega)], trivial⟩
      · exact .inr ⟨_, rfl, .inl rfl⟩
    · rw [cond_f (lt_f (by omega))]
      exact .inr ⟨_, rfl, .inr rfl⟩
  rw [e]
  rcases q with rfl | rfl
  · exact ⟨false, rfl, fun h => by simp at h⟩
  · simp only [Option.bind_some, Sum.elim_inl, hc]
    cases h5 : decide (b.N ≤ 5)
    · exact ⟨_, rfl, fun h => .inr ⟨c, rfl, by simpa using h⟩⟩
    · exact ⟨_, rfl, fun _ => .inl (of_decide_eq_true h5)⟩

theorem same_refl (b : SBounds) (hl : b.Most.length ≤ 1000000) (hr : ∀ r ∈ b.Most, r.length ≤ 1000000) : m16 b b = some true := by
  unfold m16
  rw [show ((b.N != b.N) || ((b.Most.length : Int) != (b.Most.length : Int))) = false by simp, cond_false]
  obtain ⟨r, e, q⟩ := iter_cnt (body := fun s4 : Int => ((bif (decide (s4 < (b.Most.length : Int))) then (idx b.Most s4).bind fun v7 => (idx b.Most s4).bind fun v8 => (bif ((v7.length : Int) != (v8.length : Int)) then some (.inr (.inr false)) else (iter (fun s10 : Int => ((idx b.Most s4).bind fun v12 => (bif (decide (s10 < (v12.length : Int))) then (idx b.Most s4).bind fun v14 => (idx v14 s10).bind fun v15 => (idx b.Most s4).bind fun v16 => (idx v16 s10).bind fun v17 => (bif (v15 != v17) then some (.inr (.inr (.inr (.inr false)))) else some (.inl (addI .i64 s10 1))) else some (.inr (.inl ()))) : Option ((Int) ⊕ ((Unit) ⊕ ((Int) ⊕ ((Unit) ⊕ Bool)))))) 0).bind (Sum.elim (fun w11 => some (.inl (addI .i64 s4 1))) some)) else some (.inr (.inl ()))) : Option ((Int) ⊕ ((Unit) ⊕ Bool))))
    b.Most.length (by unfold fuel; omega) (fun _ => True) (fun r => r = .inl ()) trivial (by
    intro k hk _
    by_cases hlt : k < b.Most.length
    · left
      refine ⟨hlt, ?_, trivial⟩
      have hrk := hr _ (List.getElem_mem hlt)
      simp only [lt_t (show (k : Int) < (b.Most.length : Int) by omega), cond_true, idx_lt hlt, Option.bind_some, bne_self_eq_false, cond_false]
      obtain ⟨r, e, q⟩ := iter_cnt (body := fun s10 : Int => ((bif (decide (s10 < (b.Most[k].length : Int))) then (idx b.Most[k] s10).bind fun v15 => (idx b.Most[k] s10).bind fun v17 => (bif (v15 != v17) then some (.inr (.inr (.inr (.inr false)))) else some (.inl (addI .i64 s10 1))) else some (.inr (.inl ()))) : Option ((Int) ⊕ ((Unit) ⊕ ((Int) ⊕ ((Unit) ⊕ Bool))))))
        b.Most[k].length (by unfold fuel; omega) (fun _ => True) (fun r => r = .inl ()) trivial (by
        intro j hj _
        by_cases hlj : j < b.Most[k].length
        · left
          refine ⟨hlj, ?_, trivial⟩
          simp only [lt_t (show (j : Int) < (b.Most[k].length : Int) by omega), cond_true, idx_lt hlj, Option.bind_some, bne_self_eq_false, cond_false]
          rw [addI_nat (by omega)]
        · right
          simp only [lt_f (show ¬ (j : Int) < (b.Most[k].length : Int) by omega), cond_false]
          exact ⟨_, rfl, rfl⟩)
      rw [e]; subst q
      show some (Sum.inl (addI .i64 (k : Int) 1)) = _
      rw [addI_nat (by omega)]
    · right
      simp only [lt_f (show ¬ (k : Int) < (b.Most.length : Int) by omega), cond_false]
      exact ⟨_, rfl, rfl⟩)
  rw [e]; subst q; rfl
theorem matL_small {n : Nat} {m : Nat → Nat → Int} (hn : n ≤ 1000000) : (matL n m).length ≤ 1000000 ∧ ∀ r ∈ matL n m, r.length ≤ 1000000 := by
  refine ⟨by simp [matL]; exact hn, fun r hr => ?_⟩
  obtain ⟨i, _, rfl⟩ := List.mem_map.1 hr
  simp [rowL]; exact hn

/-- the closed bounds are the least sums -/
theorem solve_inr {N : Nat} {l d : List (List Int)} (h : Rt N l) (hs : solve l = .inr d) : NonNeg (N + 1) (wt l) ∧ d = pathL l ∧ possL l = true := by
  rw [h.solve_eq] at hs
  cases hr : rounds (N + 1) (wt l) (N + 1) bf0 with
  | some s => rw [hr] at hs; cases hs
  | none =>
    rw [hr] at hs
    injection hs with hs
    have hnn : NonNeg (N + 1) (wt l) := neg_none (fun i hi => h.w0 hi) hr
    have hL1 := fw_Least hnn (fun i hi => h.w0 hi)
    have hL2 := pth_Least hnn (m := N + 1) (by omega)
    refine ⟨hnn, ?_, ?_⟩
    · rw [← hs]
      unfold pathL
      rw [h.sq.1]
      exact matL_congr (fun i j hi hj => by rw [hL1.uniq hL2 hi hj])
    · unfold possL
      rw [List.all_eq_true]
      intro i hi
      have hi : i < N + 1 := by have := List.mem_range.1 hi; rw [h.sq.1] at this; exact this
      obtain ⟨y, e, _⟩ := pth_monos (n := N + 1) (w := wt l) (m := N + 1) (Nat.zero_le _) (i := i) (j := i) (x := 0) ⟨0, h.w0 hi, Int.le_refl _⟩
      have h2 := pth_diag hnn hi e
      have h3 : ent (pathL l) i i = y := by
        unfold pathL
        rw [h.sq.1, matO_ent hi hi, e]; rfl
      rw [h3]
      simp; omega
theorem solve_inl {N : Nat} {l : List (List Int)} {c : List Int} (h : Rt N l) (hs : solve l = .inl c) : possL l = false ∧ ∃ s la k x, Cyc (N + 1) (wt l) s la k x ∧ c = (cycL (N + 1) s).map fun x : Nat => (x : Int) := by
  rw [h.solve_eq] at hs
  cases hr : rounds (N + 1) (wt l) (N + 1) bf0 with
  | none => rw [hr] at hs; cases hs
  | some s =>
    rw [hr] at hs
    injection hs with hs
    obtain ⟨la, k, x, hc⟩ := neg_some (by omega) (fun i hi => h.w0 hi) hr
    refine ⟨?_, s, la, k, x, hc, hs.symm⟩
    obtain ⟨i, y, hi, e, hy⟩ := hc.pth (m := N + 1) (by omega)
    unfold possL
    rw [List.all_eq_false]
    refine ⟨i, List.mem_range.2 (by rw [h.sq.1]; exact hi), ?_⟩
    have h3 : ent (pathL l) i i = y := by
      unfold pathL
      rw [h.sq.1, matO_ent hi hi, e]; rfl
    rw [h3]
    simp [hy]

end G11

namespace G11
open Go Go.Pl
set_option linter.unusedVariables false

theorem chase_eq {fr : Nat → Nat} {a k : Nat} (hb : itn fr a k = a) (hf : ∀ m, 0 < m → m < k → itn fr a m ≠ a) : ∀ (d fuel : Nat), d < k → d ≤ fuel → chase fr a fuel (itn fr a (k - d)) = (List.range' (k - d) d).map (itn fr a)
  | 0, fuel, _, _ => by
    rw [Nat.sub_zero, hb]
    cases fuel with
    | zero => rfl
    | succ f => rw [chase, if_pos rfl]; rfl
  | d + 1, fuel, h1, h2 => by
    obtain ⟨f, rfl⟩ : ∃ f, fuel = f + 1 := ⟨fuel - 1, by omega⟩
    rw [chase, if_neg (hf _ (by omega) (by omega))]
    have := chase_eq hb hf d f (by omega) (by omega)
    rw [show k - d = (k - (d + 1)) + 1 by omega] at this
    rw [List.range'_succ, List.map_cons, ← this]
    rfl

theorem cyc_list {n : Nat} {w : Wt} {s : BF} {la k : Nat} {x : Nat → Int} (hc : Cyc n w s la k x) : (cycL n s).map (fun y : Nat => (y : Int)) = rowL k fun t => ((itn s.fr la (n + (k - 1 - t)) : Nat) : Int) := by
  have hla : s.last.getD 0 = la := by rw [hc.hl]; rfl
  have hk := hc.pos
  have hb : itn s.fr (itn s.fr la n) k = itn s.fr la n := by rw [← itn_add]; exact hc.back
  have hf : ∀ m, 0 < m → m < k → itn s.fr (itn s.fr la n) m ≠ itn s.fr la n := fun m h1 h2 => by rw [← itn_add]; exact hc.first m h1 h2
  have h1 := chase_eq hb hf (k - 1) n (by omega) (by have := hc.le; omega)
  rw [show k - (k - 1) = 1 by omega] at h1
  have h2 : cycL n s = ((List.range k).map (itn s.fr (itn s.fr la n))).reverse := by
    unfold cycL
    rw [hla, show s.fr (itn s.fr la n) = itn s.fr (itn s.fr la n) 1 from rfl, h1, List.range_eq_range', show k = (k - 1) + 1 by omega, List.range'_succ, List.map_cons]
    rfl
  rw [h2]
  refine List.ext_getElem (by simp [rowL]) (fun t h3 h4 => ?_)
  have h5 : t < k := by simpa [rowL] using h4
  simp [rowL, List.getElem_reverse, itn_add]

theorem bsum_shift (x : Nat → Int) (e : Nat) : ∀ t, bsum x (e + 1) (t + 1) = x e + bsum x e t
  | 0 => by simp [bsum]
  | t + 1 => by
    have := bsum_shift x e t
    show bsum x (e + 1) (t + 1) + x (e + 1 - 1 - (t + 1)) = x e + (bsum x e t + x (e - 1 - t))
    rw [this, show e + 1 - 1 - (t + 1) = e - 1 - t by omega]
    omega
def sumF (ev : Nat → Int) : Nat → Int
  | 0 => 0
  | k + 1 => sumF ev k + ev k
theorem sumF_small {ev : Nat → Int} : ∀ k, (∀ t, t < k → -64000000 ≤ ev t ∧ ev t ≤ 64000000) → -64000000 * (k : Int) ≤ sumF ev k ∧ sumF ev k ≤ 64000000 * k
  | 0, _ => by simp [sumF]
  | k + 1, h => by
    have h1 := sumF_small k (fun t ht => h t (by omega))
    have h2 := h k (by omega)
    simp only [sumF]
    omega
theorem sumF_bsum (x : Nat → Int) (e : Nat) {ev : Nat → Int} : ∀ j, (∀ t, t < j → ev t = x (e - 1 - t)) → sumF ev j = bsum x e j
  | 0, _ => rfl
  | j + 1, h => by simp only [sumF, bsum]; rw [sumF_bsum x e j (fun t ht => h t (by omega)), h j (by omega)]

theorem verify_cyc {b : SBounds} {N : Nat} (e28 : m28 b = some 0) (hN : b.N = (N : Int)) (h : Rt N b.Most) {s : BF} {la k : Nat} {x : Nat → Int} (hc : Cyc (N + 1) (wt b.Most) s la k x) : m17 b ((cycL (N + 1) s).map fun y : Nat => (y : Int)) = some (true, 0) := by
  rw [cyc_list hc]
  have hk := hc.pos
  have hk7 : k ≤ 7 := by have := hc.le; have := h.hN; omega
  generalize hf : (fun t : Nat => itn s.fr la (N + 1 + (k - 1 - t))) = f
  have hff : (fun t : Nat => ((itn s.fr la (N + 1 + (k - 1 - t)) : Nat) : Int)) = fun t => ((f t : Nat) : Int) := by rw [← hf]
  rw [hff]
  have hlen : (rowL k fun t => ((f t : Nat) : Int)).length = k := by simp [rowL]
  have hget : ∀ t, t < k → idx (rowL k fun t => ((f t : Nat) : Int)) (t : Int) = some ((f t : Nat) : Int) := fun t ht => by
    rw [idx_lt (by rw [hlen]; exact ht)]; simp [rowL]
  have hlt : ∀ t, f t < N + 1 := fun t => by rw [← hf]; exact hc.lt _
  -- the bound behind each place
  obtain ⟨ev, hev, hsum⟩ : ∃ ev : Nat → Int, (∀ t, t < k → wt b.Most (f t) (f ((t + 1) % k)) = some (ev t)) ∧ sumF ev k < 0 := by
    refine ⟨fun t => if t + 1 = k then x (N + 1 + k - 1) else x (N + 1 + k - 1 - 1 - t), fun t ht => ?_, ?_⟩
    · rw [← hf]
      dsimp only
      by_cases e : t + 1 = k
      · rw [if_pos e, e, Nat.mod_self]
        have := hc.bound (N + 1 + k - 1)
        rw [show N + 1 + k - 1 + 1 = N + 1 + k by omega, hc.back] at this
        rw [show N + 1 + (k - 1 - t) = N + 1 by omega, show N + 1 + (k - 1 - 0) = N + 1 + k - 1 by omega]
        exact this
      · rw [if_neg e, Nat.mod_eq_of_lt (by omega)]
        have := hc.bound (N + 1 + k - 1 - 1 - t)
        rw [show N + 1 + k - 1 - 1 - t + 1 = N + 1 + (k - 1 - t) by omega, show N + 1 + k - 1 - 1 - t = N + 1 + (k - 1 - (t + 1)) by omega] at this
        rw [show N + 1 + k - 1 - 1 - t = N + 1 + (k - 1 - (t + 1)) by omega]
        exact this
    · obtain ⟨j, rfl⟩ : ∃ j, k = j + 1 := ⟨k - 1, by omega⟩
      simp only [sumF, if_true]
      rw [sumF_bsum x (N + 1 + (j + 1) - 1) j (fun t ht => by rw [if_neg (by omega)])]
      have := hc.neg
      rw [show N + 1 + (j + 1) = (N + 1 + (j + 1) - 1) + 1 by omega, bsum_shift] at this
      omega
  have hes : ∀ t, t < k → -64000000 ≤ ev t ∧ ev t ≤ 64000000 := fun t ht => h.ws (hev t ht)
  have hent : ∀ t, t < k → ent b.Most (f t) (f ((t + 1) % k)) = ev t ∧ ev t ≠ -1099511627776 := fun t ht => by
    have h1 := hev t ht
    have h2 := hes t ht
    unfold wt toO at h1
    split at h1
    · cases h1
    · injection h1 with h1
      exact ⟨h1, by omega⟩
  unfold m17
  rw [e28, Option.bind_some, show ((0 : Int) != 0) = false from rfl, cond_false, hlen, show ((k : Int) == 0) = false by simp; omega, cond_false]
  obtain ⟨r, e, q⟩ := iter_cnt (body := fun s4 : Int => ((bif (decide (s4 < (k : Int))) then (idx (rowL k fun t => ((f t : Nat) : Int)) s4).bind fun v7 => (m52 b v7).bind fun v8 => (bif (!v8) then some (.inr (.inr (false, 2))) else some (.inl (addI .i64 s4 1))) else some (.inr (.inl ()))) : Option ((Int) ⊕ ((Unit) ⊕ (Bool × Int)))))
    k (by unfold fuel; omega) (fun _ => True) (fun r => r = .inl ()) trivial (by
    intro t ht _
    by_cases hlt2 : t < k
    · left
      refine ⟨hlt2, ?_, trivial⟩
      have h52 : m52 b ((f t : Nat) : Int) = some true := by
        unfold m52
        have := hlt t
        rw [show decide (((f t : Nat) : Int) ≥ 0) = true by simp, show decide (((f t : Nat) : Int) ≤ b.N) = true by simp; omega]
        rfl
      simp only [lt_t (show (t : Int) < (k : Int) by omega), cond_true, hget t hlt2, Option.bind_some, h52, Bool.not_true, cond_false]
      rw [addI_nat (by omega)]
    · right
      simp only [lt_f (show ¬ (t : Int) < (k : Int) by omega), cond_false]
      exact ⟨_, rfl, rfl⟩)
  rw [e]; subst q
  simp only [Option.bind_some, Sum.elim_inl]
  have h53 : m53 b (rowL k fun t => ((f t : Nat) : Int)) = some true := by
    unfold m53
    rw [hlen]
    obtain ⟨r, e, q⟩ := iter_cnt2 (body := fun s1 : Int × Int => ((bif (decide (s1.2 < (k : Int))) then (idx (rowL k fun t => ((f t : Nat) : Int)) s1.2).bind fun v4 => (idx b.Most v4).bind fun v5 => (remc (addI .i64 s1.2 1) (k : Int)).bind fun v6 => (idx (rowL k fun t => ((f t : Nat) : Int)) v6).bind fun v7 => (idx v5 v7).bind fun v8 => (m88 s1.1 v8).bind fun v9 => some (.inl (v9, (addI .i64 s1.2 1))) else some (.inr s1.1)) : Option ((Int × Int) ⊕ (Int))))
      (t0 := (0 : Int)) k (by unfold fuel; omega) (fun t y => y = sumF ev t) (fun r => r = sumF ev k) rfl (by
      intro t y ht hy
      subst hy
      by_cases hlt2 : t < k
      · left
        have hmod : (t + 1) % k < k := Nat.mod_lt _ hk
        have hrow : f t < b.Most.length := by rw [h.sq.1]; exact hlt t
        have hcol : f ((t + 1) % k) < b.Most[f t].length := by rw [h.sq.2 _ (List.getElem_mem hrow)]; exact hlt _
        obtain ⟨x1, x2⟩ := hent t hlt2
        rw [ent_get hrow hcol] at x1
        have hs := sumF_small (ev := ev) t (fun t' ht' => hes t' (by omega))
        have h1 := hes t hlt2
        have h88 : m88 (sumF ev t) (ev t) = some (sumF ev (t + 1)) := by
          unfold m88
          rw [show ((sumF ev t == -1099511627776) || (ev t == -1099511627776)) = false by simp; omega, cond_false, addI_eq (by omega) (by omega)]
          rfl
        refine ⟨sumF ev (t + 1), hlt2, ?_, rfl⟩
        have hrem : remc (addI .i64 (t : Int) 1) (k : Int) = some (((t + 1) % k : Nat) : Int) := by
          rw [addI_nat (by omega)]
          unfold remc
          rw [if_neg (by omega)]
          rfl
        simp only [lt_t (show (t : Int) < (k : Int) by omega), cond_true, hget t hlt2, Option.bind_some, idx_lt hrow, hrem, hget _ hmod, idx_lt hcol, x1, h88]
        rw [addI_nat (by omega)]
      · right
        obtain rfl : t = k := by omega
        simp only [lt_f (show ¬ (t : Int) < (t : Int) by omega), cond_false]
        exact ⟨_, rfl, rfl⟩)
    rw [e]; subst q
    have hs := sumF_small (ev := ev) k hes
    simp only [Option.bind_some]
    rw [show (sumF ev k != -1099511627776) = true by simp; omega, show decide (sumF ev k < 0) = true by simp [hsum]]
    rfl
  rw [h53]; rfl

theorem plain3 (b : SBounds) (hb : OkQ b) : m3 b = some true := by
  obtain ⟨c, e28, e32, hR⟩ := check_eq0 b
  obtain ⟨r, e12, h12⟩ := few_eq2 b hb.2.1
  have h16 : m16 (⟨0, []⟩ : SBounds) ⟨0, []⟩ = some true := same_refl _ (by simp) (by simp)
  have h13 : m13 = some true := rfl
  unfold m3
  rw [e12, Option.bind_some]
  cases r with
  | false => rfl
  | true =>
    simp only [Bool.not_true, cond_false]
    unfold m14 m15
    rw [e28, e32]
    simp only [Option.bind_some]
    cases hc : (c != 0)
    case true =>
      simp only [cond_true, Option.bind_some, h13, h16, beq_self_eq_true, bne_self_eq_false, cond_false, Bool.not_true, hc, Bool.false_or, List.length_nil]
      rfl
    have hc0 : c = 0 := by simpa using hc
    subst hc0
    have h5 : b.N ≤ 5 := by
      rcases h12 rfl with h | ⟨c, h1, h2⟩
      · exact h
      · rw [e28] at h1; injection h1 with h1; exact (h2 h1.symm).elim
    have h6 : decide (b.N > 6) = false := by simp; omega
    obtain ⟨N, hN, hrt⟩ := (hR rfl).rt (by omega)
    simp only [cond_false, h6]
    cases hs : solve b.Most with
    | inl c =>
      obtain ⟨hp, s, la, k, x, hcy, rfl⟩ := solve_inl hrt hs
      rw [hp]
      simp only [Bool.not_false, cond_true, Option.bind_some, h16, beq_self_eq_true, bne_self_eq_false, cond_false, Bool.not_true, Bool.false_or, verify_cyc e28 hN hrt hcy, h13]
    | inr d =>
      obtain ⟨hnn, hd, hp⟩ := solve_inr hrt hs
      rw [hp, hd]
      cases hbg : big (pathL b.Most) with
      | true =>
        simp only [hbg, Bool.not_true, cond_true, cond_false, Option.bind_some, h16, beq_self_eq_true, bne_self_eq_false, h13, List.length_nil]
        rfl
      | false =>
        have hsm : m16 (⟨b.N, pathL b.Most⟩ : SBounds) ⟨b.N, pathL b.Most⟩ = some true := by
          have hN7 := hrt.hN
          have := matL_small (n := b.Most.length) (m := fun i j => ofO (pth b.Most.length (wt b.Most) b.Most.length i j)) (by rw [hrt.sq.1]; omega)
          exact same_refl _ this.1 this.2
        simp only [hbg, Bool.not_true, cond_true, cond_false, Option.bind_some, hsm, beq_self_eq_true, bne_self_eq_false, h13, List.length_nil, Bool.true_or]
        rfl
end G11
