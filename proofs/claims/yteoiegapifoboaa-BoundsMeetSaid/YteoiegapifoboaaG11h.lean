/- Bounds, and what is computed of them, in plain words. No condition. -/
import Derived.Test.YteoiegapifoboaaG11M
import Derived.Test.YteoiegapifoboaaAmP1
import Derived.Test.YteoiegapifoboaaAmP2
namespace G11
open Go Go.Pl

def mx : Nat := 9223372036854775807
def OkR (l : List Int) : Prop := l.length ≤ mx ∧ ∀ n ∈ l, -9223372036854775808 ≤ n ∧ n ≤ 9223372036854775807
def OkQ (b : SBounds) : Prop := (-9223372036854775808 ≤ b.N ∧ b.N ≤ 9223372036854775807) ∧ b.Most.length ≤ mx ∧ ∀ row ∈ b.Most, OkR row

def Ent (n : Int) : Prop := n = -1099511627776 ∨ (-64000000 ≤ n ∧ n ≤ 64000000)
def EntD (k i x : Int) : Prop := Ent x ∧ (k = i → x = 0)
structure Right (b : SBounds) : Prop where
  n0 : 0 ≤ b.N
  n1 : b.N ≤ 12
  len : (b.Most.length : Int) = b.N + 1
  row : ∀ i (h : i < b.Most.length), (b.Most[i].length : Int) = b.N + 1
  ent : ∀ i (h : i < b.Most.length) j (h' : j < b.Most[i].length), Ent b.Most[i][j]
  dg : ∀ i (h : i < b.Most.length) (h' : i < b.Most[i].length), b.Most[i][i] = 0

theorem m65_eq (n : Int) : m65 n = some (decide (-64000000 ≤ n ∧ n ≤ 64000000)) := by
  simp [m65, Bool.decide_and]
theorem m67_eq (n : Int) : m67 n = some (decide (-64000000 ≤ n ∧ n ≤ 64000000)) := by
  simp [m67, Bool.decide_and]

/-- is a number none, or a bound? -/
def bad (n : Int) : Bool := n != -1099511627776 && !decide (-64000000 ≤ n ∧ n ≤ 64000000)
theorem bad_ref (n : Int) : ((bif (n != (-1099511627776)) then (m65 n).bind fun v20 => some (!v20) else some false) : Option Bool) = some (bad n) := by
  unfold bad
  cases h : (n != -1099511627776) <;> simp [m65_eq]
theorem bad_prog (n : Int) : ((bif (n != (-1099511627776)) then (m67 n).bind fun v20 => some (!v20) else some false) : Option Bool) = some (bad n) := by
  unfold bad
  cases h : (n != -1099511627776) <;> simp [m67_eq]
theorem bad_false {n : Int} (h : bad n = false) : Ent n := by
  unfold bad at h; unfold Ent
  by_cases h1 : n = -1099511627776
  · exact .inl h1
  · right
    simp [h1] at h; exact h

theorem check_eq0 (b : SBounds) : ∃ c, m28 b = some c ∧ m32 b = some c ∧ (c = 0 → Right b) := by
  unfold m28 m32
  cases h1 : ((decide (b.N < 0)) || (decide (b.N > 12)))
  case true => exact ⟨2, rfl, rfl, fun h => by omega⟩
  simp only [Bool.or_eq_false_iff, decide_eq_false_iff_not] at h1
  rw [addI_eq (by omega) (by omega)]
  simp only [cond_false]
  cases h2 : ((b.Most.length : Int) != b.N + 1)
  case true => exact ⟨8, rfl, rfl, fun h => by omega⟩
  have h2' : (b.Most.length : Int) = b.N + 1 := by simpa using h2
  simp only [cond_false]
  obtain ⟨r, e, q⟩ : ∃ r, iter (fun s5 : Int => ((bif (decide (s5 < (b.Most.length : Int))) then (idx b.Most s5).bind fun v8 => (bif ((v8.length : Int) != b.N + 1) then some (.inr (.inr 8)) else some (.inl (addI .i64 s5 1))) else some (.inr (.inl ()))) : Option ((Int) ⊕ ((Unit) ⊕ Int)))) 0 = some r ∧
      (r = .inr 8 ∨ r = .inl () ∧ ∀ i (h : i < b.Most.length), (b.Most[i].length : Int) = b.N + 1) := by
    refine iter_cnt b.Most.length (by unfold fuel; omega) (fun k => ∀ i (h : i < b.Most.length), i < k → (b.Most[i].length : Int) = b.N + 1) _ (by intro i _ h; omega) ?_
    intro k hk hp
    by_cases hlt : k < b.Most.length
    · rw [cond_t (lt_t (by omega)), idx_lt hlt, Option.bind_some]
      cases h3 : ((b.Most[k].length : Int) != b.N + 1)
      · left
        refine ⟨hlt, by rw [cond_false, addI_nat (by omega)], fun i hi hik => ?_⟩
        by_cases e : i = k
        · subst e; simpa using h3
        · exact hp i hi (by omega)
      · right
        exact ⟨_, rfl, .inl rfl⟩
    · right
      rw [cond_f (lt_f (by omega))]
      exact ⟨_, rfl, .inr ⟨rfl, fun i hi => hp i hi (by omega)⟩⟩
  rw [e]
  rcases q with rfl | ⟨rfl, hrow⟩
  · exact ⟨8, rfl, rfl, fun h => by omega⟩
  simp only [Option.bind_some, Sum.elim_inl]
  -- the numbers
  let n := b.Most.length
  obtain ⟨r1, r2, e1, e2, q⟩ := sim_cnt (b1 := fun s10 : Int => ((bif (decide (s10 ≤ b.N)) then (iter (fun s13 : Int => ((bif (decide (s13 ≤ b.N)) then (idx b.Most s10).bind fun v16 => (idx v16 s13).bind fun v17 => ((bif (v17 != (-1099511627776)) then (m65 v17).bind fun v20 => some (!v20) else some false) : Option (Bool)).bind fun w18 => (bif w18 then some (.inr (.inr (.inr (.inr 2)))) else ((bif (s10 == s13) then (idx b.Most s10).bind fun v24 => (idx v24 s13).bind fun v25 => some (v25 != 0) else some false) : Option (Bool)).bind fun w22 => (bif w22 then some (.inr (.inr (.inr (.inr 3)))) else some (.inl (addI .i64 s13 1)))) else some (.inr (.inl ()))) : Option ((Int) ⊕ ((Unit) ⊕ ((Int) ⊕ ((Unit) ⊕ Int)))))) 0).bind (Sum.elim (fun w14 => some (.inl (addI .i64 s10 1))) some) else some (.inr (.inl ()))) : Option ((Int) ⊕ ((Unit) ⊕ Int))))
    (b2 := fun s10 : Int => ((bif (decide (s10 < (b.Most.length : Int))) then (idx b.Most s10).bind fun v13 => (iter (fun s14 : Int => ((bif (decide (s14 < (v13.length : Int))) then (idx v13 s14).bind fun v17 => ((bif (v17 != (-1099511627776)) then (m67 v17).bind fun v20 => some (!v20) else some false) : Option (Bool)).bind fun w18 => (bif w18 then some (.inr (.inr (.inr (.inr 2)))) else (bif ((s10 == s14) && (v17 != 0)) then some (.inr (.inr (.inr (.inr 3)))) else some (.inl (addI .i64 s14 1)))) else some (.inr (.inl ()))) : Option ((Int) ⊕ ((Unit) ⊕ ((Int) ⊕ ((Unit) ⊕ Int)))))) 0).bind (Sum.elim (fun w15 => some (.inl (addI .i64 s10 1))) some) else some (.inr (.inl ()))) : Option ((Int) ⊕ ((Unit) ⊕ Int))))
    n (by unfold fuel; omega) (fun k => ∀ i (h : i < b.Most.length), i < k → ∀ j (h' : j < b.Most[i].length), EntD (i : Int) (j : Int) b.Most[i][j])
    (fun r1 r2 => r1 = r2 ∧ ((∃ c, r1 = .inr c ∧ c ≠ 0) ∨ (r1 = .inl () ∧ ∀ i (h : i < b.Most.length), ∀ j (h' : j < b.Most[i].length), EntD (i : Int) (j : Int) b.Most[i][j]))) (by intro i _ h; omega) (by
    intro k hk hp
    by_cases hlt : k < b.Most.length
    · have hrk := hrow k hlt
      rw [cond_t (le_t (by omega)), cond_t (lt_t (by omega)), idx_lt hlt]
      simp only [Option.bind_some]
      obtain ⟨r1, r2, e1, e2, q⟩ := sim_cnt (b1 := fun s13 : Int => ((bif (decide (s13 ≤ b.N)) then (idx b.Most[k] s13).bind fun v17 => ((bif (v17 != (-1099511627776)) then (m65 v17).bind fun v20 => some (!v20) else some false) : Option (Bool)).bind fun w18 => (bif w18 then some (.inr (.inr (.inr (.inr 2)))) else ((bif ((k : Int) == s13) then (idx b.Most[k] s13).bind fun v25 => some (v25 != 0) else some false) : Option (Bool)).bind fun w22 => (bif w22 then some (.inr (.inr (.inr (.inr 3)))) else some (.inl (addI .i64 s13 1)))) else some (.inr (.inl ()))) : Option ((Int) ⊕ ((Unit) ⊕ ((Int) ⊕ ((Unit) ⊕ Int))))))
        (b2 := fun s14 : Int => ((bif (decide (s14 < (b.Most[k].length : Int))) then (idx b.Most[k] s14).bind fun v17 => ((bif (v17 != (-1099511627776)) then (m67 v17).bind fun v20 => some (!v20) else some false) : Option (Bool)).bind fun w18 => (bif w18 then some (.inr (.inr (.inr (.inr 2)))) else (bif (((k : Int) == s14) && (v17 != 0)) then some (.inr (.inr (.inr (.inr 3)))) else some (.inl (addI .i64 s14 1)))) else some (.inr (.inl ()))) : Option ((Int) ⊕ ((Unit) ⊕ ((Int) ⊕ ((Unit) ⊕ Int))))))
        b.Most[k].length (by unfold fuel; omega) (fun j => ∀ i (h : i < b.Most[k].length), i < j → EntD (k : Int) (i : Int) b.Most[k][i])
        (fun r1 r2 => r1 = r2 ∧ ((∃ c, r1 = .inr (.inr (.inr c)) ∧ c ≠ 0) ∨ (r1 = .inl () ∧ ∀ i (h : i < b.Most[k].length), EntD (k : Int) (i : Int) b.Most[k][i]))) (by intro i _ h; omega) (by
        intro j hj hq
        by_cases hlj : j < b.Most[k].length
        · rw [cond_t (le_t (by omega)), cond_t (lt_t (by omega)), idx_lt hlj]
          simp only [Option.bind_some, bad_ref, bad_prog]
          cases hbad : bad b.Most[k][j]
          · simp only [cond_false]
            cases hd : ((k : Int) == (j : Int))
            · left
              simp only [cond_false, Option.bind_some, Bool.false_and]
              refine ⟨hlj, by rw [addI_nat (by omega)], by rw [addI_nat (by omega)], fun i hi hij => ?_⟩
              by_cases e : i = j
              · subst e; exact ⟨bad_false hbad, fun h => by rw [h] at hd; simp at hd⟩
              · exact hq i hi (by omega)
            · simp only [cond_true, Option.bind_some, Bool.true_and]
              cases hz : (b.Most[k][j] != 0)
              · left
                simp only [cond_false]
                refine ⟨hlj, by rw [addI_nat (by omega)], by rw [addI_nat (by omega)], fun i hi hij => ?_⟩
                by_cases e : i = j
                · subst e; exact ⟨bad_false hbad, fun _ => by simpa using hz⟩
                · exact hq i hi (by omega)
              · right
                exact ⟨_, _, rfl, rfl, rfl, .inl ⟨3, rfl, by decide⟩⟩
          · right
            exact ⟨_, _, rfl, rfl, rfl, .inl ⟨2, rfl, by decide⟩⟩
        · right
          rw [cond_f (le_f (by omega)), cond_f (lt_f (by omega))]
          exact ⟨_, _, rfl, rfl, rfl, .inr ⟨rfl, fun i hi => hq i hi (by omega)⟩⟩)
      rw [e1, e2]
      obtain ⟨rfl, q⟩ := q
      rcases q with ⟨c, rfl, hc⟩ | ⟨rfl, q⟩
      · right
        exact ⟨_, _, rfl, rfl, rfl, .inl ⟨c, rfl, hc⟩⟩
      · left
        refine ⟨hlt, ?_, ?_, fun i hi hik => ?_⟩
        · simp only [Option.bind_some, Sum.elim_inl]; rw [addI_nat (by omega)]
        · simp only [Option.bind_some, Sum.elim_inl]; rw [addI_nat (by omega)]
        · by_cases e : i = k
          · subst e; exact q
          · exact hp i hi (by omega)
    · right
      rw [cond_f (le_f (by omega)), cond_f (lt_f (by omega))]
      exact ⟨_, _, rfl, rfl, rfl, .inr ⟨rfl, fun i hi => hp i hi (by omega)⟩⟩)
  rw [e1, e2]
  obtain ⟨rfl, q⟩ := q
  rcases q with ⟨c, rfl, hc⟩ | ⟨rfl, q⟩
  · exact ⟨c, rfl, rfl, fun h => (hc h).elim⟩
  · exact ⟨0, rfl, rfl, fun _ => ⟨by omega, by omega, h2', hrow, fun i h j h' => (q i h j h').1, fun i h h' => (q i h i h').2 rfl⟩⟩
end G11

namespace G11
open Go Go.Pl
set_option linter.unusedVariables false

/-- lists that are as long as they are wide -/
def Sq (n : Nat) (l : List (List Int)) : Prop := l.length = n ∧ ∀ r ∈ l, r.length = n
/-- right bounds about few times -/
structure Rt (N : Nat) (l : List (List Int)) : Prop where
  hN : N + 1 ≤ 7
  sq : Sq (N + 1) l
  dg : ∀ i, i < N + 1 → ent l i i = 0
  en : ∀ i j, i < N + 1 → j < N + 1 → Ent (ent l i j)

theorem ent_get {l : List (List Int)} {i j : Nat} (hi : i < l.length) (hj : j < l[i].length) : ent l i j = l[i][j] := by
  unfold ent
  simp [List.getD_eq_getElem?_getD, hi, hj]
theorem ent_out {l : List (List Int)} {i j : Nat} (h : ∀ hi : i < l.length, ¬ j < l[i].length) : ent l i j = 0 := by
  unfold ent
  by_cases hi : i < l.length
  · have := h hi
    simp only [List.getD_eq_getElem?_getD, List.getElem?_eq_getElem hi, Option.getD_some]
    rw [List.getElem?_eq_none (by omega)]; rfl
  · simp [List.getD_eq_getElem?_getD, List.getElem?_eq_none (show l.length ≤ i by omega)]

theorem Right.rt {b : SBounds} (h : Right b) (h6 : ¬ b.N > 6) : ∃ N : Nat, b.N = (N : Int) ∧ Rt N b.Most := by
  have h0 := h.n0
  refine ⟨b.N.toNat, by omega, ?_⟩
  have hl : b.Most.length = b.N.toNat + 1 := by have := h.len; omega
  have hr : ∀ i (hi : i < b.Most.length), b.Most[i].length = b.N.toNat + 1 := fun i hi => by have := h.row i hi; omega
  refine ⟨by omega, ⟨hl, fun r hr' => ?_⟩, fun i hi => ?_, fun i j hi hj => ?_⟩
  · obtain ⟨i, hi, rfl⟩ := List.getElem_of_mem hr'
    exact hr i hi
  · rw [ent_get (by omega) (by rw [hr i (by omega)]; exact hi)]
    exact h.dg i (by omega) (by rw [hr i (by omega)]; exact hi)
  · rw [ent_get (by omega) (by rw [hr i (by omega)]; exact hj)]
    exact h.ent i (by omega) j (by rw [hr i (by omega)]; exact hj)

section
variable {N : Nat} {l : List (List Int)} (h : Rt N l)
include h
theorem Rt.w0 {i : Nat} (hi : i < N + 1) : wt l i i = some 0 := by unfold wt toO; rw [h.dg i hi]; rfl
theorem Rt.any (i j : Nat) : Ent (ent l i j) := by
  by_cases hi : i < N + 1
  · by_cases hj : j < N + 1
    · exact h.en i j hi hj
    · rw [ent_out (fun hi' => by have := h.sq.2 _ (List.getElem_mem hi'); omega)]
      exact .inr ⟨by omega, by omega⟩
  · rw [ent_out (fun hi' => by have := h.sq.1; omega)]
    exact .inr ⟨by omega, by omega⟩
theorem Rt.ws {i j : Nat} {x : Int} (e : wt l i j = some x) : -64000000 ≤ x ∧ x ≤ 64000000 := by
  unfold wt toO at e
  split at e
  · cases e
  · rename_i hne
    injection e with e
    have := h.any i j
    unfold Ent at this
    omega
theorem Rt.es {i j : Nat} (hne : ent l i j ≠ -1099511627776) : -64000000 ≤ ent l i j ∧ ent l i j ≤ 64000000 := by
  have := h.any i j
  unfold Ent at this
  omega
omit h in
theorem ofO_toO (x : Int) : ofO (toO x) = x := by unfold toO; split <;> simp_all [ofO]

theorem Rt.solve_eq : solve l = (match rounds (N + 1) (wt l) (N + 1) bf0 with | some s => .inl ((cycL (N + 1) s).map fun x : Nat => (x : Int)) | none => .inr (matO (N + 1) (fw (wt l) (N + 1)))) := by
  unfold solve; rw [h.sq.1]; cases rounds (N + 1) (wt l) (N + 1) bf0 <;> rfl
end
theorem matO_ent {n : Nat} {d : Wt} {i j : Nat} (hi : i < n) (hj : j < n) : ent (matO n d) i j = ofO (d i j) := by
  simp [matO, matL, rowL, ent, List.getD_eq_getElem?_getD, hi, hj]
theorem matL_congr {n : Nat} {m m' : Nat → Nat → Int} (h : ∀ i j, i < n → j < n → m i j = m' i j) : matL n m = matL n m' := by
  unfold matL rowL
  refine List.map_congr_left (fun i hi => List.map_congr_left (fun j hj => h i j (List.mem_range.1 hi) (List.mem_range.1 hj)))
end G11

namespace G11
open Go Go.Pl
set_option linter.unusedVariables false

theorem few_eq2 (b : SBounds) (hl : b.Most.length ≤ mx) : ∃ r, m12 b = some r ∧ (r = true → b.N ≤ 5 ∨ ∃ c, m28 b = some c ∧ c ≠ 0) := by
  obtain ⟨c, hc, _, _⟩ := check_eq0 b
  unfold m12
  unfold mx at hl
  cases h1 : (decide ((b.Most.length : Int) > 50))
  case true => exact ⟨false, rfl, fun h => by simp at h⟩
  have h1' : b.Most.length ≤ 50 := by simp at h1; omega
  simp only [cond_false]
  obtain ⟨r, e, q⟩ : ∃ r, iter (fun s2 : Int => ((bif (decide (s2 < (b.Most.length : Int))) then (idx b.Most s2).bind fun v5 => (bif (decide ((v5.length : Int) > 50)) then some (.inr (.inr false)) else some (.inl (addI .i64 s2 1))) else some (.inr (.inl ()))) : Option ((Int) ⊕ ((Unit) ⊕ Bool)))) 0 = some r ∧
      (r = .inr false ∨ r = .inl ()) := by
    refine iter_cnt b.Most.length (by unfold fuel; omega) (fun _ => True) _ trivial ?_
    intro k hk _
    by_cases hlt : k < b.Most.length
    · rw [cond_t (lt_t (by omega)), idx_lt hlt, Option.bind_some]
      cases h3 : (decide ((b.Most[k].length : Int) > 50))
      · exact .inl ⟨hlt, by rw [cond_false, addI_nat (by omega)], trivial⟩
      · exact .inr ⟨_, rfl, .inl rfl⟩
    · rw [cond_f (lt_f (by omega))]
      exact .inr ⟨_, rfl, .inr rfl⟩
  rw [e]
  rcases q with rfl | rfl
  · exact ⟨false, rfl, fun h => by simp at h⟩
  · simp only [Option.bind_some, Sum.elim_inl, hc]
    cases h5 : decide (b.N ≤ 5)
    · exact ⟨_, rfl, fun h => .inr ⟨c, rfl, by simpa using h⟩⟩
    · exact ⟨_, rfl, fun _ => .inl (of_decide_eq_true h5)⟩

theorem same_refl (b : SBounds) (hl : b.Most.length ≤ 1000000) (hr : ∀ r ∈ b.Most, r.length ≤ 1000000) : m16 b b = some true := by
  unfold m16
  rw [show ((b.N != b.N) || ((b.Most.length : Int) != (b.Most.length : Int))) = false by simp, cond_false]
  obtain ⟨r, e, q⟩ := iter_cnt (body := fun s4 : Int => ((bif (decide (s4 < (b.Most.length : Int))) then (idx b.Most s4).bind fun v7 => (idx b.Most s4).bind fun v8 => (bif ((v7.length : Int) != (v8.length : Int)) then some (.inr (.inr false)) else (iter (fun s10 : Int => ((idx b.Most s4).bind fun v12 => (bif (decide (s10 < (v12.length : Int))) then (idx b.Most s4).bind fun v14 => (idx v14 s10).bind fun v15 => (idx b.Most s4).bind fun v16 => (idx v16 s10).bind fun v17 => (bif (v15 != v17) then some (.inr (.inr (.inr (.inr false)))) else some (.inl (addI .i64 s10 1))) else some (.inr (.inl ()))) : Option ((Int) ⊕ ((Unit) ⊕ ((Int) ⊕ ((Unit) ⊕ Bool)))))) 0).bind (Sum.elim (fun w11 => some (.inl (addI .i64 s4 1))) some)) else some (.inr (.inl ()))) : Option ((Int) ⊕ ((Unit) ⊕ Bool))))
    b.Most.length (by unfold fuel; omega) (fun _ => True) (fun r => r = .inl ()) trivial (by
    intro k hk _
    by_cases hlt : k < b.Most.length
    · left
      refine ⟨hlt, ?_, trivial⟩
      have hrk := hr _ (List.getElem_mem hlt)
      simp only [lt_t (show (k : Int) < (b.Most.length : Int) by omega), cond_true, idx_lt hlt, Option.bind_some, bne_self_eq_false, cond_false]
      obtain ⟨r, e, q⟩ := iter_cnt (body := fun s10 : Int => ((bif (decide (s10 < (b.Most[k].length : Int))) then (idx b.Most[k] s10).bind fun v15 => (idx b.Most[k] s10).bind fun v17 => (bif (v15 != v17) then some (.inr (.inr (.inr (.inr false)))) else some (.inl (addI .i64 s10 1))) else some (.inr (.inl ()))) : Option ((Int) ⊕ ((Unit) ⊕ ((Int) ⊕ ((Unit) ⊕ Bool))))))
        b.Most[k].length (by unfold fuel; omega) (fun _ => True) (fun r => r = .inl ()) trivial (by
        intro j hj _
        by_cases hlj : j < b.Most[k].length
        · left
          refine ⟨hlj, ?_, trivial⟩
          simp only [lt_t (show (j : Int) < (b.Most[k].length : Int) by omega), cond_true, idx_lt hlj, Option.bind_some, bne_self_eq_false, cond_false]
          rw [addI_nat (by omega)]
        · right
          simp only [lt_f (show ¬ (j : Int) < (b.Most[k].length : Int) by omega), cond_false]
          exact ⟨_, rfl, rfl⟩)
      rw [e]; subst q
      show some (Sum.inl (addI .i64 (k : Int) 1)) = _
      rw [addI_nat (by omega)]
    · right
      simp only [lt_f (show ¬ (k : Int) < (b.Most.length : Int) by omega), cond_false]
      exact ⟨_, rfl, rfl⟩)
  rw [e]; subst q; rfl
theorem matL_small {n : Nat} {m : Nat → Nat → Int} (hn : n ≤ 1000000) : (matL n m).length ≤ 1000000 ∧ ∀ r ∈ matL n m, r.length ≤ 1000000 := by
  refine ⟨by simp [matL]; exact hn, fun r hr => ?_⟩
  obtain ⟨i, _, rfl⟩ := List.mem_map.1 hr
  simp [rowL]; exact hn

/-- the closed bounds are the least sums -/
theorem solve_inr {N : Nat} {l d : List (List Int)} (h : Rt N l) (hs : solve l = .inr d) : NonNeg (N + 1) (wt l) ∧ d = pathL l ∧ possL l = true := by
  rw [h.solve_eq] at hs
  cases hr : rounds (N + 1) (wt l) (N + 1) bf0 with
  | some s => rw [hr] at hs; cases hs
  | none =>
    rw [hr] at hs
    injection hs with hs
    have hnn : NonNeg (N + 1) (wt l) := neg_none (fun i hi => h.w0 hi) hr
    have hL1 := fw_Least hnn (fun i hi => h.w0 hi)
    have hL2 := pth_Least hnn (m := N + 1) (by omega)
    refine ⟨hnn, ?_, ?_⟩
    · rw [← hs]
      unfold pathL
      rw [h.sq.1]
      exact matL_congr (fun i j hi hj => by rw [hL1.uniq hL2 hi hj])
    · unfold possL
      rw [List.all_eq_true]
      intro i hi
      have hi : i < N + 1 := by have := List.mem_range.1 hi; rw [h.sq.1] at this; exact this
      obtain ⟨y, e, _⟩ := pth_monos (n := N + 1) (w := wt l) (m := N + 1) (Nat.zero_le _) (i := i) (j := i) (x := 0) ⟨0, h.w0 hi, Int.le_refl _⟩
      have h2 := pth_diag hnn hi e
      have h3 : ent (pathL l) i i = y := by
        unfold pathL
        rw [h.sq.1, matO_ent hi hi, e]; rfl
      rw [h3]
      simp; omega
theorem solve_inl {N : Nat} {l : List (List Int)} {c : List Int} (h : Rt N l) (hs : solve l = .inl c) : possL l = false ∧ ∃ s la k x, Cyc (N + 1) (wt l) s la k x ∧ c = (cycL (N + 1) s).map fun x : Nat => (x : Int) := by
  rw [h.solve_eq] at hs
  cases hr : rounds (N + 1) (wt l) (N + 1) bf0 with
  | none => rw [hr] at hs; cases hs
  | some s =>
    rw [hr] at hs
    injection hs with hs
    obtain ⟨la, k, x, hc⟩ := neg_some (by omega) (fun i hi => h.w0 hi) hr
    refine ⟨?_, s, la, k, x, hc, hs.symm⟩
    obtain ⟨i, y, hi, e, hy⟩ := hc.pth (m := N + 1) (by omega)
    unfold possL
    rw [List.all_eq_false]
    refine ⟨i, List.mem_range.2 (by rw [h.sq.1]; exact hi), ?_⟩
    have h3 : ent (pathL l) i i = y := by
      unfold pathL
      rw [h.sq.1, matO_ent hi hi, e]; rfl
    rw [h3]
    simp [hy]

end G11

namespace G11
open Go Go.Pl
set_option linter.unusedVariables false

/-- the number of the error of two bounds -/
def bothE (a b : SBounds) (x y : Int) : Int := bif (x != 0) then x else bif (y != 0) then y else bif (a.N != b.N) then 8 else 0
theorem m78_eq (a b : SBounds) {x y : Int} (hx : m32 a = some x) (hy : m32 b = some y) : m78 a b = some (bothE a b x y) := by
  unfold m78
  rw [iter_list [a, b] (fun v => match m32 v with | some c => bif c != 0 then some c else none | none => none) (by show 2 < fuel; decide) () rfl (fun k hk => ?_) (by rfl)]
  · simp only [Option.bind_some, List.findSome?, hx, hy]
    unfold bothE
    cases h1 : (x != 0)
    · cases h2 : (y != 0)
      · simp only [cond_false, Sum.elim_inl]
        cases (a.N != b.N) <;> rfl
      · rfl
    · rfl
  · simp only [List.length_cons, List.length_nil] at hk
    simp only [lt_t (show (k : Int) < 2 by omega), cond_true]
    have hk' : k < [a, b].length := by simpa using hk
    rw [idx_lt hk']
    simp only [Option.bind_some]
    rcases Nat.lt_or_ge k 1 with h | h
    · obtain rfl : k = 0 := by omega
      simp only [List.getElem_cons_zero, hx, Option.bind_some]
      cases (x != 0)
      · rfl
      · rfl
    · obtain rfl : k = 1 := by omega
      simp only [List.getElem_cons_succ, List.getElem_cons_zero, hy, Option.bind_some]
      cases (y != 0)
      · rfl
      · rfl
theorem m80_eq (a b : SBounds) {x y : Int} (hx : m28 a = some x) (hy : m28 b = some y) : m80 a b = some (bothE a b x y) := by
  unfold m80 bothE
  rw [hx, hy]
  simp only [Option.bind_some]
  cases (x != 0)
  · cases (y != 0)
    · cases (a.N != b.N) <;> rfl
    · rfl
  · rfl
theorem bothE_0 {a b : SBounds} {x y : Int} (h : bothE a b x y = 0) : x = 0 ∧ y = 0 ∧ a.N = b.N := by
  unfold bothE at h
  cases h1 : (x != 0)
  · cases h2 : (y != 0)
    · cases h3 : (a.N != b.N)
      · exact ⟨by simpa using h1, by simpa using h2, by simpa using h3⟩
      · rw [h1, h2, h3] at h; cases h
    · rw [h1, h2] at h; simp only [cond_false, cond_true] at h; rw [h] at h2; cases h2
  · rw [h1] at h; simp only [cond_true] at h; rw [h] at h1; cases h1

end G11

namespace G11
open Go Go.Pl
set_option linter.unusedVariables false

theorem plain10 (a b : SBounds) (ha : OkQ a) (hb : OkQ b) : m10 a b = some true := by
  obtain ⟨c0, e28, e32, hR⟩ := check_eq0 a
  obtain ⟨c1, f28, f32, hR'⟩ := check_eq0 b
  obtain ⟨r, e12, h12⟩ := few_eq2 a ha.2.1
  obtain ⟨r', f12, h12'⟩ := few_eq2 b hb.2.1
  have h13 : m13 = some true := rfl
  have h0 : m16 (⟨0, []⟩ : SBounds) ⟨0, []⟩ = some true := same_refl _ (by simp) (by simp)
  unfold m10
  rw [e12, f12]
  simp only [Option.bind_some]
  cases r
  case false => rfl
  cases r'
  case false => rfl
  simp only [Bool.not_true, cond_false, Option.bind_some]
  have e78 := m78_eq a b e32 f32
  have e80 := m80_eq a b e28 f28
  unfold m41 m42 m43 m44
  rw [e78, e80]
  simp only [Option.bind_some]
  generalize hc : bothE a b c0 c1 = c
  cases hcc : (c != 0)
  case true => simp only [cond_true, Option.bind_some, h13, h0, beq_self_eq_true]; rfl
  have hc0 : c = 0 := by simpa using hcc
  obtain ⟨z0, z1, zN⟩ := bothE_0 (hc.trans hc0)
  have h5 : a.N ≤ 5 := by
    rcases h12 rfl with h | ⟨c', h1, h2⟩
    · exact h
    · rw [e28] at h1; injection h1 with h1; exact (h2 (h1.symm.trans z0)).elim
  have h6 : decide (a.N > 6) = false := by simp; omega
  obtain ⟨N, hN, hrt⟩ := (hR z0).rt (by omega)
  have hN7 := hrt.hN
  simp only [cond_false, h6]
  have hm : m16 (⟨a.N, meetL a.Most b.Most a.Most.length⟩ : SBounds) ⟨a.N, meetL a.Most b.Most a.Most.length⟩ = some true := by
    have := matL_small (n := a.Most.length) (m := fun x y => lessE (ent a.Most x y) (ent b.Most x y)) (by rw [hrt.sq.1]; omega)
    exact same_refl _ this.1 this.2
  cases hs : solve a.Most with
  | inl c =>
    obtain ⟨hp, _⟩ := solve_inl hrt hs
    rw [hp]
    simp only [Bool.not_false, cond_true, Option.bind_some, h13, hm, beq_self_eq_true]; rfl
  | inr d =>
    obtain ⟨_, hd, hp⟩ := solve_inr hrt hs
    rw [hp, ← hd]
    simp only [Bool.not_true, cond_false, cond_true, Option.bind_some, h13, hm, beq_self_eq_true]; rfl
end G11
