/- Bounds, and what is computed of them, in plain words. No condition. -/
import Derived.Test.YteoiegapifoboaaG11M
import Derived.Test.YteoiegapifoboaaAmP1
import Derived.Test.YteoiegapifoboaaAmP2
namespace G11
open Go Go.Pl

def mx : Nat := 9223372036854775807
def OkR (l : List Int) : Prop := l.length ≤ mx ∧ ∀ n ∈ l, -9223372036854775808 ≤ n ∧ n ≤ 9223372036854775807
def OkQ (b : SBounds) : Prop := (-9223372036854775808 ≤ b.N ∧ b.N ≤ 9223372036854775807) ∧ b.Most.length ≤ mx ∧ ∀ row ∈ b.Most, OkR row

def Ent (n : Int) : Prop := n = -1099511627776 ∨ (-64000000 ≤ n ∧ n ≤ 64000000)
def EntD (k i x : Int) : Prop := Ent x ∧ (k = i → x = 0)
structure Right (b : SBounds) : Prop where
  n0 : 0 ≤ b.N
  n1 : b.N ≤ 12
  len : (b.Most.length : Int) = b.N + 1
  row : ∀ i (h : i < b.Most.length), (b.Most[i].length : Int) = b.N + 1
  ent : ∀ i (h : i < b.Most.length) j (h' : j < b.Most[i].length), Ent b.Most[i][j]
  dg : ∀ i (h : i < b.Most.length) (h' : i < b.Most[i].length), b.Most[i][i] = 0

theorem m65_eq (n : Int) : m65 n = some (decide (-64000000 ≤ n ∧ n ≤ 64000000)) := by
  simp [m65, Bool.decide_and]
theorem m67_eq (n : Int) : m67 n = some (decide (-64000000 ≤ n ∧ n ≤ 64000000)) := by
  simp [m67, Bool.decide_and]

/-- is a number none, or a bound? -/
def bad (n : Int) : Bool := n != -1099511627776 && !decide (-64000000 ≤ n ∧ n ≤ 64000000)
theorem bad_ref (n : Int) : ((bif (n != (-1099511627776)) then (m65 n).bind fun v20 => some (!v20) else some false) : Option Bool) = some (bad n) := by
  unfold bad
  cases h : (n != -1099511627776) <;> simp [m65_eq]
theorem bad_prog (n : Int) : ((bif (n != (-1099511627776)) then (m67 n).bind fun v20 => some (!v20) else some false) : Option Bool) = some (bad n) := by
  unfold bad
  cases h : (n != -1099511627776) <;> simp [m67_eq]
theorem bad_false {n : Int} (h : bad n = false) : Ent n := by
  unfold bad at h; unfold Ent
  by_cases h1 : n = -1099511627776
  · exact .inl h1
  · right
    simp [h1] at h; exact h

theorem check_eq0 (b : SBounds) : ∃ c, m28 b = some c ∧ m32 b = some c ∧ (c = 0 → Right b) := by
  unfold m28 m32
  cases h1 : ((decide (b.N < 0)) || (decide (b.N > 12)))
  case true => exact ⟨2, rfl, rfl, fun h => by omega⟩
  simp only [Bool.or_eq_false_iff, decide_eq_false_iff_not] at h1
  rw [addI_eq (by omega) (by omega)]
  simp only [cond_false]
  cases h2 : ((b.Most.length : Int) != b.N + 1)
  case true => exact ⟨8, rfl, rfl, fun h => by omega⟩
  have h2' : (b.Most.length : Int) = b.N + 1 := by simpa using h2
  simp only [cond_false]
  obtain ⟨r, e, q⟩ : ∃ r, iter (fun s5 : Int => ((bif (decide (s5 < (b.Most.length : Int))) then (idx b.Most s5).bind fun v8 => (bif ((v8.length : Int) != b.N + 1) then some (.inr (.inr 8)) else some (.inl (addI .i64 s5 1))) else some (.inr (.inl ()))) : Option ((Int) ⊕ ((Unit) ⊕ Int)))) 0 = some r ∧
      (r = .inr 8 ∨ r = .inl () ∧ ∀ i (h : i < b.Most.length), (b.Most[i].length : Int) = b.N + 1) := by
    refine iter_cnt b.Most.length (by unfold fuel; omega) (fun k => ∀ i (h : i < b.Most.length), i < k → (b.Most[i].length : Int) = b.N + 1) _ (by intro i _ h; omega) ?_
    intro k hk hp
    by_cases hlt : k < b.Most.length
    · rw [cond_t (lt_t (by omega)), idx_lt hlt, Option.bind_some]
      cases h3 : ((b.Most[k].length : Int) != b.N + 1)
      · left
        refine ⟨hlt, by rw [cond_false, addI_nat (by omega)], fun i hi hik => ?_⟩
        by_cases e : i = k
        · subst e; simpa using h3
        · exact hp i hi (by omega)
      · right
        exact ⟨_, rfl, .inl rfl⟩
    · right
      rw [cond_f (lt_f (by omega))]
      exact ⟨_, rfl, .inr ⟨rfl, fun i hi => hp i hi (by omega)⟩⟩
  rw [e]
  rcases q with rfl | ⟨rfl, hrow⟩
  · exact ⟨8, rfl, rfl, fun h => by omega⟩
  simp only [Option.bind_some, Sum.elim_inl]
  -- the numbers
  let n := b.Most.length
  obtain ⟨r1, r2, e1, e2, q⟩ := sim_cnt (b1 := fun s10 : Int => ((bif (decide (s10 ≤ b.N)) then (iter (fun s13 : Int => ((bif (decide (s13 ≤ b.N)) then (idx b.Most s10).bind fun v16 => (idx v16 s13).bind fun v17 => ((bif (v17 != (-1099511627776)) then (m65 v17).bind fun v20 => some (!v20) else some false) : Option (Bool)).bind fun w18 => (bif w18 then some (.inr (.inr (.inr (.inr 2)))) else ((bif (s10 == s13) then (idx b.Most s10).bind fun v24 => (idx v24 s13).bind fun v25 => some (v25 != 0) else some false) : Option (Bool)).bind fun w22 => (bif w22 then some (.inr (.inr (.inr (.inr 3)))) else some (.inl (addI .i64 s13 1)))) else some (.inr (.inl ()))) : Option ((Int) ⊕ ((Unit) ⊕ ((Int) ⊕ ((Unit) ⊕ Int)))))) 0).bind (Sum.elim (fun w14 => some (.inl (addI .i64 s10 1))) some) else some (.inr (.inl ()))) : Option ((Int) ⊕ ((Unit) ⊕ Int))))
    (b2 := fun s10 : Int => ((bif (decide (s10 < (b.Most.length : Int))) then (idx b.Most s10).bind fun v13 => (iter (fun s14 : Int => ((bif (decide (s14 < (v13.length : Int))) then (idx v13 s14).bind fun v17 => ((bif (v17 != (-1099511627776)) then (m67 v17).bind fun v20 => some (!v20) else some false) : Option (Bool)).bind fun w18 => (bif w18 then some (.inr (.inr (.inr (.inr 2)))) else (bif ((s10 == s14) && (v17 != 0)) then some (.inr (.inr (.inr (.inr 3)))) else some (.inl (addI .i64 s14 1)))) else some (.inr (.inl ()))) : Option ((Int) ⊕ ((Unit) ⊕ ((Int) ⊕ ((Unit) ⊕ Int)))))) 0).bind (Sum.elim (fun w15 => some (.inl (addI .i64 s10 1))) some) else some (.inr (.inl ()))) : Option ((Int) ⊕ ((Unit) ⊕ Int))))
    n (by unfold fuel; omega) (fun k => ∀ i (h : i < b.Most.length), i < k → ∀ j (h' : j < b.Most[i].length), EntD (i : Int) (j : Int) b.Most[i][j])
    (fun r1 r2 => r1 = r2 ∧ ((∃ c, r1 = .inr c ∧ c ≠ 0) ∨ (r1 = .inl () ∧ ∀ i (h : i < b.Most.length), ∀ j (h' : j < b.Most[i].length), EntD (i : Int) (j : Int) b.Most[i][j]))) (by intro i _ h; omega) (by
    intro k hk hp
    by_cases hlt : k < b.Most.length
    · have hrk := hrow k hlt
      rw [cond_t (le_t (by omega)), cond_t (lt_t (by omega)), idx_lt hlt]
      simp only [Option.bind_some]
      obtain ⟨r1, r2, e1, e2, q⟩ := sim_cnt (b1 := fun s13 : Int => ((bif (decide (s13 ≤ b.N)) then (idx b.Most[k] s13).bind fun v17 => ((bif (v17 != (-1099511627776)) then (m65 v17).bind fun v20 => some (!v20) else some false) : Option (Bool)).bind fun w18 => (bif w18 then some (.inr (.inr (.inr (.inr 2)))) else ((bif ((k : Int) == s13) then (idx b.Most[k] s13).bind fun v25 => some (v25 != 0) else some false) : Option (Bool)).bind fun w22 => (bif w22 then some (.inr (.inr (.inr (.inr 3)))) else some (.inl (addI .i64 s13 1)))) else some (.inr (.inl ()))) : Option ((Int) ⊕ ((Unit) ⊕ ((Int) ⊕ ((Unit) ⊕ Int))))))
        (b2 := fun s14 : Int => ((bif (decide (s14 < (b.Most[k].length : Int))) then (idx b.Most[k] s14).bind fun v17 => ((bif (v17 != (-1099511627776)) then (m67 v17).bind fun v20 => some (!v20) else some false) : Option (Bool)).bind fun w18 => (bif w18 then some (.inr (.inr (.inr (.inr 2)))) else (bif (((k : Int) == s14) && (v17 != 0)) then some (.inr (.inr (.inr (.inr 3)))) else some (.inl (addI .i64 s14 1)))) else some (.inr (.inl ()))) : Option ((Int) ⊕ ((Unit) ⊕ ((Int) ⊕ ((Unit) ⊕ Int))))))
        b.Most[k].length (by unfold fuel; omega) (fun j => ∀ i (h : i < b.Most[k].length), i < j → EntD (k : Int) (i : Int) b.Most[k][i])
        (fun r1 r2 => r1 = r2 ∧ ((∃ c, r1 = .inr (.inr (.inr c)) ∧ c ≠ 0) ∨ (r1 = .inl () ∧ ∀ i (h : i < b.Most[k].length), EntD (k : Int) (i : Int) b.Most[k][i]))) (by intro i _ h; omega) (by
        intro j hj hq
        by_cases hlj : j < b.Most[k].length
        · rw [cond_t (le_t (by omega)), cond_t (lt_t (by omega)), idx_lt hlj]
          simp only [Option.bind_some, bad_ref, bad_prog]
          cases hbad : bad b.Most[k][j]
          · simp only [cond_false]
            cases hd : ((k : Int) == (j : Int))
            · left
              simp only [cond_false, Option.bind_some, Bool.false_and]
              refine ⟨hlj, by rw [addI_nat (by omega)], by rw [addI_nat (by omega)], fun i hi hij => ?_⟩
              by_cases e : i = j
              · subst e; exact ⟨bad_false hbad, fun h => by rw [h] at hd; simp at hd⟩
              · exact hq i hi (by omega)
            · simp only [cond_true, Option.bind_some, Bool.true_and]
              cases hz : (b.Most[k][j] != 0)
              · left
                simp only [cond_false]
                refine ⟨hlj, by rw [addI_nat (by omega)], by rw [addI_nat (by omega)], fun i hi hij => ?_⟩
                by_cases e : i = j
                · subst e; exact ⟨bad_false hbad, fun _ => by simpa using hz⟩
                · exact hq i hi (by omega)
              · right
                exact ⟨_, _, rfl, rfl, rfl, .inl ⟨3, rfl, by decide⟩⟩
          · right
            exact ⟨_, _, rfl, rfl, rfl, .inl ⟨2, rfl, by decide⟩⟩
        · right
          rw [cond_f (le_f (by omega)), cond_f (lt_f (by omega))]
          exact ⟨_, _, rfl, rfl, rfl, .inr ⟨rfl, fun i hi => hq i hi (by omega)⟩⟩)
      rw [e1, e2]
      obtain ⟨rfl, q⟩ := q
      rcases q with ⟨c, rfl, hc⟩ | ⟨rfl, q⟩
      · right
        exact ⟨_, _, rfl, rfl, rfl, .inl ⟨c, rfl, hc⟩⟩
      · left
        refine ⟨hlt, ?_, ?_, fun i hi hik => ?_⟩
        · simp only [Option.bind_some, Sum.elim_inl]; rw [addI_nat (by omega)]
        · simp only [Option.bind_some, Sum.elim_inl]; rw [addI_nat (by omega)]
        · by_cases e : i = k
          · subst e; exact q
          · exact hp i hi (by omega)
    · right
      rw [cond_f (le_f (by omega)), cond_f (lt_f (by omega))]
      exact ⟨_, _, rfl, rfl, rfl, .inr ⟨rfl, fun i hi => hp i hi (by omega)⟩⟩)
  rw [e1, e2]
  obtain ⟨rfl, q⟩ := q
  rcases q with ⟨c, rfl, hc⟩ | ⟨rfl, q⟩
  · exact ⟨c, rfl, rfl, fun h => (hc h).elim⟩
  · exact ⟨0, rfl, rfl, fun _ => ⟨by omega, by omega, h2', hrow, fun i h j h' => (q i h j h').1, fun i h h' => (q i h i h').2 rfl⟩⟩
end G11

namespace G11
open Go Go.Pl
set_option linter.unusedVariables false

/-- lists that are as long as they are wide -/
def Sq (n : Nat) (l : List (List Int)) : Prop := l.length = n ∧ ∀ r ∈ l, r.length = n
/-- right bounds about few times -/
structure Rt (N : Nat) (l : List (List Int)) : Prop where
  hN : N + 1 ≤ 7
  sq : Sq (N + 1) l
  dg : ∀ i, i < N + 1 → ent l i i = 0
  en : ∀ i j, i < N + 1 → j < N + 1 → Ent (ent l i j)

theorem ent_get {l : List (List Int)} {i j : Nat} (hi : i < l.length) (hj : j < l[i].length) : ent l i j = l[i][j] := by
  unfold ent
  simp [List.getD_eq_getElem?_getD, hi, hj]
theorem ent_out {l : List (List Int)} {i j : Nat} (h : ∀ hi : i < l.length, ¬ j < l[i].length) : ent l i j = 0 := by
  unfold ent
  by_cases hi : i < l.length
  · have := h hi
    simp only [List.getD_eq_getElem?_getD, List.getElem?_eq_getElem hi, Option.getD_some]
    rw [List.getElem?_eq_none (by omega)]; rfl
  · simp [List.getD_eq_getElem?_getD, List.getElem?_eq_none (show l.length ≤ i by omega)]

theorem Right.rt {b : SBounds} (h : Right b) (h6 : ¬ b.N > 6) : ∃ N : Nat, b.N = (N : Int) ∧ Rt N b.Most := by
  have h0 := h.n0
  refine ⟨b.N.toNat, by omega, ?_⟩
  have hl : b.Most.length = b.N.toNat + 1 := by have := h.len; omega
  have hr : ∀ i (hi : i < b.Most.length), b.Most[i].length = b.N.toNat + 1 := fun i hi => by have := h.row i hi; omega
  refine ⟨by omega, ⟨hl, fun r hr' => ?_⟩, fun i hi => ?_, fun i j hi hj => ?_⟩
  · obtain ⟨i, hi, rfl⟩ := List.getElem_of_mem hr'
    exact hr i hi
  · rw [ent_get (by omega) (by rw [hr i (by omega)]; exact hi)]
    exact h.dg i (by omega) (by rw [hr i (by omega)]; exact hi)
  · rw [ent_get (by omega) (by rw [hr i (by omega)]; exact hj)]
    exact h.ent i (by omega) j (by rw [hr i (by omega)]; exact hj)

section
variable {N : Nat} {l : List (List Int)} (h : Rt N l)
include h
theorem Rt.w0 {i : Nat} (hi : i < N + 1) : wt l i i = some 0 := by unfold wt toO; rw [h.dg i hi]; rfl
theorem Rt.any (i j : Nat) : Ent (ent l i j) := by
  by_cases hi : i < N + 1
  · by_cases hj : j < N + 1
    · exact h.en i j hi hj
    · rw [ent_out (fun hi' => by have := h.sq.2 _ (List.getElem_mem hi'); omega)]
      exact .inr ⟨by omega, by omega⟩
  · rw [ent_out (fun hi' => by have := h.sq.1; omega)]
    exact .inr ⟨by omega, by omega⟩
theorem Rt.ws {i j : Nat} {x : Int} (e : wt l i j = some x) : -64000000 ≤ x ∧ x ≤ 64000000 := by
  unfold wt toO at e
  split at e
  · cases e
  · rename_i hne
    injection e with e
    have := h.any i j
    unfold Ent at this
    omega
theorem Rt.es {i j : Nat} (hne : ent l i j ≠ -1099511627776) : -64000000 ≤ ent l i j ∧ ent l i j ≤ 64000000 := by
  have := h.any i j
  unfold Ent at this
  omega
omit h in
theorem ofO_toO (x : Int) : ofO (toO x) = x := by unfold toO; split <;> simp_all [ofO]

theorem Rt.solve_eq : solve l = (match rounds (N + 1) (wt l) (N + 1) bf0 with | some s => .inl ((cycL (N + 1) s).map fun x : Nat => (x : Int)) | none => .inr (matO (N + 1) (fw (wt l) (N + 1)))) := by
  unfold solve; rw [h.sq.1]; cases rounds (N + 1) (wt l) (N + 1) bf0 <;> rfl
end
theorem matO_ent {n : Nat} {d : Wt} {i j : Nat} (hi : i < n) (hj : j < n) : ent (matO n d) i j = ofO (d i j) := by
  simp [matO, matL, rowL, ent, List.getD_eq_getElem?_getD, hi, hj]
theorem matL_ent {n : Nat} {d : Nat → Nat → Int} {i j : Nat} (hi : i < n) (hj : j < n) : ent (matL n d) i j = d i j := by
  simp [matL, rowL, ent, List.getD_eq_getElem?_getD, hi, hj]

theorem matL_congr {n : Nat} {m m' : Nat → Nat → Int} (h : ∀ i j, i < n → j < n → m i j = m' i j) : matL n m = matL n m' := by
  unfold matL rowL
  refine List.map_congr_left (fun i hi => List.map_congr_left (fun j hj => h i j (List.mem_range.1 hi) (List.mem_range.1 hj)))
/-- a bound before a place is out of its range -/
def bigB (n : Nat) (m : Nat → Nat → Int) (i j : Nat) : Prop := ∃ a b, a < n ∧ b < n ∧ (a < i ∨ a = i ∧ b < j) ∧ bigE (m a b) = true

theorem bigL {n : Nat} {m : Nat → Nat → Int} : big (matL n m) = true ↔ bigB n m n 0 := by
  unfold big bigB matL rowL
  simp only [List.any_eq_true, List.mem_map, List.mem_range]
  constructor
  · rintro ⟨r, ⟨i, hi, rfl⟩, x, hx, hb⟩
    obtain ⟨j, hj, rfl⟩ := List.mem_map.1 hx
    exact ⟨i, j, hi, List.mem_range.1 hj, .inl hi, hb⟩
  · rintro ⟨a, b, ha, hb, _, h⟩
    exact ⟨_, ⟨a, ha, rfl⟩, m a b, List.mem_map.2 ⟨b, List.mem_range.2 hb, rfl⟩, h⟩
end G11

namespace G11
open Go Go.Pl
set_option linter.unusedVariables false

theorem same_refl (b : SBounds) (hl : b.Most.length ≤ 1000000) (hr : ∀ r ∈ b.Most, r.length ≤ 1000000) : m16 b b = some true := by
  unfold m16
  rw [show ((b.N != b.N) || ((b.Most.length : Int) != (b.Most.length : Int))) = false by simp, cond_false]
  obtain ⟨r, e, q⟩ := iter_cnt (body := fun s4 : Int => ((bif (decide (s4 < (b.Most.length : Int))) then (idx b.Most s4).bind fun v7 => (idx b.Most s4).bind fun v8 => (bif ((v7.length : Int) != (v8.length : Int)) then some (.inr (.inr false)) else (iter (fun s10 : Int => ((idx b.Most s4).bind fun v12 => (bif (decide (s10 < (v12.length : Int))) then (idx b.Most s4).bind fun v14 => (idx v14 s10).bind fun v15 => (idx b.Most s4).bind fun v16 => (idx v16 s10).bind fun v17 => (bif (v15 != v17) then some (.inr (.inr (.inr (.inr false)))) else some (.inl (addI .i64 s10 1))) else some (.inr (.inl ()))) : Option ((Int) ⊕ ((Unit) ⊕ ((Int) ⊕ ((Unit) ⊕ Bool)))))) 0).bind (Sum.elim (fun w11 => some (.inl (addI .i64 s4 1))) some)) else some (.inr (.inl ()))) : Option ((Int) ⊕ ((Unit) ⊕ Bool))))
    b.Most.length (by unfold fuel; omega) (fun _ => True) (fun r => r = .inl ()) trivial (by
    intro k hk _
    by_cases hlt : k < b.Most.length
    · left
      refine ⟨hlt, ?_, trivial⟩
      have hrk := hr _ (List.getElem_mem hlt)
      simp only [lt_t (show (k : Int) < (b.Most.length : Int) by omega), cond_true, idx_lt hlt, Option.bind_some, bne_self_eq_false, cond_false]
      obtain ⟨r, e, q⟩ := iter_cnt (body := fun s10 : Int => ((bif (decide (s10 < (b.Most[k].length : Int))) then (idx b.Most[k] s10).bind fun v15 => (idx b.Most[k] s10).bind fun v17 => (bif (v15 != v17) then some (.inr (.inr (.inr (.inr false)))) else some (.inl (addI .i64 s10 1))) else some (.inr (.inl ()))) : Option ((Int) ⊕ ((Unit) ⊕ ((Int) ⊕ ((Unit) ⊕ Bool))))))
        b.Most[k].length (by unfold fuel; omega) (fun _ => True) (fun r => r = .inl ()) trivial (by
        intro j hj _
        by_cases hlj : j < b.Most[k].length
        · left
          refine ⟨hlj, ?_, trivial⟩
          simp only [lt_t (show (j : Int) < (b.Most[k].length : Int) by omega), cond_true, idx_lt hlj, Option.bind_some, bne_self_eq_false, cond_false]
          rw [addI_nat (by omega)]
        · right
          simp only [lt_f (show ¬ (j : Int) < (b.Most[k].length : Int) by omega), cond_false]
          exact ⟨_, rfl, rfl⟩)
      rw [e]; subst q
      show some (Sum.inl (addI .i64 (k : Int) 1)) = _
      rw [addI_nat (by omega)]
    · right
      simp only [lt_f (show ¬ (k : Int) < (b.Most.length : Int) by omega), cond_false]
      exact ⟨_, rfl, rfl⟩)
  rw [e]; subst q; rfl
theorem matL_small {n : Nat} {m : Nat → Nat → Int} (hn : n ≤ 1000000) : (matL n m).length ≤ 1000000 ∧ ∀ r ∈ matL n m, r.length ≤ 1000000 := by
  refine ⟨by simp [matL]; exact hn, fun r hr => ?_⟩
  obtain ⟨i, _, rfl⟩ := List.mem_map.1 hr
  simp [rowL]; exact hn

/-- the closed bounds are the least sums -/
theorem solve_inr {N : Nat} {l d : List (List Int)} (h : Rt N l) (hs : solve l = .inr d) : NonNeg (N + 1) (wt l) ∧ d = pathL l ∧ possL l = true := by
  rw [h.solve_eq] at hs
  cases hr : rounds (N + 1) (wt l) (N + 1) bf0 with
  | some s => rw [hr] at hs; cases hs
  | none =>
    rw [hr] at hs
    injection hs with hs
    have hnn : NonNeg (N + 1) (wt l) := neg_none (fun i hi => h.w0 hi) hr
    have hL1 := fw_Least hnn (fun i hi => h.w0 hi)
    have hL2 := pth_Least hnn (m := N + 1) (by omega)
    refine ⟨hnn, ?_, ?_⟩
    · rw [← hs]
      unfold pathL
      rw [h.sq.1]
      exact matL_congr (fun i j hi hj => by rw [hL1.uniq hL2 hi hj])
    · unfold possL
      rw [List.all_eq_true]
      intro i hi
      have hi : i < N + 1 := by have := List.mem_range.1 hi; rw [h.sq.1] at this; exact this
      obtain ⟨y, e, _⟩ := pth_monos (n := N + 1) (w := wt l) (m := N + 1) (Nat.zero_le _) (i := i) (j := i) (x := 0) ⟨0, h.w0 hi, Int.le_refl _⟩
      have h2 := pth_diag hnn hi e
      have h3 : ent (pathL l) i i = y := by
        unfold pathL
        rw [h.sq.1, matO_ent hi hi, e]; rfl
      rw [h3]
      simp; omega
theorem solve_inl {N : Nat} {l : List (List Int)} {c : List Int} (h : Rt N l) (hs : solve l = .inl c) : possL l = false ∧ ∃ s la k x, Cyc (N + 1) (wt l) s la k x ∧ c = (cycL (N + 1) s).map fun x : Nat => (x : Int) := by
  rw [h.solve_eq] at hs
  cases hr : rounds (N + 1) (wt l) (N + 1) bf0 with
  | none => rw [hr] at hs; cases hs
  | some s =>
    rw [hr] at hs
    injection hs with hs
    obtain ⟨la, k, x, hc⟩ := neg_some (by omega) (fun i hi => h.w0 hi) hr
    refine ⟨?_, s, la, k, x, hc, hs.symm⟩
    obtain ⟨i, y, hi, e, hy⟩ := hc.pth (m := N + 1) (by omega)
    unfold possL
    rw [List.all_eq_false]
    refine ⟨i, List.mem_range.2 (by rw [h.sq.1]; exact hi), ?_⟩
    have h3 : ent (pathL l) i i = y := by
      unfold pathL
      rw [h.sq.1, matO_ent hi hi, e]; rfl
    rw [h3]
    simp [hy]

end G11

namespace G11
open Go Go.Pl
set_option linter.unusedVariables false

/-- the number of the error of two bounds -/
def bothE (a b : SBounds) (x y : Int) : Int := bif (x != 0) then x else bif (y != 0) then y else bif (a.N != b.N) then 8 else 0
theorem m78_eq (a b : SBounds) {x y : Int} (hx : m32 a = some x) (hy : m32 b = some y) : m78 a b = some (bothE a b x y) := by
  unfold m78
  rw [iter_list [a, b] (fun v => match m32 v with | some c => bif c != 0 then some c else none | none => none) (by show 2 < fuel; decide) () rfl (fun k hk => ?_) (by rfl)]
  · simp only [Option.bind_some, List.findSome?, hx, hy]
    unfold bothE
    cases h1 : (x != 0)
    · cases h2 : (y != 0)
      · simp only [cond_false, Sum.elim_inl]
        cases (a.N != b.N) <;> rfl
      · rfl
    · rfl
  · simp only [List.length_cons, List.length_nil] at hk
    simp only [lt_t (show (k : Int) < 2 by omega), cond_true]
    have hk' : k < [a, b].length := by simpa using hk
    rw [idx_lt hk']
    simp only [Option.bind_some]
    rcases Nat.lt_or_ge k 1 with h | h
    · obtain rfl : k = 0 := by omega
      simp only [List.getElem_cons_zero, hx, Option.bind_some]
      cases (x != 0)
      · rfl
      · rfl
    · obtain rfl : k = 1 := by omega
      simp only [List.getElem_cons_succ, List.getElem_cons_zero, hy, Option.bind_some]
      cases (y != 0)
      · rfl
      · rfl
theorem bothE_0 {a b : SBounds} {x y : Int} (h : bothE a b x y = 0) : x = 0 ∧ y = 0 ∧ a.N = b.N := by
  unfold bothE at h
  cases h1 : (x != 0)
  · cases h2 : (y != 0)
    · cases h3 : (a.N != b.N)
      · exact ⟨by simpa using h1, by simpa using h2, by simpa using h3⟩
      · rw [h1, h2, h3] at h; cases h
    · rw [h1, h2] at h; simp only [cond_false, cond_true] at h; rw [h] at h2; cases h2
  · rw [h1] at h; simp only [cond_true] at h; rw [h] at h1; cases h1

end G11

namespace G11
open Go Go.Pl
set_option linter.unusedVariables false

theorem any_loop {α : Type} (q : α → Bool) (mq : α → Option Bool) (l : List α) (hq : ∀ x ∈ l, mq x = some (q x)) (hl : l.length ≤ mx) :
    ((iter (fun s1 : Int => ((bif (decide (s1 < (l.length : Int))) then (idx l s1).bind fun v4 => (mq v4).bind fun v5 => (bif v5 then some (.inr (.inr s1)) else some (.inl (addI .i64 s1 1))) else some (.inr (.inl ()))) : Option ((Int) ⊕ ((Unit) ⊕ Int)))) 0).bind (Sum.elim (fun w2 => some (-1)) some)).bind (fun v1 => some (decide (v1 ≥ 0))) = some (l.any q) := by
  unfold mx at hl
  obtain ⟨r, e, h⟩ := iter_cnt (body := fun s1 : Int => ((bif (decide (s1 < (l.length : Int))) then (idx l s1).bind fun v4 => (mq v4).bind fun v5 => (bif v5 then some (.inr (.inr s1)) else some (.inl (addI .i64 s1 1))) else some (.inr (.inl ()))) : Option ((Int) ⊕ ((Unit) ⊕ Int))))
    l.length (by unfold fuel; omega) (fun k => ∀ i (h : i < l.length), i < k → q l[i] = false) (fun r => (∃ k : Nat, r = .inr (k : Int) ∧ l.any q = true) ∨ r = .inl () ∧ l.any q = false) (fun i _ h => by omega) (by
    intro k hk hp
    by_cases hlt : k < l.length
    · have hm := hq _ (List.getElem_mem hlt)
      simp only [lt_t (show (k : Int) < (l.length : Int) by omega), cond_true, idx_lt hlt, Option.bind_some, hm]
      cases hb : q l[k] with
      | true =>
        right
        exact ⟨_, rfl, .inl ⟨k, rfl, List.any_eq_true.2 ⟨_, List.getElem_mem hlt, hb⟩⟩⟩
      | false =>
        left
        refine ⟨hlt, by rw [cond_false, addI_nat (by omega)], fun i hi hik => ?_⟩
        by_cases e : i = k
        · subst e; exact hb
        · exact hp i hi (by omega)
    · right
      simp only [lt_f (show ¬ (k : Int) < (l.length : Int) by omega), cond_false]
      refine ⟨_, rfl, .inr ⟨rfl, ?_⟩⟩
      rw [List.any_eq_false]
      intro x hx
      obtain ⟨i, hi, rfl⟩ := List.getElem_of_mem hx
      rw [hp i hi (by omega)]; decide)
  rw [e]
  rcases h with ⟨k, rfl, h⟩ | ⟨rfl, h⟩
  · rw [h]
    show some (decide ((k : Int) ≥ 0)) = some true
    rw [decide_eq_true (by omega)]
  · rw [h]; rfl

theorem far64 (l : List Int) (hl : l.length ≤ mx) : m39_64 l = some (l.any fun n => n != -1099511627776 && (decide (n < -1000000) || decide (n > 1000000))) :=
  any_loop (fun n => n != -1099511627776 && (decide (n < -1000000) || decide (n > 1000000))) m64 l (fun x _ => rfl) hl
theorem far66 (l : List Int) (hl : l.length ≤ mx) : m39_66 l = some (l.any fun n => !(decide (n ≥ -64000000) && decide (n ≤ 64000000))) :=
  any_loop (fun n => !(decide (n ≥ -64000000) && decide (n ≤ 64000000))) m66 l (fun x _ => rfl) hl
theorem far62 (L : List (List Int)) (hl : L.length ≤ mx) (hr : ∀ r ∈ L, r.length ≤ mx) : m62_63 L = some (L.any fun l => l.any fun n => n != -1099511627776 && (decide (n < -1000000) || decide (n > 1000000))) :=
by
  have := any_loop (α := List Int) (fun l : List Int => l.any fun n => n != -1099511627776 && (decide (n < -1000000) || decide (n > 1000000))) m63 L (fun x hx => by unfold m63; rw [far64 x (hr x hx)]; rfl) hl
  exact this

/-- right bounds, few times, small numbers -/
theorem right_eq (b : SBounds) (hb : OkQ b) : ∃ r, m27 b = some r ∧ (r = true → m28 b = some 0 ∧ m32 b = some 0 ∧ b.N ≤ 6 ∧ Right b ∧ ∀ row ∈ b.Most, ∀ n ∈ row, n = -1099511627776 ∨ -1000000 ≤ n ∧ n ≤ 1000000) := by
  obtain ⟨c, e28, e32, hR⟩ := check_eq0 b
  unfold m27
  cases h1 : decide (b.N > 6)
  case true => exact ⟨false, rfl, fun h => by cases h⟩
  rw [cond_false, e28, Option.bind_some, Option.bind_some]
  cases h2 : (c != 0)
  case true => exact ⟨false, rfl, fun h => by cases h⟩
  have hc : c = 0 := by simpa using h2
  subst hc
  rw [cond_false, far62 b.Most hb.2.1 (fun r hr => (hb.2.2 r hr).1)]
  refine ⟨_, rfl, fun h => ⟨rfl, e32, by simp at h1; omega, hR rfl, fun row hrow n hn => ?_⟩⟩
  simp only [Bool.not_eq_true', List.any_eq_false] at h
  have h3 := h row hrow
  simp only [Bool.not_eq_true, List.any_eq_false] at h3
  have h4 := h3 n hn
  by_cases e : n = -1099511627776
  · exact .inl e
  · right
    simp [e] at h4
    omega

/-- all times, with the one that is 0 -/
def al (l : List Int) (t : Nat) : Int := (0 :: l).getD t 0
def Hold (N : Nat) (m : List (List Int)) (l : List Int) : Prop := ∀ i j, i < N + 1 → j < N + 1 → ent m i j ≠ -1099511627776 → al l j - al l i ≤ ent m i j

theorem holds_sem {b : SBounds} {N : Nat} {l : List Int} (e32 : m32 b = some 0) (hN : b.N = (N : Int)) (h : Rt N b.Most) (hl : l.length = N) (hs : ∀ n ∈ l, -64000000 ≤ n ∧ n ≤ 64000000) : ∃ r, m30 b l = some (r, 0) ∧ (r = true ↔ Hold N b.Most l) := by
  have hN7 := h.hN
  have hal : ∀ t, t < N + 1 → idx (0 :: l) (t : Int) = some (al l t) ∧ -64000000 ≤ al l t ∧ al l t ≤ 64000000 := by
    intro t ht
    have ht' : t < (0 :: l).length := by simp [hl]; omega
    have e : al l t = (0 :: l)[t] := by unfold al; rw [List.getD_eq_getElem?_getD, List.getElem?_eq_getElem ht']; rfl
    refine ⟨by rw [idx_lt ht', e], ?_⟩
    rw [e]
    have := List.getElem_mem ht'
    rcases List.mem_cons.1 this with g | g
    · rw [g]; omega
    · exact hs _ g
  unfold m30
  rw [e32, Option.bind_some, show ((0 : Int) != 0) = false from rfl, cond_false, show ((l.length : Int) != b.N) = false by simp [hl, hN], cond_false, far66 l (by rw [hl]; unfold mx; omega), Option.bind_some]
  have hany : (l.any fun n => !(decide (n ≥ -64000000) && decide (n ≤ 64000000))) = false := by
    rw [List.any_eq_false]
    intro n hn
    have := hs n hn
    simp; omega
  rw [hany, cond_false, appc_eq (by simp [hl]; omega) (by simp [hl]; omega), Option.bind_some]
  simp only [List.cons_append, List.nil_append]
  have hrow : ∀ i (hi : i < b.Most.length), b.Most[i].length = N + 1 := fun i hi => h.sq.2 _ (List.getElem_mem hi)
  have hlen := h.sq.1
  obtain ⟨r, e, q⟩ := iter_cnt (body := fun s7 : Int => ((bif (decide (s7 < (b.Most.length : Int))) then (idx b.Most s7).bind fun v10 => (iter (fun s11 : Int => ((bif (decide (s11 < (v10.length : Int))) then (idx v10 s11).bind fun v14 => ((bif (v14 != (-1099511627776)) then (idx (0 :: l) s11).bind fun v17 => (idx (0 :: l) s7).bind fun v18 => some (decide ((subI .i64 v17 v18) > v14)) else some false) : Option (Bool)).bind fun w15 => (bif w15 then some (.inr (.inr (.inr (.inr (false, 0))))) else some (.inl (addI .i64 s11 1))) else some (.inr (.inl ()))) : Option ((Int) ⊕ ((Unit) ⊕ ((Int) ⊕ ((Unit) ⊕ (Bool × Int))))))) 0).bind (Sum.elim (fun w12 => some (.inl (addI .i64 s7 1))) some) else some (.inr (.inl ()))) : Option ((Int) ⊕ ((Unit) ⊕ (Bool × Int)))))
    b.Most.length (by unfold fuel; omega) (fun k => ∀ i j, i < k → i < N + 1 → j < N + 1 → ent b.Most i j ≠ -1099511627776 → al l j - al l i ≤ ent b.Most i j) (fun r => (r = .inr (false, 0) ∧ ¬ Hold N b.Most l) ∨ r = .inl () ∧ Hold N b.Most l) (fun i j h => by omega) (by
    intro k hk hp
    by_cases hlt : k < b.Most.length
    · have hkN : k < N + 1 := by omega
      have hrk := hrow k hlt
      simp only [lt_t (show (k : Int) < (b.Most.length : Int) by omega), cond_true, idx_lt hlt, Option.bind_some]
      obtain ⟨r, e, q⟩ := iter_cnt (body := fun s11 : Int => ((bif (decide (s11 < (b.Most[k].length : Int))) then (idx b.Most[k] s11).bind fun v14 => ((bif (v14 != (-1099511627776)) then (idx (0 :: l) s11).bind fun v17 => (idx (0 :: l) (k : Int)).bind fun v18 => some (decide ((subI .i64 v17 v18) > v14)) else some false) : Option (Bool)).bind fun w15 => (bif w15 then some (.inr (.inr (.inr (.inr (false, 0))))) else some (.inl (addI .i64 s11 1))) else some (.inr (.inl ()))) : Option ((Int) ⊕ ((Unit) ⊕ ((Int) ⊕ ((Unit) ⊕ (Bool × Int)))))))
        b.Most[k].length (by unfold fuel; omega) (fun j => ∀ j', j' < j → j' < N + 1 → ent b.Most k j' ≠ -1099511627776 → al l j' - al l k ≤ ent b.Most k j') (fun r => (r = .inr (.inr (.inr (false, 0))) ∧ ¬ Hold N b.Most l) ∨ r = .inl () ∧ ∀ j', j' < N + 1 → ent b.Most k j' ≠ -1099511627776 → al l j' - al l k ≤ ent b.Most k j') (fun j' h => by omega) (by
        intro j hj hq
        by_cases hlj : j < b.Most[k].length
        · have hjN : j < N + 1 := by omega
          have he := ent_get hlt hlj
          obtain ⟨x1, x2, x3⟩ := hal j hjN
          obtain ⟨y1, y2, y3⟩ := hal k hkN
          simp only [lt_t (show (j : Int) < (b.Most[k].length : Int) by omega), cond_true, idx_lt hlj, Option.bind_some, x1, y1, ← he]
          rw [subI_eq (by omega) (by omega)]
          cases hb : (ent b.Most k j != -1099511627776) with
          | false =>
            left
            have h0 : ent b.Most k j = -1099511627776 := by simpa using hb
            refine ⟨hlj, by simp only [cond_false, Option.bind_some]; rw [addI_nat (by omega)], fun j' h1 h2 h3 => ?_⟩
            by_cases ej : j' = j
            · subst ej; exact (h3 h0).elim
            · exact hq j' (by omega) h2 h3
          | true =>
            have h0 : ent b.Most k j ≠ -1099511627776 := by simpa using hb
            simp only [cond_true, Option.bind_some]
            by_cases hgt : al l j - al l k > ent b.Most k j
            · right
              rw [decide_eq_true hgt, cond_true]
              exact ⟨_, rfl, .inl ⟨rfl, fun hH => by have := hH k j hkN hjN h0; omega⟩⟩
            · left
              rw [decide_eq_false hgt, cond_false]
              refine ⟨hlj, by rw [addI_nat (by omega)], fun j' h1 h2 h3 => ?_⟩
              by_cases ej : j' = j
              · subst ej; omega
              · exact hq j' (by omega) h2 h3
        · right
          simp only [lt_f (show ¬ (j : Int) < (b.Most[k].length : Int) by omega), cond_false]
          exact ⟨_, rfl, .inr ⟨rfl, fun j' h1 h2 => hq j' (by omega) h1 h2⟩⟩)
      rw [e]
      rcases q with ⟨rfl, q⟩ | ⟨rfl, q⟩
      · right
        exact ⟨_, rfl, .inl ⟨rfl, q⟩⟩
      · left
        refine ⟨hlt, ?_, fun i j h1 h2 h3 h4 => ?_⟩
        · show some (Sum.inl (addI .i64 (k : Int) 1)) = _
          rw [addI_nat (by omega)]
        · by_cases ei : i = k
          · subst ei; exact q j h3 h4
          · exact hp i j (by omega) h2 h3 h4
    · right
      simp only [lt_f (show ¬ (k : Int) < (b.Most.length : Int) by omega), cond_false]
      exact ⟨_, rfl, .inr ⟨rfl, fun i j h1 h2 h3 => hp i j (by omega) h1 h2 h3⟩⟩)
  rw [e]
  rcases q with ⟨rfl, q⟩ | ⟨rfl, q⟩
  · exact ⟨false, rfl, ⟨fun h => (Bool.false_ne_true h).elim, fun h => (q h).elim⟩⟩
  · exact ⟨true, rfl, ⟨fun _ => q, fun _ => rfl⟩⟩

/-- right bounds pass the check -/
theorem check_ok {N : Nat} {l : List (List Int)} (h : Rt N l) : m32 ⟨(N : Int), l⟩ = some 0 := by
  have hN7 := h.hN
  have hlen := h.sq.1
  have hrow : ∀ i (hi : i < l.length), l[i].length = N + 1 := fun i hi => h.sq.2 _ (List.getElem_mem hi)
  unfold m32
  rw [show (decide ((N : Int) < 0) || decide ((N : Int) > 12)) = false by simp; omega, cond_false]
  simp only
  rw [addI_nat (k := N) (by omega), show ((l.length : Int) != ((N + 1 : Nat) : Int)) = false by simp [hlen], cond_false]
  obtain ⟨r, e, q⟩ := iter_cnt (body := fun s5 : Int => ((bif (decide (s5 < (l.length : Int))) then (idx l s5).bind fun v8 => (bif ((v8.length : Int) != ((N + 1 : Nat) : Int)) then some (.inr (.inr (8 : Int))) else some (.inl (addI .i64 s5 1))) else some (.inr (.inl ()))) : Option ((Int) ⊕ ((Unit) ⊕ Int))))
    l.length (by unfold fuel; omega) (fun _ => True) (fun r => r = .inl ()) trivial (by
    intro k hk _
    by_cases hlt : k < l.length
    · left
      refine ⟨hlt, ?_, trivial⟩
      simp only [lt_t (show (k : Int) < (l.length : Int) by omega), cond_true, idx_lt hlt, Option.bind_some, hrow k hlt, bne_self_eq_false, cond_false]
      rw [addI_nat (by omega)]
    · right
      simp only [lt_f (show ¬ (k : Int) < (l.length : Int) by omega), cond_false]
      exact ⟨_, rfl, rfl⟩)
  rw [e]; subst q
  simp only [Option.bind_some, Sum.elim_inl]
  obtain ⟨r, e, q⟩ := iter_cnt (body := fun s10 : Int => ((bif (decide (s10 < (l.length : Int))) then (idx l s10).bind fun v13 => (iter (fun s14 : Int => ((bif (decide (s14 < (v13.length : Int))) then (idx v13 s14).bind fun v17 => ((bif (v17 != (-1099511627776)) then (m67 v17).bind fun v20 => some (!v20) else some false) : Option (Bool)).bind fun w18 => (bif w18 then some (.inr (.inr (.inr (.inr (2 : Int))))) else (bif ((s10 == s14) && (v17 != 0)) then some (.inr (.inr (.inr (.inr 3)))) else some (.inl (addI .i64 s14 1)))) else some (.inr (.inl ()))) : Option ((Int) ⊕ ((Unit) ⊕ ((Int) ⊕ ((Unit) ⊕ Int)))))) 0).bind (Sum.elim (fun w15 => some (.inl (addI .i64 s10 1))) some) else some (.inr (.inl ()))) : Option ((Int) ⊕ ((Unit) ⊕ Int))))
    l.length (by unfold fuel; omega) (fun _ => True) (fun r => r = .inl ()) trivial (by
    intro k hk _
    by_cases hlt : k < l.length
    · left
      have hrk := hrow k hlt
      refine ⟨hlt, ?_, trivial⟩
      simp only [lt_t (show (k : Int) < (l.length : Int) by omega), cond_true, idx_lt hlt, Option.bind_some]
      obtain ⟨r, e, q⟩ := iter_cnt (body := fun s14 : Int => ((bif (decide (s14 < (l[k].length : Int))) then (idx l[k] s14).bind fun v17 => ((bif (v17 != (-1099511627776)) then (m67 v17).bind fun v20 => some (!v20) else some false) : Option (Bool)).bind fun w18 => (bif w18 then some (.inr (.inr (.inr (.inr (2 : Int))))) else (bif (((k : Int) == s14) && (v17 != 0)) then some (.inr (.inr (.inr (.inr 3)))) else some (.inl (addI .i64 s14 1)))) else some (.inr (.inl ()))) : Option ((Int) ⊕ ((Unit) ⊕ ((Int) ⊕ ((Unit) ⊕ Int))))))
        l[k].length (by unfold fuel; omega) (fun _ => True) (fun r => r = .inl ()) trivial (by
        intro j hj _
        by_cases hlj : j < l[k].length
        · left
          refine ⟨hlj, ?_, trivial⟩
          have he := ent_get hlt hlj
          have hE := h.en k j (by omega) (by omega)
          rw [he] at hE
          have hbad : bad l[k][j] = false := by
            unfold bad
            unfold Ent at hE
            rcases hE with g | g
            · simp [g]
            · simp [g.1, g.2]
          have hdg : (((k : Int) == (j : Int)) && (l[k][j] != 0)) = false := by
            by_cases e : k = j
            · subst e
              have := h.dg k (by omega)
              rw [he] at this
              simp [this]
            · have : ((k : Int) == (j : Int)) = false := by simp; omega
              rw [this]; rfl
          simp only [lt_t (show (j : Int) < (l[k].length : Int) by omega), cond_true, idx_lt hlj, Option.bind_some, bad_prog, hbad, cond_false, hdg]
          rw [addI_nat (by omega)]
        · right
          simp only [lt_f (show ¬ (j : Int) < (l[k].length : Int) by omega), cond_false]
          exact ⟨_, rfl, rfl⟩)
      rw [e]; subst q
      show some (Sum.inl (addI .i64 (k : Int) 1)) = _
      rw [addI_nat (by omega)]
    · right
      simp only [lt_f (show ¬ (k : Int) < (l.length : Int) by omega), cond_false]
      exact ⟨_, rfl, rfl⟩)
  rw [e]; subst q; rfl
end G11

namespace G11
open Go Go.Pl
set_option linter.unusedVariables false

theorem hold_pot {N : Nat} {m : List (List Int)} {l : List Int} (h : Hold N m l) : ∀ i j x, i < N + 1 → j < N + 1 → wt m i j = some x → al l j ≤ al l i + x := by
  intro i j x hi hj e
  unfold wt toO at e
  split at e
  · cases e
  · rename_i hne
    injection e with e
    have := h i j hi hj hne
    omega

/-- bounds that are closed, with small numbers -/
theorem closed_facts {N : Nat} {l d : List (List Int)} (h : Rt N l) (hM : ∀ i j x, wt l i j = some x → -1000000 ≤ x ∧ x ≤ 1000000) (hs : solve l = .inr d) :
    ∃ D : Wt, NonNeg (N + 1) (wt l) ∧ Least (N + 1) (wt l) D ∧ (∀ i, i < N + 1 → D i i = some 0) ∧ (∀ i j, i < N + 1 → j < N + 1 → ent d i j = ofO (D i j)) ∧ (∀ i j x, D i j = some x → -8000000 ≤ x ∧ x ≤ 8000000) ∧ d = matL (N + 1) (ent d) := by
  obtain ⟨hnn, hd, _⟩ := solve_inr h hs
  have hN7 := h.hN
  have hL := pth_Least hnn (m := N + 1) (by omega)
  have he : ∀ i j, i < N + 1 → j < N + 1 → ent d i j = ofO (pth (N + 1) (wt l) (N + 1) i j) := fun i j hi hj => by
    rw [hd]; unfold pathL; rw [h.sq.1, matO_ent hi hj]
  refine ⟨pth (N + 1) (wt l) (N + 1), hnn, hL, fun i hi => ?_, he, fun i j x e => ?_, ?_⟩
  · obtain ⟨y, e, hy⟩ := hL.least i i 1 0 (by omega) (.one hi hi (h.w0 hi))
    have := pth_diag hnn hi e
    rw [e]; congr 1; omega
  · have := pth_small (M := 1000000) (by omega) hM (N + 1) e
    omega
  · have : d = matL (N + 1) fun i j => ofO (pth (N + 1) (wt l) (N + 1) i j) := by rw [hd]; unfold pathL; rw [h.sq.1]; rfl
    rw [this]
    exact matL_congr (fun i j hi hj => (matL_ent (d := fun i j => ofO (pth (N + 1) (wt l) (N + 1) i j)) hi hj).symm)
theorem closed_rt {N : Nat} {l d : List (List Int)} {D : Wt} (h : Rt N l) (h0 : ∀ i, i < N + 1 → D i i = some 0) (he : ∀ i j, i < N + 1 → j < N + 1 → ent d i j = ofO (D i j)) (hs : ∀ i j x, D i j = some x → -8000000 ≤ x ∧ x ≤ 8000000) (hd : d = matL (N + 1) (ent d)) : Rt N d := by
  refine ⟨h.hN, ⟨by rw [hd]; simp [matL], fun r hr => ?_⟩, fun i hi => by rw [he i i hi hi, h0 i hi]; rfl, fun i j hi hj => ?_⟩
  · rw [hd] at hr
    obtain ⟨i, _, rfl⟩ := List.mem_map.1 hr
    simp [rowL]
  · rw [he i j hi hj]
    cases e : D i j with
    | none => exact .inl rfl
    | some x => have := hs i j x e; exact .inr ⟨by show -64000000 ≤ x; omega, by show x ≤ 64000000; omega⟩
theorem closed_big {N : Nat} {d : List (List Int)} {D : Wt} (he : ∀ i j, i < N + 1 → j < N + 1 → ent d i j = ofO (D i j)) (hs : ∀ i j x, D i j = some x → -8000000 ≤ x ∧ x ≤ 8000000) (hd : d = matL (N + 1) (ent d)) : big d = false := by
  cases hb : big d with
  | false => rfl
  | true =>
    rw [hd] at hb
    obtain ⟨i, j, hi, hj, _, hbig⟩ := bigL.1 hb
    rw [he i j hi hj] at hbig
    cases e : D i j with
    | none => rw [e] at hbig; cases hbig
    | some x =>
      have := hs i j x e
      rw [e] at hbig
      have h2 : bigE x = true := hbig
      unfold bigE at h2
      simp at h2
      omega
theorem ofO_some {D : Option Int} {x : Int} (hs : ∀ y, D = some y → -8000000 ≤ y ∧ y ≤ 8000000) (h : ofO D = x) (hne : x ≠ -1099511627776) : D = some x := by
  cases D with
  | none => exact (hne h.symm).elim
  | some y => congr 1

theorem small_wt {b : SBounds} {N : Nat} (h : Rt N b.Most) (hs : ∀ row ∈ b.Most, ∀ n ∈ row, n = -1099511627776 ∨ -1000000 ≤ n ∧ n ≤ 1000000) : ∀ i j x, wt b.Most i j = some x → -1000000 ≤ x ∧ x ≤ 1000000 := by
  intro i j x e
  unfold wt toO at e
  split at e
  · cases e
  · rename_i hne
    injection e with e
    subst e
    by_cases hi : i < b.Most.length
    · by_cases hj : j < b.Most[i].length
      · rw [ent_get hi hj] at hne ⊢
        rcases hs _ (List.getElem_mem hi) _ (List.getElem_mem hj) with g | g
        · exact (hne g).elim
        · exact g
      · rw [ent_out (fun hi' => hj)]; omega
    · rw [ent_out (fun hi' => (hi hi').elim)]; omega

end G11

namespace G11
open Go Go.Pl
set_option linter.unusedVariables false

theorem far45 (l : List Int) (hl : l.length ≤ mx) : m39_45 l = some (l.any fun n => decide (n < -1000000) || decide (n > 1000000)) :=
  any_loop (fun n => decide (n < -1000000) || decide (n > 1000000)) m45 l (fun x _ => rfl) hl

/-- bounds that are closed, are closed already -/
theorem closed_solve {N : Nat} {l d : List (List Int)} (hRt : Rt N l) (hM : ∀ i j x, wt l i j = some x → -1000000 ≤ x ∧ x ≤ 1000000) (hs : solve l = .inr d) : solve d = .inr d := by
  obtain ⟨D, hnn, hL, hD0, he, hDs, hd⟩ := closed_facts hRt hM hs
  have hRd := closed_rt hRt hD0 he hDs hd
  have wtD : ∀ i j, i < N + 1 → j < N + 1 → wt d i j = D i j := by
    intro i j hi hj
    unfold wt toO
    rw [he i j hi hj]
    cases e : D i j with
    | none => rfl
    | some x =>
      have := hDs i j x e
      show (if x = -1099511627776 then none else some x) = some x
      rw [if_neg (by omega)]
  have walkD : ∀ {i j L s}, Walk (N + 1) (wt d) i j L s → ∃ L', (0 < L → 0 < L') ∧ Walk (N + 1) (wt l) i j L' s := by
    intro i j L s h
    induction h with
    | nil h => exact ⟨0, id, .nil h⟩
    | @snoc k j L s x h hj e ih =>
      obtain ⟨L', _, hw⟩ := ih
      rw [wtD _ _ h.right hj] at e
      obtain ⟨M, hM0, hw2⟩ := hL.walk _ _ _ h.right hj e
      exact ⟨L' + M, fun _ => by omega, hw.app hw2⟩
  have nnD : NonNeg (N + 1) (wt d) := fun i L s h => by
    obtain ⟨L', _, hw⟩ := walkD h
    exact hnn _ _ _ hw
  cases hs' : solve d with
  | inl c =>
    obtain ⟨_, s, la, k, x, hc, _⟩ := solve_inl hRd hs'
    have hw := hc.walk k (Nat.le_refl _)
    rw [Nat.add_sub_cancel, hc.back] at hw
    have := nnD _ _ _ hw
    have := hc.neg
    omega
  | inr d' =>
    obtain ⟨_, hd', _⟩ := solve_inr hRd hs'
    have hL' := pth_Least nnD (m := N + 1) (by omega)
    have hLD : Least (N + 1) (wt d) D := ⟨fun i j x hi hj e => ⟨1, by omega, .one hi hj (by rw [wtD i j hi hj]; exact e)⟩, fun i j L s h0 h => by
      obtain ⟨L', h1, hw⟩ := walkD h
      exact hL.least _ _ L' s (h1 h0) hw⟩
    congr 1
    have e1 : pathL d = matL (N + 1) fun i j => ofO (pth (N + 1) (wt d) (N + 1) i j) := by unfold pathL; rw [hRd.sq.1]; rfl
    rw [hd', e1]
    exact (matL_congr (fun i j hi hj => by rw [hL'.uniq hLD hi hj, he i j hi hj])).trans hd.symm

theorem ent_lessE {x y : Int} (hx : Ent x) (hy : Ent y) : Ent (lessE x y) := by
  unfold lessE; split
  · exact hy
  · exact hx

theorem meet_rt {N : Nat} {l k : List (List Int)} (h : Rt N l) (g : Rt N k) : Rt N (meetL l k (N + 1)) ∧ ∀ i j, i < N + 1 → j < N + 1 → ent (meetL l k (N + 1)) i j = lessE (ent l i j) (ent k i j) := by
  have e : ∀ i j, i < N + 1 → j < N + 1 → ent (meetL l k (N + 1)) i j = lessE (ent l i j) (ent k i j) := fun i j hi hj => matL_ent (d := fun i j => lessE (ent l i j) (ent k i j)) hi hj
  refine ⟨⟨h.hN, ⟨by simp [meetL, matL], fun r hr => ?_⟩, fun i hi => ?_, fun i j hi hj => ?_⟩, e⟩
  · obtain ⟨i, _, rfl⟩ := List.mem_map.1 hr
    simp [rowL]
  · rw [e i i hi hi, h.dg i hi, g.dg i hi]; rfl
  · rw [e i j hi hj]; exact ent_lessE (h.en i j hi hj) (g.en i j hi hj)

theorem hold_meet {N : Nat} {l k : List (List Int)} {t : List Int} (h : Rt N l) (g : Rt N k) : Hold N (meetL l k (N + 1)) t ↔ Hold N l t ∧ Hold N k t := by
  obtain ⟨_, e⟩ := meet_rt h g
  constructor
  · intro H
    refine ⟨fun i j hi hj hne => ?_, fun i j hi hj hne => ?_⟩
    · have := H i j hi hj
      rw [e i j hi hj] at this
      unfold lessE at this
      split at this
      · rename_i c; have := this c.1; rcases c.2 with h | h
        · exact (hne h).elim
        · omega
      · exact this hne
    · have := H i j hi hj
      rw [e i j hi hj] at this
      unfold lessE at this
      split at this
      · exact this hne
      · rename_i c
        have c2 : ¬ (ent l i j = -1099511627776 ∨ ent k i j < ent l i j) := fun q => c ⟨hne, q⟩
        have := this (fun q => c2 (.inl q))
        omega
  · rintro ⟨H1, H2⟩ i j hi hj hne
    rw [e i j hi hj] at hne ⊢
    unfold lessE at hne ⊢
    split
    · rename_i c; exact H2 i j hi hj c.1
    · rename_i c; rw [if_neg c] at hne; exact H1 i j hi hj hne

/-- times that hold, hold for the closed bounds -/
theorem hold_closed {N : Nat} {l d : List (List Int)} {t : List Int} (hRt : Rt N l) (hM : ∀ i j x, wt l i j = some x → -1000000 ≤ x ∧ x ≤ 1000000) (hs : solve l = .inr d) : (Hold N d t ↔ Hold N l t) ∧
    ∀ i j, i < N + 1 → j < N + 1 → ent l i j ≠ -1099511627776 → ent d i j ≠ -1099511627776 ∧ ent d i j ≤ ent l i j := by
  obtain ⟨D, hnn, hL, hD0, he, hDs, hd⟩ := closed_facts hRt hM hs
  have hle : ∀ i j, i < N + 1 → j < N + 1 → ent l i j ≠ -1099511627776 → ent d i j ≠ -1099511627776 ∧ ent d i j ≤ ent l i j := by
    intro i j hi hj hne
    have hw : wt l i j = some (ent l i j) := by unfold wt toO; rw [if_neg hne]
    obtain ⟨y, e, hy⟩ := hL.least i j 1 _ (by omega) (.one hi hj hw)
    have hy2 := hDs i j y e
    rw [he i j hi hj, e]
    show y ≠ -1099511627776 ∧ y ≤ _
    exact ⟨by omega, hy⟩
  refine ⟨⟨fun H i j hi hj hne => ?_, fun H i j hi hj hne => ?_⟩, hle⟩
  · obtain ⟨h1, h2⟩ := hle i j hi hj hne
    have := H i j hi hj h1
    omega
  · have e := ofO_some (fun y => hDs i j y) (he i j hi hj).symm hne
    obtain ⟨L, _, hw⟩ := hL.walk i j _ hi hj e
    have := Walk.pot (hold_pot H) hw
    omega

theorem plain11 (a b : SBounds) (l : List Int) (ha : OkQ a) (hb : OkQ b) (hl : OkR l) : m11 a b l = some true := by
  have h13 : m13 = some true := rfl
  obtain ⟨ra, e27, hra⟩ := right_eq a ha
  obtain ⟨rb, f27, hrb⟩ := right_eq b hb
  unfold m11
  rw [e27, f27]
  simp only [Option.bind_some]
  cases ra
  case false => rfl
  cases rb
  case false => rfl
  obtain ⟨e28, e32, hN6, hR, hsm⟩ := hra rfl
  obtain ⟨f28, f32, hN6', hR', hsm'⟩ := hrb rfl
  obtain ⟨N, hN, hRt⟩ := hR.rt (by omega)
  obtain ⟨N', hN', hRt'⟩ := hR'.rt (by omega)
  have hN7 := hRt.hN
  simp only [Bool.not_true, cond_false]
  cases h0 : (a.N != b.N)
  case true => rfl
  have hNN : a.N = b.N := by simpa using h0
  obtain rfl : N' = N := by omega
  cases h1 : ((l.length : Int) != a.N)
  case true => rfl
  have hlen : l.length = N' := by have : (l.length : Int) = a.N := by simpa using h1
                                  omega
  simp only [cond_false]
  rw [far45 l hl.1]
  simp only [Option.bind_some]
  cases h2 : (l.any fun n => decide (n < -1000000) || decide (n > 1000000))
  case true => rfl
  have hts : ∀ n ∈ l, -64000000 ≤ n ∧ n ≤ 64000000 := fun n hn => by
    rw [List.any_eq_false] at h2
    have := h2 n hn
    simp at this
    omega
  have hM := small_wt hRt hsm
  have h6 : decide (a.N > 6) = false := by simp; omega
  obtain ⟨x, ex, hx⟩ := holds_sem e32 hN hRt hlen hts
  obtain ⟨y, ey, hy⟩ := holds_sem f32 hN' hRt' hlen hts
  have e14 : ∀ {n : Int} {k : List (List Int)}, n = (N' : Int) → m32 ⟨n, k⟩ = some 0 → m14 ⟨n, k⟩ = some (match solve k with | .inl c => (⟨0, []⟩, c, false, 0) | .inr d => (bif big d then (⟨0, []⟩, [], false, 11) else (⟨n, d⟩, [], true, 0))) := by
    intro n k hn e
    unfold m14
    rw [e, Option.bind_some, show ((0 : Int) != 0) = false from rfl, cond_false, show decide (n > 6) = false by simp; omega, cond_false]
    cases solve k <;> rfl
  have e78 : m78 a b = some 0 := by
    rw [m78_eq a b e32 f32]
    unfold bothE
    rw [h0]; rfl
  have e41 : m41 a b = some (⟨a.N, meetL a.Most b.Most (N' + 1)⟩, 0) := by
    unfold m41
    rw [e78, Option.bind_some, show ((0 : Int) != 0) = false from rfl, cond_false, h6, cond_false, hRt.sq.1]
  obtain ⟨hRm, _⟩ := meet_rt hRt hRt'
  have hmN : m32 (⟨a.N, meetL a.Most b.Most (N' + 1)⟩ : SBounds) = some 0 := by rw [hN]; exact check_ok hRm
  obtain ⟨z, ez, hz⟩ := holds_sem (b := ⟨a.N, meetL a.Most b.Most (N' + 1)⟩) hmN hN hRm hlen hts
  have hzxy : z = (x && y) := by
    rw [Bool.eq_iff_iff, hz, Bool.and_eq_true, hx, hy]
    exact hold_meet hRt hRt'
  have e43 : m43 a b = some (match solve a.Most with | .inl _ => (true, 0) | .inr d => (leqL d b.Most (N' + 1), 0)) := by
    unfold m43
    rw [e78, Option.bind_some, show ((0 : Int) != 0) = false from rfl, cond_false, h6, cond_false, hRt.sq.1]
    cases solve a.Most <;> rfl
  have ea : m14 a = m14 ⟨a.N, a.Most⟩ := rfl
  rw [ea, e14 hN e32]
  simp only [cond_false, Option.bind_some, ex, ey, e41, ez, e43]
  subst hzxy
  cases hs : solve a.Most with
  | inl c =>
    obtain ⟨_, s, la, k, w, hc, _⟩ := solve_inl hRt hs
    have hf : x = false := by
      cases x with
      | false => rfl
      | true =>
        have hnn : NonNeg (N' + 1) (wt a.Most) := NonNeg.of_pot (hold_pot (hx.1 rfl))
        have hw := hc.walk k (Nat.le_refl _)
        rw [Nat.add_sub_cancel, hc.back] at hw
        have := hnn _ _ _ hw
        have := hc.neg
        omega
    subst hf
    cases y <;> rfl
  | inr d =>
    obtain ⟨D, hnn, hL, hD0, he, hDs, hd⟩ := closed_facts hRt hM hs
    have hRd := closed_rt hRt hD0 he hDs hd
    have hbig := closed_big he hDs hd
    obtain ⟨hhold, hle⟩ := hold_closed (t := l) hRt hM hs
    have hsd := closed_solve hRt hM hs
    have hcd : m32 (⟨a.N, d⟩ : SBounds) = some 0 := by rw [hN]; exact check_ok hRd
    obtain ⟨v, ev, hv⟩ := holds_sem (b := ⟨a.N, d⟩) hcd hN hRd hlen hts
    have hvx : v = x := by rw [Bool.eq_iff_iff, hv, hx]; exact hhold
    subst hvx
    have e43' : m43 ⟨a.N, d⟩ a = some (true, 0) := by
      have g78 : m78 ⟨a.N, d⟩ a = some 0 := by
        rw [m78_eq _ a hcd e32]
        unfold bothE
        simp
      unfold m43
      rw [g78, Option.bind_some, show ((0 : Int) != 0) = false from rfl, cond_false, h6, cond_false, hsd]
      show some (leqL d a.Most d.length, (0 : Int)) = some (true, 0)
      have hall : leqL d a.Most d.length = true := ?_
      · rw [hall]
      rw [hRd.sq.1]
      unfold leqL
      rw [List.all_eq_true]
      intro i hi
      rw [List.all_eq_true]
      intro j hj
      have hi := List.mem_range.1 hi
      have hj := List.mem_range.1 hj
      by_cases hne : ent a.Most i j = -1099511627776
      · rw [hne]; rfl
      · obtain ⟨h3, h4⟩ := hle i j hi hj hne
        have h5 : decide (ent d i j > ent a.Most i j) = false := by simp; omega
        have h6 : (ent d i j == -1099511627776) = false := by simpa using h3
        rw [h5, h6]; simp
    have hsame : m16 (⟨a.N, d⟩ : SBounds) ⟨a.N, d⟩ = some true := by
      rw [hd]
      have := matL_small (n := N' + 1) (m := ent d) (by omega)
      exact same_refl _ this.1 this.2
    have hin : (leqL d b.Most (N' + 1) && (v && !y)) = false := by
      cases h3 : leqL d b.Most (N' + 1)
      · rfl
      cases hv1 : v
      · rfl
      cases hy1 : y
      · exfalso
        have hH : Hold N' d l := hv.1 hv1
        have : Hold N' b.Most l := fun i j hi hj hne => by
          unfold leqL at h3
          have h7 := List.all_eq_true.1 (List.all_eq_true.1 h3 i (List.mem_range.2 hi)) j (List.mem_range.2 hj)
          have h8 : (ent b.Most i j != -1099511627776) = true := by simpa using hne
          rw [h8, Bool.true_and, Bool.not_eq_true', Bool.or_eq_false_iff] at h7
          have h9 : ent d i j ≠ -1099511627776 := by simpa using h7.1
          have h10 := of_decide_eq_false h7.2
          have := hH i j hi hj h9
          omega
        rw [hy.2 this] at hy1
        cases hy1
      · rfl
    dsimp only
    rw [hbig]
    simp only [cond_false, Option.bind_some]
    rw [e14 (k := d) hN hcd, hsd]
    simp only [ev, e43', Option.bind_some, hbig, cond_false, hsame, h13]
    generalize leqL d b.Most (N' + 1) = g at hin ⊢
    cases v <;> cases y <;> cases g <;> first | rfl | cases hin
end G11
