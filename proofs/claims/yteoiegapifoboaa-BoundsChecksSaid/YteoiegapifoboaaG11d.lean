/- Holds: the program and the reference agree; the law BoundsChecks in plain. No condition. -/
import Derived.Test.YteoiegapifoboaaG11c
namespace G11
open Go Go.Pl

theorem holds_eq (b : SBounds) (l : List Int) (hb : OkQ b) (hl : OkR l) (h50 : l.length ≤ 50) : ∃ r, m30 b l = some r ∧ m31 b l = some r := by
  obtain ⟨c, hc, hc', hR⟩ := check_eq b hb
  unfold m30 m31
  simp only [hc, hc', Option.bind_some]
  cases h1 : (c != 0)
  case true => exact ⟨_, rfl, rfl⟩
  have R := hR (by simpa using h1)
  have hN0 := R.n0
  have hN1 := R.n1
  have hlen := R.len
  simp only [cond_false]
  cases h2 : ((l.length : Int) != b.N)
  case true => exact ⟨_, rfl, rfl⟩
  have h2' : (l.length : Int) = b.N := by simpa using h2
  simp only [cond_false]
  obtain ⟨g, e, hgf, hgt⟩ := m39_eq l hl
  rw [e]
  obtain ⟨r, e1, q⟩ : ∃ r, iter (fun s4 : Int => ((bif (decide (s4 < (l.length : Int))) then (idx l s4).bind fun v7 => (m65 v7).bind fun v8 => (bif (!v8) then some (.inr (.inr (false, 2))) else some (.inl (addI .i64 s4 1))) else some (.inr (.inl ()))) : Option ((Int) ⊕ ((Unit) ⊕ (Bool × Int))))) 0 = some r ∧
      ((r = .inr (false, 2) ∧ ∃ i, ∃ h : i < l.length, ¬ (-64000000 ≤ l[i] ∧ l[i] ≤ 64000000)) ∨ (r = .inl () ∧ ∀ i (h : i < l.length), -64000000 ≤ l[i] ∧ l[i] ≤ 64000000)) := by
    refine iter_cnt l.length (by unfold fuel; omega) (fun k => ∀ i (h : i < l.length), i < k → -64000000 ≤ l[i] ∧ l[i] ≤ 64000000) _ (by intro i _ h; omega) ?_
    intro k hk hp
    by_cases hlt : k < l.length
    · simp only [lt_t (show (k : Int) < (l.length : Int) by omega), cond_true, idx_lt hlt, Option.bind_some, m65_eq]
      by_cases hg : -64000000 ≤ l[k] ∧ l[k] ≤ 64000000
      · left
        simp only [hg, decide_true, Bool.not_true, cond_false, and_self]
        refine ⟨hlt, by rw [addI_nat (by omega)], fun i hi hik => ?_⟩
        by_cases e : i = k
        · subst e; exact hg
        · exact hp i hi (by omega)
      · right
        simp only [hg, decide_false, Bool.not_false, cond_true]
        exact ⟨_, rfl, .inl ⟨rfl, k, hlt, hg⟩⟩
    · right
      simp only [lt_f (show ¬ (k : Int) < (l.length : Int) by omega), cond_false]
      exact ⟨_, rfl, .inr ⟨rfl, fun i hi => hp i hi (by omega)⟩⟩
  rw [e1]
  simp only [Option.bind_some]
  cases g with
  | true =>
    obtain ⟨i, hi, hn⟩ := hgt rfl
    rcases q with ⟨rfl, _⟩ | ⟨rfl, hall⟩
    · exact ⟨(false, 2), rfl, rfl⟩
    · exact (hn (hall i hi)).elim
  | false =>
    have hin := hgf rfl
    rcases q with ⟨rfl, i, hi, hn⟩ | ⟨rfl, _⟩
    · exact (hn (hin i hi)).elim
    simp only [cond_false, Sum.elim_inl, m68]
    rw [appc_eq (by simp; omega) (by simp; omega)]
    simp only [Option.bind_some]
    have hal : ([0] ++ l : List Int).length = b.Most.length := by simp; omega
    have hain : ∀ i (h : i < ([0] ++ l : List Int).length), -64000000 ≤ ([0] ++ l : List Int)[i] ∧ ([0] ++ l : List Int)[i] ≤ 64000000 := by
      intro i h
      cases i with
      | zero => simp
      | succ i => simpa using hin i (by simpa using h)
    generalize hA : ([0] ++ l : List Int) = A at hal hain ⊢
    obtain ⟨r1, r2, e1, e2, q⟩ := sim_cnt
      (b1 := fun s7 : Int => ((bif (decide (s7 < (b.Most.length : Int))) then (idx b.Most s7).bind fun v10 => (iter (fun s11 : Int => ((bif (decide (s11 < (v10.length : Int))) then (idx v10 s11).bind fun v14 => ((bif (v14 != (-1099511627776)) then (idx A s11).bind fun v17 => (idx A s7).bind fun v18 => some (decide ((subI .i64 v17 v18) > v14)) else some false) : Option (Bool)).bind fun w15 => (bif w15 then some (.inr (.inr (.inr (.inr (false, 0))))) else some (.inl (addI .i64 s11 1))) else some (.inr (.inl ()))) : Option ((Int) ⊕ ((Unit) ⊕ ((Int) ⊕ ((Unit) ⊕ (Bool × Int))))))) 0).bind (Sum.elim (fun w12 => some (.inl (addI .i64 s7 1))) some) else some (.inr (.inl ()))) : Option ((Int) ⊕ ((Unit) ⊕ (Bool × Int)))))
      (b2 := fun s2 : Int => ((bif (decide (s2 ≤ b.N)) then (iter (fun s5 : Int => ((bif (decide (s5 ≤ b.N)) then ((idx b.Most s2).bind fun v9 => (idx v9 s5).bind fun v10 => (bif (v10 != (-1099511627776)) then (idx A s5).bind fun v12 => (idx A s2).bind fun v13 => (idx b.Most s2).bind fun v14 => (idx v14 s5).bind fun v15 => some (decide ((subI .i64 v12 v13) > v15)) else some false) : Option (Bool)).bind fun w8 => (bif w8 then some (.inr (.inr (.inr (.inr false)))) else some (.inl (addI .i64 s5 1))) else some (.inr (.inl ()))) : Option ((Int) ⊕ ((Unit) ⊕ ((Int) ⊕ ((Unit) ⊕ Bool)))))) 0).bind (Sum.elim (fun w6 => some (.inl (addI .i64 s2 1))) some) else some (.inr (.inl ()))) : Option ((Int) ⊕ ((Unit) ⊕ Bool))))
      b.Most.length (by unfold fuel; omega) (fun _ => True) (fun r1 r2 => (r1 = .inl () ∧ r2 = .inl ()) ∨ (r1 = .inr (false, 0) ∧ r2 = .inr false)) trivial (by
      intro k hk _
      by_cases hlt : k < b.Most.length
      · have hrk := R.row k hlt
        simp only [lt_t (show (k : Int) < (b.Most.length : Int) by omega), le_t (show (k : Int) ≤ b.N by omega), cond_true, idx_lt hlt, Option.bind_some, idx_lt (show k < A.length by omega)]
        obtain ⟨r1, r2, e1, e2, q⟩ := sim_cnt
          (b1 := fun s11 : Int => ((bif (decide (s11 < (b.Most[k].length : Int))) then (idx b.Most[k] s11).bind fun v14 => ((bif (v14 != (-1099511627776)) then (idx A s11).bind fun v17 => some (decide ((subI .i64 v17 (A[k]'(by omega))) > v14)) else some false) : Option (Bool)).bind fun w15 => (bif w15 then some (.inr (.inr (.inr (.inr (false, 0))))) else some (.inl (addI .i64 s11 1))) else some (.inr (.inl ()))) : Option ((Int) ⊕ ((Unit) ⊕ ((Int) ⊕ ((Unit) ⊕ (Bool × Int)))))))
          (b2 := fun s5 : Int => ((bif (decide (s5 ≤ b.N)) then ((idx b.Most[k] s5).bind fun v10 => (bif (v10 != (-1099511627776)) then (idx A s5).bind fun v12 => (idx b.Most[k] s5).bind fun v15 => some (decide ((subI .i64 v12 (A[k]'(by omega))) > v15)) else some false) : Option (Bool)).bind fun w8 => (bif w8 then some (.inr (.inr (.inr (.inr false)))) else some (.inl (addI .i64 s5 1))) else some (.inr (.inl ()))) : Option ((Int) ⊕ ((Unit) ⊕ ((Int) ⊕ ((Unit) ⊕ Bool))))))
          b.Most[k].length (by unfold fuel; omega) (fun _ => True) (fun r1 r2 => (r1 = .inl () ∧ r2 = .inl ()) ∨ (r1 = .inr (.inr (.inr (false, 0))) ∧ r2 = .inr (.inr (.inr false)))) trivial (by
          intro j hj _
          by_cases hlj : j < b.Most[k].length
          · simp only [lt_t (show (j : Int) < (b.Most[k].length : Int) by omega), le_t (show (j : Int) ≤ b.N by omega), cond_true, idx_lt hlj, Option.bind_some, idx_lt (show j < A.length by omega)]
            cases hz : (b.Most[k][j] != (-1099511627776))
            · left
              simp only [cond_false, Option.bind_some]
              exact ⟨hlj, by rw [addI_nat (by omega)], by rw [addI_nat (by omega)], trivial⟩
            · simp only [cond_true, Option.bind_some]
              cases hd : decide (subI .i64 (A[j]'(by omega)) (A[k]'(by omega)) > b.Most[k][j])
              · left
                simp only [cond_false]
                exact ⟨hlj, by rw [addI_nat (by omega)], by rw [addI_nat (by omega)], trivial⟩
              · right
                exact ⟨_, _, rfl, rfl, .inr ⟨rfl, rfl⟩⟩
          · right
            simp only [lt_f (show ¬ (j : Int) < (b.Most[k].length : Int) by omega), le_f (show ¬ (j : Int) ≤ b.N by omega), cond_false]
            exact ⟨_, _, rfl, rfl, .inl ⟨rfl, rfl⟩⟩)
        rw [e1, e2]
        rcases q with ⟨rfl, rfl⟩ | ⟨rfl, rfl⟩
        · left
          refine ⟨hlt, ?_, ?_, trivial⟩ <;> (simp only [Option.bind_some, Sum.elim_inl]; rw [addI_nat (by omega)])
        · right
          exact ⟨_, _, rfl, rfl, .inr ⟨rfl, rfl⟩⟩
      · right
        simp only [lt_f (show ¬ (k : Int) < (b.Most.length : Int) by omega), le_f (show ¬ (k : Int) ≤ b.N by omega), cond_false]
        exact ⟨_, _, rfl, rfl, .inl ⟨rfl, rfl⟩⟩)
    rw [e1, e2]
    rcases q with ⟨rfl, rfl⟩ | ⟨rfl, rfl⟩
    · exact ⟨(true, 0), rfl, rfl⟩
    · exact ⟨(false, 0), rfl, rfl⟩

theorem plain7 (b : SBounds) (l m : List Int) (hb : OkQ b) (hl : OkR l) (hm : OkR m) : m7 b l m = some true := by
  obtain ⟨f, hf, _⟩ := few_eq b hb
  unfold m7
  have e13 : m13 = some true := rfl
  simp only [hf, Option.bind_some, e13]
  cases f with
  | false => simp
  | true =>
    simp only [Bool.not_true, cond_false]
    cases h1 : decide ((l.length : Int) > 50)
    case true => simp
    have h1' : l.length ≤ 50 := by simp at h1; omega
    simp only [cond_false, Option.bind_some]
    cases h2 : decide ((m.length : Int) > 50)
    case true => simp
    have h2' : m.length ≤ 50 := by simp at h2; omega
    simp only [cond_false, cond_true]
    obtain ⟨r, e1, e2⟩ := verify_eq b l hb hl h1'
    obtain ⟨s, e3, e4⟩ := holds_eq b m hb hm h2'
    obtain ⟨c, e5, e6, _⟩ := check_eq b hb
    simp [e1, e2, e3, e4, e5, e6]
end G11
