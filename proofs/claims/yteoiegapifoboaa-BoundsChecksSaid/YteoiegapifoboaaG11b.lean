/- Check, Verify and Holds: the program and the reference agree. No condition. -/
import Derived.Test.YteoiegapifoboaaG11M
import Derived.Test.YteoiegapifoboaaAmP1
namespace G11
open Go Go.Pl

def mx : Nat := 9223372036854775807
def OkR (l : List Int) : Prop := l.length ≤ mx ∧ ∀ n ∈ l, -9223372036854775808 ≤ n ∧ n ≤ 9223372036854775807
def OkQ (b : SBounds) : Prop := (-9223372036854775808 ≤ b.N ∧ b.N ≤ 9223372036854775807) ∧ b.Most.length ≤ mx ∧ ∀ row ∈ b.Most, OkR row

def Ent (n : Int) : Prop := n = -1099511627776 ∨ (-64000000 ≤ n ∧ n ≤ 64000000)
structure Right (b : SBounds) : Prop where
  n0 : 0 ≤ b.N
  n1 : b.N ≤ 12
  len : (b.Most.length : Int) = b.N + 1
  row : ∀ i (h : i < b.Most.length), (b.Most[i].length : Int) = b.N + 1
  ent : ∀ i (h : i < b.Most.length) j (h' : j < b.Most[i].length), Ent b.Most[i][j]

theorem m65_eq (n : Int) : m65 n = some (decide (-64000000 ≤ n ∧ n ≤ 64000000)) := by
  simp [m65, Bool.decide_and]
theorem m67_eq (n : Int) : m67 n = some (decide (-64000000 ≤ n ∧ n ≤ 64000000)) := by
  simp [m67, Bool.decide_and]

/-- is a number none, or a bound? -/
def bad (n : Int) : Bool := n != -1099511627776 && !decide (-64000000 ≤ n ∧ n ≤ 64000000)
theorem bad_ref (n : Int) : ((bif (n != (-1099511627776)) then (m65 n).bind fun v20 => some (!v20) else some false) : Option Bool) = some (bad n) := by
  unfold bad
  cases h : (n != -1099511627776) <;> simp [m65_eq]
theorem bad_prog (n : Int) : ((bif (n != (-1099511627776)) then (m67 n).bind fun v20 => some (!v20) else some false) : Option Bool) = some (bad n) := by
  unfold bad
  cases h : (n != -1099511627776) <;> simp [m67_eq]
theorem bad_false {n : Int} (h : bad n = false) : Ent n := by
  unfold bad at h; unfold Ent
  by_cases h1 : n = -1099511627776
  · exact .inl h1
  · right
    simp [h1] at h; exact h

theorem check_eq (b : SBounds) (hb : OkQ b) : ∃ c, m28 b = some c ∧ m32 b = some c ∧ (c = 0 → Right b) := by
  obtain ⟨⟨n1, n2⟩, hl, hr⟩ := hb
  unfold m28 m32
  cases h1 : ((decide (b.N < 0)) || (decide (b.N > 12)))
  case true => exact ⟨2, rfl, rfl, fun h => by omega⟩
  simp only [Bool.or_eq_false_iff, decide_eq_false_iff_not] at h1
  rw [addI_eq (by omega) (by omega)]
  simp only [cond_false]
  cases h2 : ((b.Most.length : Int) != b.N + 1)
  case true => exact ⟨8, rfl, rfl, fun h => by omega⟩
  have h2' : (b.Most.length : Int) = b.N + 1 := by simpa using h2
  simp only [cond_false]
  obtain ⟨r, e, q⟩ : ∃ r, iter (fun s5 : Int => ((bif (decide (s5 < (b.Most.length : Int))) then (idx b.Most s5).bind fun v8 => (bif ((v8.length : Int) != b.N + 1) then some (.inr (.inr 8)) else some (.inl (addI .i64 s5 1))) else some (.inr (.inl ()))) : Option ((Int) ⊕ ((Unit) ⊕ Int)))) 0 = some r ∧
      (r = .inr 8 ∨ r = .inl () ∧ ∀ i (h : i < b.Most.length), (b.Most[i].length : Int) = b.N + 1) := by
    refine iter_cnt b.Most.length (by unfold fuel; omega) (fun k => ∀ i (h : i < b.Most.length), i < k → (b.Most[i].length : Int) = b.N + 1) _ (by intro i _ h; omega) ?_
    intro k hk hp
    by_cases hlt : k < b.Most.length
    · rw [cond_t (lt_t (by omega)), idx_lt hlt, Option.bind_some]
      cases h3 : ((b.Most[k].length : Int) != b.N + 1)
      · left
        refine ⟨hlt, by rw [cond_false, addI_nat (by omega)], fun i hi hik => ?_⟩
        by_cases e : i = k
        · subst e; simpa using h3
        · exact hp i hi (by omega)
      · right
        exact ⟨_, rfl, .inl rfl⟩
    · right
      rw [cond_f (lt_f (by omega))]
      exact ⟨_, rfl, .inr ⟨rfl, fun i hi => hp i hi (by omega)⟩⟩
  rw [e]
  rcases q with rfl | ⟨rfl, hrow⟩
  · exact ⟨8, rfl, rfl, fun h => by omega⟩
  simp only [Option.bind_some, Sum.elim_inl]
  -- the numbers
  let n := b.Most.length
  obtain ⟨r1, r2, e1, e2, q⟩ := sim_cnt (b1 := fun s10 : Int => ((bif (decide (s10 ≤ b.N)) then (iter (fun s13 : Int => ((bif (decide (s13 ≤ b.N)) then (idx b.Most s10).bind fun v16 => (idx v16 s13).bind fun v17 => ((bif (v17 != (-1099511627776)) then (m65 v17).bind fun v20 => some (!v20) else some false) : Option (Bool)).bind fun w18 => (bif w18 then some (.inr (.inr (.inr (.inr 2)))) else ((bif (s10 == s13) then (idx b.Most s10).bind fun v24 => (idx v24 s13).bind fun v25 => some (v25 != 0) else some false) : Option (Bool)).bind fun w22 => (bif w22 then some (.inr (.inr (.inr (.inr 3)))) else some (.inl (addI .i64 s13 1)))) else some (.inr (.inl ()))) : Option ((Int) ⊕ ((Unit) ⊕ ((Int) ⊕ ((Unit) ⊕ Int)))))) 0).bind (Sum.elim (fun w14 => some (.inl (addI .i64 s10 1))) some) else some (.inr (.inl ()))) : Option ((Int) ⊕ ((Unit) ⊕ Int))))
    (b2 := fun s10 : Int => ((bif (decide (s10 < (b.Most.length : Int))) then (idx b.Most s10).bind fun v13 => (iter (fun s14 : Int => ((bif (decide (s14 < (v13.length : Int))) then (idx v13 s14).bind fun v17 => ((bif (v17 != (-1099511627776)) then (m67 v17).bind fun v20 => some (!v20) else some false) : Option (Bool)).bind fun w18 => (bif w18 then some (.inr (.inr (.inr (.inr 2)))) else (bif ((s10 == s14) && (v17 != 0)) then some (.inr (.inr (.inr (.inr 3)))) else some (.inl (addI .i64 s14 1)))) else some (.inr (.inl ()))) : Option ((Int) ⊕ ((Unit) ⊕ ((Int) ⊕ ((Unit) ⊕ Int)))))) 0).bind (Sum.elim (fun w15 => some (.inl (addI .i64 s10 1))) some) else some (.inr (.inl ()))) : Option ((Int) ⊕ ((Unit) ⊕ Int))))
    n (by unfold fuel; omega) (fun k => ∀ i (h : i < b.Most.length), i < k → ∀ j (h' : j < b.Most[i].length), Ent b.Most[i][j])
    (fun r1 r2 => r1 = r2 ∧ ((∃ c, r1 = .inr c ∧ c ≠ 0) ∨ (r1 = .inl () ∧ ∀ i (h : i < b.Most.length), ∀ j (h' : j < b.Most[i].length), Ent b.Most[i][j]))) (by intro i _ h; omega) (by
    intro k hk hp
    by_cases hlt : k < b.Most.length
    · have hrk := hrow k hlt
      rw [cond_t (le_t (by omega)), cond_t (lt_t (by omega)), idx_lt hlt]
      simp only [Option.bind_some]
      obtain ⟨r1, r2, e1, e2, q⟩ := sim_cnt (b1 := fun s13 : Int => ((bif (decide (s13 ≤ b.N)) then (idx b.Most[k] s13).bind fun v17 => ((bif (v17 != (-1099511627776)) then (m65 v17).bind fun v20 => some (!v20) else some false) : Option (Bool)).bind fun w18 => (bif w18 then some (.inr (.inr (.inr (.inr 2)))) else ((bif ((k : Int) == s13) then (idx b.Most[k] s13).bind fun v25 => some (v25 != 0) else some false) : Option (Bool)).bind fun w22 => (bif w22 then some (.inr (.inr (.inr (.inr 3)))) else some (.inl (addI .i64 s13 1)))) else some (.inr (.inl ()))) : Option ((Int) ⊕ ((Unit) ⊕ ((Int) ⊕ ((Unit) ⊕ Int))))))
        (b2 := fun s14 : Int => ((bif (decide (s14 < (b.Most[k].length : Int))) then (idx b.Most[k] s14).bind fun v17 => ((bif (v17 != (-1099511627776)) then (m67 v17).bind fun v20 => some (!v20) else some false) : Option (Bool)).bind fun w18 => (bif w18 then some (.inr (.inr (.inr (.inr 2)))) else (bif (((k : Int) == s14) && (v17 != 0)) then some (.inr (.inr (.inr (.inr 3)))) else some (.inl (addI .i64 s14 1)))) else some (.inr (.inl ()))) : Option ((Int) ⊕ ((Unit) ⊕ ((Int) ⊕ ((Unit) ⊕ Int))))))
        b.Most[k].length (by unfold fuel; omega) (fun j => ∀ i (h : i < b.Most[k].length), i < j → Ent b.Most[k][i])
        (fun r1 r2 => r1 = r2 ∧ ((∃ c, r1 = .inr (.inr (.inr c)) ∧ c ≠ 0) ∨ (r1 = .inl () ∧ ∀ i (h : i < b.Most[k].length), Ent b.Most[k][i]))) (by intro i _ h; omega) (by
        intro j hj hq
        by_cases hlj : j < b.Most[k].length
        · rw [cond_t (le_t (by omega)), cond_t (lt_t (by omega)), idx_lt hlj]
          simp only [Option.bind_some, bad_ref, bad_prog]
          cases hbad : bad b.Most[k][j]
          · simp only [cond_false]
            cases hd : ((k : Int) == (j : Int))
            · left
              simp only [cond_false, Option.bind_some, Bool.false_and]
              refine ⟨hlj, by rw [addI_nat (by omega)], by rw [addI_nat (by omega)], fun i hi hij => ?_⟩
              by_cases e : i = j
              · subst e; exact bad_false hbad
              · exact hq i hi (by omega)
            · simp only [cond_true, Option.bind_some, Bool.true_and]
              cases hz : (b.Most[k][j] != 0)
              · left
                simp only [cond_false]
                refine ⟨hlj, by rw [addI_nat (by omega)], by rw [addI_nat (by omega)], fun i hi hij => ?_⟩
                by_cases e : i = j
                · subst e; exact bad_false hbad
                · exact hq i hi (by omega)
              · right
                exact ⟨_, _, rfl, rfl, rfl, .inl ⟨3, rfl, by decide⟩⟩
          · right
            exact ⟨_, _, rfl, rfl, rfl, .inl ⟨2, rfl, by decide⟩⟩
        · right
          rw [cond_f (le_f (by omega)), cond_f (lt_f (by omega))]
          exact ⟨_, _, rfl, rfl, rfl, .inr ⟨rfl, fun i hi => hq i hi (by omega)⟩⟩)
      rw [e1, e2]
      obtain ⟨rfl, q⟩ := q
      rcases q with ⟨c, rfl, hc⟩ | ⟨rfl, q⟩
      · right
        exact ⟨_, _, rfl, rfl, rfl, .inl ⟨c, rfl, hc⟩⟩
      · left
        refine ⟨hlt, ?_, ?_, fun i hi hik => ?_⟩
        · simp only [Option.bind_some, Sum.elim_inl]; rw [addI_nat (by omega)]
        · simp only [Option.bind_some, Sum.elim_inl]; rw [addI_nat (by omega)]
        · by_cases e : i = k
          · subst e; exact q
          · exact hp i hi (by omega)
    · right
      rw [cond_f (le_f (by omega)), cond_f (lt_f (by omega))]
      exact ⟨_, _, rfl, rfl, rfl, .inr ⟨rfl, fun i hi => hp i hi (by omega)⟩⟩)
  rw [e1, e2]
  obtain ⟨rfl, q⟩ := q
  rcases q with ⟨c, rfl, hc⟩ | ⟨rfl, q⟩
  · exact ⟨c, rfl, rfl, fun h => (hc h).elim⟩
  · exact ⟨0, rfl, rfl, fun _ => ⟨by omega, by omega, h2', hrow, q⟩⟩
end G11
