/- Verify and Holds: the program and the reference agree; the law BoundsChecks in plain. No condition. -/
import Derived.Test.YteoiegapifoboaaG11b
namespace G11
open Go Go.Pl

theorem few_eq (b : SBounds) (hb : OkQ b) : ∃ r, m12 b = some r ∧ (r = true → b.Most.length ≤ 50) := by
  obtain ⟨c, hc, _, _⟩ := check_eq b hb
  obtain ⟨_, hl, hr⟩ := hb
  unfold m12
  cases h1 : (decide ((b.Most.length : Int) > 50))
  case true => exact ⟨false, rfl, fun h => by simp at h⟩
  have h1' : b.Most.length ≤ 50 := by simp at h1; omega
  simp only [cond_false]
  obtain ⟨r, e, q⟩ : ∃ r, iter (fun s2 : Int => ((bif (decide (s2 < (b.Most.length : Int))) then (idx b.Most s2).bind fun v5 => (bif (decide ((v5.length : Int) > 50)) then some (.inr (.inr false)) else some (.inl (addI .i64 s2 1))) else some (.inr (.inl ()))) : Option ((Int) ⊕ ((Unit) ⊕ Bool)))) 0 = some r ∧
      (r = .inr false ∨ r = .inl ()) := by
    refine iter_cnt b.Most.length (by unfold fuel; omega) (fun _ => True) _ trivial ?_
    intro k hk _
    by_cases hlt : k < b.Most.length
    · rw [cond_t (lt_t (by omega)), idx_lt hlt, Option.bind_some]
      cases h3 : (decide ((b.Most[k].length : Int) > 50))
      · exact .inl ⟨hlt, by rw [cond_false, addI_nat (by omega)], trivial⟩
      · exact .inr ⟨_, rfl, .inl rfl⟩
    · rw [cond_f (lt_f (by omega))]
      exact .inr ⟨_, rfl, .inr rfl⟩
  rw [e]
  rcases q with rfl | rfl
  · exact ⟨false, rfl, fun h => by simp at h⟩
  · simp only [Option.bind_some, Sum.elim_inl, hc]
    cases decide (b.N ≤ 5)
    · exact ⟨_, rfl, fun _ => h1'⟩
    · exact ⟨_, rfl, fun _ => h1'⟩

/-- the sum of the first numbers -/
def S (ev : Nat → Int) : Nat → Int
  | 0 => 0
  | k + 1 => S ev k + ev k

theorem verify_eq (b : SBounds) (l : List Int) (hb : OkQ b) (hl : OkR l) (h50 : l.length ≤ 50) : ∃ r, m29 b l = some r ∧ m17 b l = some r := by
  obtain ⟨c, hc, hc', hR⟩ := check_eq b hb
  unfold m29 m17
  simp only [hc, hc', Option.bind_some]
  cases h1 : (c != 0)
  case true => exact ⟨_, rfl, rfl⟩
  have R := hR (by simpa using h1)
  simp only [cond_false]
  cases h2 : ((l.length : Int) == 0)
  case true => exact ⟨_, rfl, rfl⟩
  have hl0 : 0 < l.length := by simp at h2; exact List.length_pos_iff.2 h2
  simp only [cond_false]
  obtain ⟨r1, r2, e1, e2, q⟩ := sim_cnt (b1 := fun s4 : Int => ((bif (decide (s4 < (l.length : Int))) then (idx l s4).bind fun v7 => (bif ((decide (v7 < 0)) || (decide (v7 > b.N))) then some (.inr (.inr (false, 2))) else some (.inl (addI .i64 s4 1))) else some (.inr (.inl ()))) : Option ((Int) ⊕ ((Unit) ⊕ (Bool × Int)))))
    (b2 := fun s4 : Int => ((bif (decide (s4 < (l.length : Int))) then (idx l s4).bind fun v7 => (m52 b v7).bind fun v8 => (bif (!v8) then some (.inr (.inr (false, 2))) else some (.inl (addI .i64 s4 1))) else some (.inr (.inl ()))) : Option ((Int) ⊕ ((Unit) ⊕ (Bool × Int)))))
    l.length (by unfold fuel; omega) (fun k => ∀ i (h : i < l.length), i < k → 0 ≤ l[i] ∧ l[i] ≤ b.N) (fun r1 r2 => r1 = r2 ∧ ((∃ x, r1 = .inr x) ∨ r1 = .inl () ∧ ∀ i (h : i < l.length), 0 ≤ l[i] ∧ l[i] ≤ b.N)) (by intro i _ h; omega) (by
    intro k hk hp
    by_cases hlt : k < l.length
    · simp only [lt_t (show (k : Int) < (l.length : Int) by omega), cond_true, idx_lt hlt, Option.bind_some, m52]
      by_cases hg : 0 ≤ l[k] ∧ l[k] ≤ b.N
      · left
        have g1 : decide (l[k] < 0) = false := by simp; omega
        have g2 : decide (l[k] > b.N) = false := by simp; omega
        have g3 : decide (l[k] ≥ 0) = true := by simp; omega
        have g4 : decide (l[k] ≤ b.N) = true := by simp; omega
        simp only [g1, g2, g3, g4, Bool.or_self, Bool.and_self, Bool.not_true, cond_false]
        refine ⟨hlt, by rw [addI_nat (by omega)], by rw [addI_nat (by omega)], fun i hi hik => ?_⟩
        by_cases e : i = k
        · subst e; exact hg
        · exact hp i hi (by omega)
      · right
        have g : (decide (l[k] < 0) || decide (l[k] > b.N)) = true := by simp; omega
        have g' : (decide (l[k] ≥ 0) && decide (l[k] ≤ b.N)) = false := by simp; omega
        simp only [g, g', Bool.not_false, cond_true]
        exact ⟨_, _, rfl, rfl, rfl, .inl ⟨_, rfl⟩⟩
    · right
      simp only [lt_f (show ¬ (k : Int) < (l.length : Int) by omega), cond_false]
      exact ⟨_, _, rfl, rfl, rfl, .inr ⟨rfl, fun i hi => hp i hi (by omega)⟩⟩)
  rw [e1, e2]
  obtain ⟨rfl, q⟩ := q
  rcases q with ⟨x, rfl⟩ | ⟨rfl, hin⟩
  · exact ⟨x, rfl, rfl⟩
  simp only [Option.bind_some, Sum.elim_inl, m53]
  -- the entry from one index of the cycle to the next one
  have hnx : ∀ k, k < l.length → (k + 1) % l.length < l.length := fun k _ => Nat.mod_lt _ hl0
  have hrow : ∀ x : Int, 0 ≤ x → x ≤ b.N → x.toNat < b.Most.length := fun x h0 h1 => by have := R.len; omega
  have key : ∀ k (hk : k < l.length), ∃ v : Int, Ent v ∧ ∃ row, idx b.Most l[k] = some row ∧ remc (addI .i64 (k : Int) 1) (l.length : Int) = some (((k + 1) % l.length : Nat) : Int) ∧ idx l (((k + 1) % l.length : Nat) : Int) = some (l[(k + 1) % l.length]'(hnx k hk)) ∧ idx row (l[(k + 1) % l.length]'(hnx k hk)) = some v := by
    intro k hk
    obtain ⟨g1, g2⟩ := hin k hk
    obtain ⟨g3, g4⟩ := hin _ (hnx k hk)
    have h1 := hrow _ g1 g2
    have h2 := R.row _ h1
    have h3 : (l[(k + 1) % l.length]'(hnx k hk)).toNat < b.Most[l[k].toNat].length := by omega
    refine ⟨b.Most[l[k].toNat][(l[(k + 1) % l.length]'(hnx k hk)).toNat], R.ent _ h1 _ h3, b.Most[l[k].toNat], ?_, ?_, idx_lt (hnx k hk), ?_⟩
    · unfold idx; rw [if_pos g1, List.getElem?_eq_getElem h1]
    · rw [addI_nat (by omega)]
      unfold remc
      rw [if_neg (by omega)]
      rfl
    · unfold idx; rw [if_pos g3, List.getElem?_eq_getElem h3]
  obtain ⟨ev, hev⟩ : ∃ ev : Nat → Int, ∀ k (hk : k < l.length), Ent (ev k) ∧ ∃ row, idx b.Most l[k] = some row ∧ remc (addI .i64 (k : Int) 1) (l.length : Int) = some (((k + 1) % l.length : Nat) : Int) ∧ idx l (((k + 1) % l.length : Nat) : Int) = some (l[(k + 1) % l.length]'(hnx k hk)) ∧ idx row (l[(k + 1) % l.length]'(hnx k hk)) = some (ev k) := by
    refine ⟨fun k => if hk : k < l.length then Classical.choose (key k hk) else 0, fun k hk => ?_⟩
    simp only [hk, dif_pos]
    exact Classical.choose_spec (key k hk)
  have hS : ∀ k, k ≤ l.length → (∀ i, i < k → ev i ≠ -1099511627776) → -64000000 * (k : Int) ≤ S ev k ∧ S ev k ≤ 64000000 * k := by
    intro k
    induction k with
    | zero => intro _ _; simp [S]
    | succ k ih =>
      intro hk hn
      obtain ⟨g1, g2⟩ := ih (by omega) fun i hi => hn i (by omega)
      have g3 := (hev k (by omega)).1
      have g4 := hn k (by omega)
      unfold Ent at g3
      simp only [S]
      omega
  obtain ⟨r1, e1, q1⟩ := iter_cnt1 (body := fun s11 : Int × Int => ((bif (decide (s11.1 < (l.length : Int))) then (idx l s11.1).bind fun v14 => (idx b.Most v14).bind fun v15 => (remc (addI .i64 s11.1 1) (l.length : Int)).bind fun v16 => (idx l v16).bind fun v17 => (idx v15 v17).bind fun v18 => (bif (v18 == (-1099511627776)) then some (.inr (.inr (false, 0))) else some (.inl ((addI .i64 s11.1 1), (addI .i64 s11.2 v18)))) else some (.inr (.inl s11.2))) : Option ((Int × Int) ⊕ ((Int) ⊕ (Bool × Int))))) (t0 := 0)
    l.length (by unfold fuel; omega) (fun k t => (∀ i, i < k → ev i ≠ -1099511627776) ∧ t = S ev k) (fun r => (r = .inl (S ev l.length) ∧ ∀ i, i < l.length → ev i ≠ -1099511627776) ∨ (r = .inr (false, 0) ∧ ∃ i, i < l.length ∧ ev i = -1099511627776)) ⟨by intro i h; omega, rfl⟩ (by
    rintro k t hk ⟨hn, rfl⟩
    by_cases hlt : k < l.length
    · obtain ⟨g0, row, g1, g2, g3, g4⟩ := hev k hlt
      simp only [lt_t (show (k : Int) < (l.length : Int) by omega), cond_true, idx_lt hlt, Option.bind_some, g1, g2, g3, g4]
      cases hz : (ev k == -1099511627776)
      · left
        have hz' : ev k ≠ -1099511627776 := by simpa using hz
        obtain ⟨g5, g6⟩ := hS k hk hn
        have g7 := g0
        unfold Ent at g7
        refine ⟨S ev (k + 1), hlt, ?_, fun i hi => ?_, rfl⟩
        · rw [cond_false, addI_nat (by omega), addI_eq (by omega) (by omega)]; rfl
        · by_cases e : i = k
          · subst e; exact hz'
          · exact hn i (by omega)
      · right
        exact ⟨_, rfl, .inr ⟨rfl, k, hlt, by simpa using hz⟩⟩
    · right
      have : k = l.length := by omega
      subst this
      simp only [lt_f (show ¬ (l.length : Int) < (l.length : Int) by omega), cond_false]
      exact ⟨_, rfl, .inl ⟨rfl, hn⟩⟩)
  obtain ⟨r2, e2, q2⟩ := iter_cnt2 (body := fun s1 : Int × Int => ((bif (decide (s1.2 < (l.length : Int))) then (idx l s1.2).bind fun v4 => (idx b.Most v4).bind fun v5 => (remc (addI .i64 s1.2 1) (l.length : Int)).bind fun v6 => (idx l v6).bind fun v7 => (idx v5 v7).bind fun v8 => (m88 s1.1 v8).bind fun v9 => some (.inl (v9, (addI .i64 s1.2 1))) else some (.inr s1.1)) : Option ((Int × Int) ⊕ (Int)))) (t0 := 0)
    l.length (by unfold fuel; omega) (fun k t => ((∀ i, i < k → ev i ≠ -1099511627776) ∧ t = S ev k) ∨ ((∃ i, i < k ∧ ev i = -1099511627776) ∧ t = -1099511627776)) (fun r => (r = S ev l.length ∧ ∀ i, i < l.length → ev i ≠ -1099511627776) ∨ (r = -1099511627776 ∧ ∃ i, i < l.length ∧ ev i = -1099511627776)) (.inl ⟨by intro i h; omega, rfl⟩) (by
    intro k t hk hp
    by_cases hlt : k < l.length
    · obtain ⟨g0, row, g1, g2, g3, g4⟩ := hev k hlt
      simp only [lt_t (show (k : Int) < (l.length : Int) by omega), cond_true, idx_lt hlt, Option.bind_some, g1, g2, g3, g4, m88]
      left
      rcases hp with ⟨hn, rfl⟩ | ⟨⟨i, hi, he⟩, rfl⟩
      · obtain ⟨g5, g6⟩ := hS k hk hn
        have g8 : (S ev k == -1099511627776) = false := by simp; omega
        cases hz : (ev k == -1099511627776)
        · have hz' : ev k ≠ -1099511627776 := by simpa using hz
          have g7 := g0
          unfold Ent at g7
          simp only [g8, Bool.or_self, cond_false, Option.bind_some]
          refine ⟨S ev (k + 1), hlt, ?_, .inl ⟨fun i hi => ?_, rfl⟩⟩
          · rw [addI_nat (by omega), addI_eq (by omega) (by omega)]; rfl
          · by_cases e : i = k
            · subst e; exact hz'
            · exact hn i (by omega)
        · simp only [Bool.or_true, cond_true, Option.bind_some]
          exact ⟨_, hlt, by rw [addI_nat (by omega)], .inr ⟨⟨k, by omega, by simpa using hz⟩, rfl⟩⟩
      · have g8 : ((-1099511627776 : Int) == -1099511627776) = true := rfl
        simp only [g8, Bool.true_or, cond_true, Option.bind_some]
        exact ⟨_, hlt, by rw [addI_nat (by omega)], .inr ⟨⟨i, by omega, he⟩, rfl⟩⟩
    · right
      have : k = l.length := by omega
      subst this
      simp only [lt_f (show ¬ (l.length : Int) < (l.length : Int) by omega), cond_false]
      refine ⟨_, rfl, ?_⟩
      rcases hp with ⟨hn, rfl⟩ | ⟨h, rfl⟩
      · exact .inl ⟨rfl, hn⟩
      · exact .inr ⟨rfl, h⟩)
  rw [e1, e2]
  rcases q1 with ⟨rfl, hn⟩ | ⟨rfl, i, hi, he⟩
  · rcases q2 with ⟨rfl, _⟩ | ⟨_, i, hi, he⟩
    · refine ⟨(decide (S ev l.length < 0), 0), rfl, ?_⟩
      have := hS l.length (Nat.le_refl _) hn
      have h3 : (S ev l.length != -1099511627776) = true := by simp; omega
      simp [h3]
    · exact (hn i hi he).elim
  · rcases q2 with ⟨rfl, hn⟩ | ⟨rfl, _⟩
    · exact (hn i hi he).elim
    · exact ⟨(false, 0), rfl, rfl⟩

theorem m39_eq (l : List Int) (hl : OkR l) : ∃ r, m39_66 l = some r ∧ (r = false → ∀ i (h : i < l.length), -64000000 ≤ l[i] ∧ l[i] ≤ 64000000) ∧ (r = true → ∃ i, ∃ h : i < l.length, ¬ (-64000000 ≤ l[i] ∧ l[i] ≤ 64000000)) := by
  unfold m39_66 m77_66
  obtain ⟨r, e, q⟩ : ∃ r, iter (fun s1 : Int => ((bif (decide (s1 < (l.length : Int))) then (idx l s1).bind fun v4 => (m66 v4).bind fun v5 => (bif v5 then some (.inr (.inr s1)) else some (.inl (addI .i64 s1 1))) else some (.inr (.inl ()))) : Option ((Int) ⊕ ((Unit) ⊕ Int)))) 0 = some r ∧
      ((∃ k : Nat, r = .inr (k : Int) ∧ ∃ h : k < l.length, ¬ (-64000000 ≤ l[k] ∧ l[k] ≤ 64000000)) ∨ (r = .inl () ∧ ∀ i (h : i < l.length), -64000000 ≤ l[i] ∧ l[i] ≤ 64000000)) := by
    have hl1 := hl.1; unfold mx at hl1
    refine iter_cnt l.length (by unfold fuel; omega) (fun k => ∀ i (h : i < l.length), i < k → -64000000 ≤ l[i] ∧ l[i] ≤ 64000000) _ (by intro i _ h; omega) ?_
    intro k hk hp
    by_cases hlt : k < l.length
    · simp only [lt_t (show (k : Int) < (l.length : Int) by omega), cond_true, idx_lt hlt, Option.bind_some, m66, m67_eq]
      by_cases hg : -64000000 ≤ l[k] ∧ l[k] ≤ 64000000
      · left
        simp only [hg, decide_true, Bool.not_true, cond_false, and_self]
        refine ⟨hlt, by rw [addI_nat (by omega)], fun i hi hik => ?_⟩
        by_cases e : i = k
        · subst e; exact hg
        · exact hp i hi (by omega)
      · right
        simp only [hg, decide_false, Bool.not_false, cond_true]
        exact ⟨_, rfl, .inl ⟨k, rfl, hlt, hg⟩⟩
    · right
      simp only [lt_f (show ¬ (k : Int) < (l.length : Int) by omega), cond_false]
      exact ⟨_, rfl, .inr ⟨rfl, fun i hi => hp i hi (by omega)⟩⟩
  rw [e]
  rcases q with ⟨k, rfl, h, hg⟩ | ⟨rfl, hn⟩
  · refine ⟨true, ?_, by simp, fun _ => ⟨k, h, hg⟩⟩
    simp
  · exact ⟨false, rfl, fun _ => hn, by simp⟩
end G11
