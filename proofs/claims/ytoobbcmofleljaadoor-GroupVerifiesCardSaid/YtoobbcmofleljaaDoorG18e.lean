/- GroupVerifies: the program and the reference agree. No condition. -/
import Derived.Test.YtoobbcmofleljaaDoorG18d
import Derived.Test.YtoobbcmofleljaaDoorG18a
namespace G18
open Go Go.Pl

theorem m13_loop (s : SSequence) (h : Right s) (l : List (Int × Int)) (hl : l.length ≤ 64) : m13 s l = (m35 s).bind fun v1 => (bif (v1 != 0) then some (0, v1) else (bif (decide ((l.length : Int) > (s.Steps.length : Int))) then some (0, 5) else
    match first l.length (pairG s l) with | some r => some r | none => some ((addI .i64 (l.length : Int) 1), 0))) := by
  unfold m13
  congr 1
  funext v1
  congr 1
  congr 1
  rw [iter_first (fun k : Nat => ((k : Int), if h : 0 < k ∧ k - 1 < l.length then l[k - 1].2 else 0)) (pairG s l) l.length ?hn () ?h0 ?h ?he]
  case hn => unfold fuel; omega
  case h0 => rfl
  case he =>
    intro _
    try dsimp only
    rw [cond_f (lt_f (by omega))]
  case h =>
    intro k hk _
    try dsimp only
    have hnext : ∀ h, (if h : 0 < k + 1 ∧ k + 1 - 1 < l.length then l[k + 1 - 1].2 else 0) = (l[k]'h).2 := by
      intro h; rw [dif_pos ⟨by omega, by omega⟩]; rfl
    rw [cond_t (lt_t (by omega)), idx_lt hk]
    simp only [Option.bind_some]
    unfold pairG
    rw [dif_pos hk]
    by_cases h2 : 0 ≤ l[k].1 ∧ l[k].1 < s.Steps.length ∧ 0 ≤ l[k].2 ∧ l[k].2 < s.Steps.length
    · have hmin : 0 ≤ minI l[k].1 l[k].2 := by unfold minI; split <;> omega
      have hmax : maxI l[k].1 l[k].2 < s.Steps.length := by unfold maxI; split <;> omega
      rw [dif_pos h2, cond_f (by simp only [Bool.or_eq_false_iff, decide_eq_false_iff_not]; omega)]
      have e1 : l[k].1 = ((l[k].1.toNat : Nat) : Int) := by omega
      have e2 : l[k].2 = ((l[k].2.toNat : Nat) : Int) := by omega
      have i1 := h.step l[k].1.toNat (by omega)
      have i2 := h.step l[k].2.toNat (by omega)
      have x1 : idx s.Steps l[k].1 = some (s.Steps[l[k].1.toNat]'(by omega)) := by conv => lhs; rw [e1, idx_lt (show l[k].1.toNat < s.Steps.length by omega)]
      have x2 : idx s.Steps l[k].2 = some (s.Steps[l[k].2.toNat]'(by omega)) := by conv => lhs; rw [e2, idx_lt (show l[k].2.toNat < s.Steps.length by omega)]
      have b1 := mask_lt _ i1.ok.act
      have b2 := mask_lt _ i2.ok.act
      have fin : (((idx s.Steps l[k].1).bind fun v15 => (m36 v15).bind fun v16 => (idx s.Steps l[k].2).bind fun v17 => (m36 v17).bind fun v18 => (bif ((andI .u64 v16 v18) == 0) then some (.inr (.inr (0, 15))) else some (.inl ((addI .i64 (k : Int) 1), l[k].2)))) : Option ((Int × Int) ⊕ ((Unit) ⊕ (Int × Int)))) =
          some (if share s (s.Steps[l[k].1.toNat]'(by omega)) (s.Steps[l[k].2.toNat]'(by omega)) = true then .inl (((k + 1 : Nat) : Int), l[k].2) else .inr (.inr (0, 15))) := by
        rw [x1, x2]
        simp only [Option.bind_some]
        rw [m36_eq i1.ok, m36_eq i2.ok]
        simp only [Option.bind_some]
        rw [andI_nat (by omega) (by omega), addI_nat (by omega), share_mask i1 i2]
        by_cases hz : mask (s.Steps[l[k].1.toNat]'(by omega)).Strokes &&& mask (s.Steps[l[k].2.toNat]'(by omega)).Strokes = 0
        · rw [hz]; rfl
        · rw [cond_f (by simp; omega), if_pos (by simpa using hz)]
      rw [fin, hnext hk]
      by_cases hk0 : k = 0
      · subst hk0
        by_cases h3 : l[0].1 ≥ l[0].2
        · rw [cond_t (by simp; omega), if_pos (.inl (by omega))]
        · rw [if_neg (c := l[0].2 ≤ l[0].1 ∨ (0 < 0 ∧ l[0].1 < l[0 - 1].2)) (by omega), cond_f (by simp; omega)]
          by_cases hs : share s (s.Steps[l[0].1.toNat]'(by omega)) (s.Steps[l[0].2.toNat]'(by omega)) = true
          · rw [if_pos hs, if_pos hs]
          · rw [if_neg hs, if_neg hs]
      · rw [dif_pos ⟨by omega, by omega⟩]
        by_cases h3 : l[k].1 ≥ l[k].2
        · rw [cond_t (by simp; omega), if_pos (.inl (by omega))]
        · by_cases h4 : l[k].1 < l[k - 1].2
          · rw [cond_t (by simp; omega), if_pos (.inr ⟨by omega, h4⟩)]
          · rw [if_neg (c := l[k].2 ≤ l[k].1 ∨ (0 < k ∧ l[k].1 < l[k - 1].2)) (by omega), cond_f (by simp; omega)]
            by_cases hs : share s (s.Steps[l[k].1.toNat]'(by omega)) (s.Steps[l[k].2.toNat]'(by omega)) = true
            · rw [if_pos hs, if_pos hs]
            · rw [if_neg hs, if_neg hs]
    · have hmin : minI l[k].1 l[k].2 < 0 ∨ maxI l[k].1 l[k].2 ≥ s.Steps.length := by
        unfold minI maxI; split <;> split <;> omega
      rw [dif_neg h2, cond_t (by simp only [Bool.or_eq_true, decide_eq_true_eq]; omega)]
  cases first l.length (pairG s l) <;> rfl

theorem verify_eq (s : SSequence) (hs : Small s) (l : List (Int × Int)) (hl : l.length ≤ 9223372036854775807) : ∃ r, m13 s l = some r ∧ m14 s l = some r := by
  by_cases h0 : chk s = 0
  · have hr := chk_right h0
    by_cases h1 : l.length ≤ s.Steps.length
    · have hn := hr.n64
      rw [m13_loop s hr l (by omega), m14_loop s hr l (by omega), m35_eq, m37_eq s hs, h0]
      have hz : ((0 : Int) != 0) = false := rfl
      have hd : decide ((l.length : Int) > (s.Steps.length : Int)) = false := by simp; omega
      simp only [Option.bind_some, hz, hd, cond_false]
      cases first l.length (pairG s l) with
      | some r => exact ⟨r, rfl, rfl⟩
      | none => exact ⟨_, rfl, rfl⟩
    · unfold m13 m14
      rw [m35_eq, m37_eq s hs, h0]
      have hz : ((0 : Int) != 0) = false := rfl
      have hd : decide ((l.length : Int) > (s.Steps.length : Int)) = true := by simp; omega
      simp only [Option.bind_some, hz, hd, cond_false, cond_true]
      exact ⟨_, rfl, rfl⟩
  · unfold m13 m14
    rw [m35_eq, m37_eq s hs]
    have hz : (chk s != 0) = true := by simpa using h0
    simp only [Option.bind_some, hz, cond_true]
    exact ⟨_, rfl, rfl⟩

theorem m11_eq (s : SSequence) (hs : Small s) : ∃ b, m11 s = some b := by
  unfold m11
  by_cases h : s.Steps.length > 128
  · rw [cond_t (by simp; omega)]; exact ⟨_, rfl⟩
  · rw [cond_f (by simp; omega)]
    rw [iter_list s.Steps (fun x => bif decide ((x.Strokes.length : Int) > 40) then some false else none) ?hn () ?h0 ?h ?he]
    case hn => unfold fuel; omega
    case h0 => rfl
    case he =>
      try dsimp only
      rw [cond_f (lt_f (by omega))]
    case h =>
      intro k hk
      try dsimp only
      rw [cond_t (lt_t (by omega)), idx_lt hk]
      simp only [Option.bind_some]
      rw [addI_nat (by omega)]
      cases decide ((s.Steps[k].Strokes.length : Int) > 40) <;> rfl
    rw [findSome_if]
    cases s.Steps.any fun x => decide ((x.Strokes.length : Int) > 40) <;> exact ⟨_, rfl⟩

theorem plain3 (s : SSequence) (hs : Small s) (l : List (Int × Int)) (hl : l.length ≤ 9223372036854775807) : m3 s l = some true := by
  unfold m3
  obtain ⟨b, hb⟩ := m11_eq s hs
  rw [hb]
  simp only [Option.bind_some]
  have fin : ((m12).bind fun v5 => some v5) = some true := by rw [awake_run]; rfl
  have e : ∀ c : Bool, ((bif c then some true else some (decide ((l.length : Int) > 200))) : Option Bool) = some (c || decide ((l.length : Int) > 200)) := by intro c; cases c <;> rfl
  rw [e]
  simp only [Option.bind_some]
  cases (!b || decide ((l.length : Int) > 200)) with
  | true => exact fin
  | false =>
    obtain ⟨r, e1, e2⟩ := verify_eq s hs l hl
    rw [cond_false, e1, e2]
    simp only [Option.bind_some, beq_self_eq_true, cond_true]
    rw [fin]; rfl
end G18
