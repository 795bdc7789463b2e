/- Sets of actuators as numbers. No condition. -/
import Derived.Test.YtoobbcmofleljaaDoorG18c
namespace G18
open Go Go.Pl

structure Right (s : SSequence) : Prop where
  a1 : 1 ≤ s.Actuators
  a6 : s.Actuators ≤ 6
  n0 : 0 < s.Steps.length
  n64 : s.Steps.length ≤ 64
  step : ∀ i (h : i < s.Steps.length), StepIn s s.Steps[i]
  mv : ∀ a, a < s.Actuators.toNat → (s.Steps.any fun x => hasA x (a : Int)) = true

theorem chk_right {s : SSequence} (h : chk s = 0) : Right s := by
  unfold chk at h
  split at h
  · omega
  split at h
  · omega
  split at h
  · omega
  rename_i h1 h2 h3
  split at h
  · rename_i r hr
    exfalso
    subst h
    unfold first at hr
    obtain ⟨k, _, hk⟩ := List.exists_of_findSome?_eq_some hr
    unfold seqG at hk
    split at hk
    · simp at hk
    · split at hk
      · rename_i h; injection hk with hk; exact h hk
      · simp at hk
  · rename_i hf
    rw [first_none_iff] at hf
    split at h
    · omega
    split at h
    · rename_i hm
      refine ⟨by omega, by omega, by omega, by omega, fun i hi => (seqG_none hi (hf i hi)).1, fun a ha => ?_⟩
      rw [List.all_eq_true] at hm
      have := hm a (List.mem_range.2 ha)
      rw [moved_eq s a _ (Nat.le_refl _), List.take_of_length_le (Nat.le_refl _)] at this
      exact this
    · omega

def mask (l : List SStroke) : Nat := l.foldl (fun m y => m ||| 2 ^ y.Actuator.toNat) 0

theorem mask_take {l : List SStroke} {k : Nat} (h : k < l.length) : mask (l.take (k + 1)) = mask (l.take k) ||| 2 ^ l[k].Actuator.toNat := by
  unfold mask
  rw [List.take_add_one, List.getElem?_eq_getElem h, List.foldl_append]
  rfl

theorem mask_fold (l : List SStroke) (m : Nat) (a : Nat) : (l.foldl (fun m y => m ||| 2 ^ y.Actuator.toNat) m).testBit a = (m.testBit a || l.any fun y => y.Actuator.toNat == a) := by
  induction l generalizing m with
  | nil => simp
  | cons y l ih =>
    rw [List.foldl_cons, ih, List.any_cons, Nat.testBit_or, Nat.testBit_two_pow]
    cases m.testBit a <;> by_cases h : y.Actuator.toNat = a <;> simp [h]

theorem mask_bit (l : List SStroke) (a : Nat) : (mask l).testBit a = l.any fun y => y.Actuator.toNat == a := by
  unfold mask; rw [mask_fold]; simp

theorem mask_lt (l : List SStroke) (h : ∀ k (h : k < l.length), 0 ≤ l[k].Actuator ∧ l[k].Actuator < 6) : mask l < 64 := by
  refine Nat.lt_pow_two_of_testBit (n := 6) _ fun a ha => ?_
  rw [mask_bit, List.any_eq_false]
  intro y hy
  obtain ⟨k, hk, rfl⟩ := List.getElem_of_mem hy
  have := h k hk
  simp; omega

theorem bits_idx {a : Int} (h0 : 0 ≤ a) (h1 : a < 6) : idx ([1, 2, 4, 8, 16, 32] : List Int) a = some ((2 ^ a.toNat : Nat) : Int) := by
  have : a = 0 ∨ a = 1 ∨ a = 2 ∨ a = 3 ∨ a = 4 ∨ a = 5 := by omega
  rcases this with rfl | rfl | rfl | rfl | rfl | rfl <;> rfl

theorem m36_eq {x : SStep} (h : StepOk x) : m36 x = some (mask x.Strokes : Int) := by
  have hle := h.le
  unfold m36
  rw [iter_fold (fun k : Nat => ((mask (x.Strokes.take k) : Int), (k : Int))) x.Strokes.length ?hn (mask x.Strokes : Int) ?h0 ?h ?he]
  case hn => unfold fuel; omega
  case h0 => rfl
  case he =>
    try dsimp only
    rw [cond_f (lt_f (by omega)), List.take_of_length_le (Nat.le_refl _)]
  case h =>
    intro k hk
    try dsimp only
    obtain ⟨h1, h2⟩ := h.act k hk
    rw [cond_t (lt_t (by omega)), idx_lt hk]
    simp only [Option.bind_some]
    rw [bits_idx h1 h2]
    simp only [Option.bind_some]
    have hm : mask (x.Strokes.take k) < 64 := mask_lt _ fun i hi => by
      simp only [List.getElem_take]; exact h.act i (by simp at hi; omega)
    have hp : 2 ^ x.Strokes[k].Actuator.toNat < 18446744073709551616 := Nat.pow_lt_pow_right (a := 2) (by omega) (show x.Strokes[k].Actuator.toNat < 64 by omega)
    rw [orI_nat (by omega) hp, addI_nat (by omega), mask_take hk]
  rfl

def share (s : SSequence) (x y : SStep) : Bool := (List.range s.Actuators.toNat).any fun a => hasA x (a : Int) && hasA y (a : Int)

theorem hasA_bit {x : SStep} (h : StepOk x) (a : Nat) : hasA x (a : Int) = (mask x.Strokes).testBit a := by
  rw [mask_bit]
  unfold hasA
  rw [Bool.eq_iff_iff, List.any_eq_true, List.any_eq_true]
  constructor
  · rintro ⟨y, hy, e⟩
    refine ⟨y, hy, ?_⟩
    simp at e ⊢; omega
  · rintro ⟨y, hy, e⟩
    refine ⟨y, hy, ?_⟩
    obtain ⟨k, hk, rfl⟩ := List.getElem_of_mem hy
    have := h.act k hk
    simp at e ⊢; omega

theorem hasA_lt {s : SSequence} {x : SStep} (h : StepIn s x) {a : Nat} (ha : hasA x (a : Int) = true) : a < s.Actuators.toNat := by
  unfold hasA at ha
  rw [List.any_eq_true] at ha
  obtain ⟨y, hy, e⟩ := ha
  obtain ⟨k, hk, rfl⟩ := List.getElem_of_mem hy
  have := h.far k hk
  simp at e
  omega

theorem mask_and_zero {a b : Nat} : a &&& b = 0 ↔ ∀ i, ¬(a.testBit i = true ∧ b.testBit i = true) := by
  constructor
  · intro h i hi
    have := congrArg (fun n => n.testBit i) h
    simp [Nat.testBit_and, hi.1, hi.2] at this
  · intro h
    refine Nat.eq_of_testBit_eq fun i => ?_
    rw [Nat.testBit_and, Nat.zero_testBit]
    have := h i
    cases ha : a.testBit i <;> cases hb : b.testBit i <;> simp_all

theorem share_mask {s : SSequence} {x y : SStep} (hx : StepIn s x) (hy : StepIn s y) : share s x y = !decide (mask x.Strokes &&& mask y.Strokes = 0) := by
  rw [Bool.eq_iff_iff]
  unfold share
  rw [List.any_eq_true]
  simp only [Bool.not_eq_true', decide_eq_false_iff_not, mask_and_zero, Classical.not_forall, Classical.not_not]
  constructor
  · rintro ⟨a, _, h⟩
    rw [Bool.and_eq_true] at h
    exact ⟨a, by rw [← hasA_bit hx.ok]; exact h.1, by rw [← hasA_bit hy.ok]; exact h.2⟩
  · rintro ⟨a, h1, h2⟩
    rw [← hasA_bit hx.ok] at h1
    rw [← hasA_bit hy.ok] at h2
    exact ⟨a, List.mem_range.2 (hasA_lt hx h1), by rw [h1, h2]; rfl⟩

theorem m38_eq {s : SSequence} (h : Right s) {i j : Nat} (hi : i < s.Steps.length) (hj : j < s.Steps.length) : m38 s i j = some (share s s.Steps[i] s.Steps[j]) := by
  have hA := h.a6
  have l1 := (h.step i hi).ok.le
  have l2 := (h.step j hj).ok.le
  unfold m38
  rw [iter_list (List.range s.Actuators.toNat) (fun a => bif hasA s.Steps[i] (a : Int) && hasA s.Steps[j] (a : Int) then some true else none) ?hn () ?h0 ?h ?he]
  case hn => unfold fuel; simp; omega
  case h0 => rfl
  case he =>
    try dsimp only
    rw [cond_f (lt_f (by simp; omega))]
  case h =>
    intro k hk
    have hk' : k < s.Actuators.toNat := by simpa using hk
    try dsimp only
    rw [cond_t (lt_t (by omega)), idx_lt hi, idx_lt hj]
    simp only [Option.bind_some, List.getElem_range]
    rw [m53_eq _ _ (by omega), m53_eq _ _ (by omega), addI_nat (by omega)]
    simp only [Option.bind_some, way_ne]
    cases hasA s.Steps[i] (k : Int) <;> cases hasA s.Steps[j] (k : Int) <;> rfl
  rw [findSome_if]
  unfold share
  cases (List.range s.Actuators.toNat).any fun a => hasA s.Steps[i] (a : Int) && hasA s.Steps[j] (a : Int) <;> rfl

end G18
