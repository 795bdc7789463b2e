/- The checks of a sequence, joined. No condition. -/
import Derived.Test.YtoobbcmofleljaaDoorG18b
namespace G18
open Go Go.Pl

/-- lists as long as memory allows -/
def Small (s : SSequence) : Prop := s.Steps.length ≤ 9223372036854775807 ∧ ∀ x ∈ s.Steps, x.Strokes.length ≤ 9223372036854775807

theorem m37_eq (s : SSequence) (hs : Small s) : m37 s = some (chk s) := by
  unfold m37 chk
  by_cases h1 : s.Actuators < 1 ∨ 6 < s.Actuators
  · rw [cond_t (by simp only [Bool.or_eq_true, decide_eq_true_eq]; omega), if_pos h1]
  rw [cond_f (by simp only [Bool.or_eq_false_iff, decide_eq_false_iff_not]; omega), if_neg h1]
  by_cases h2 : s.Steps.length = 0
  · rw [cond_t (by simpa using h2), if_pos h2]
  rw [cond_f (by simpa using h2), if_neg h2]
  by_cases h3 : 64 < s.Steps.length
  · rw [cond_t (by simp; omega), if_pos h3]
  rw [cond_f (by simp; omega), if_neg h3, m62_eq s (by omega) (by omega) (by omega)]
  simp only [Option.bind_some]
  unfold seqE
  cases hf : first s.Steps.length (seqG s) with
  | some r =>
    have hr : r ≠ 0 := by
      unfold first at hf
      obtain ⟨k, _, hk⟩ := List.exists_of_findSome?_eq_some hf
      unfold seqG at hk
      split at hk
      · simp at hk
      · split at hk
        · rename_i h; injection hk with hk; rw [← hk]; exact h
        · simp at hk
    simp only
    rw [cond_t (by simpa using hr)]
  | none =>
    simp only
    by_cases h9 : (List.range s.Actuators.toNat).any (ends s s.Steps.length) = true
    · rw [if_pos h9, if_pos h9]; rfl
    rw [if_neg h9, if_neg h9, cond_f (by rfl)]
    rw [iter_list (List.range s.Actuators.toNat) (fun a => bif !moved s s.Steps.length a then some 13 else none) ?hn () ?h0 ?h ?he]
    case hn => unfold fuel; simp; omega
    case h0 => rfl
    case he =>
      try dsimp only
      rw [cond_f (lt_f (by simp; omega))]
    case h =>
      intro k hk
      have hk' : k < s.Actuators.toNat := by simpa using hk
      try dsimp only
      rw [cond_t (lt_t (by omega)), m63_eq s _ hs.1 hs.2]
      simp only [Option.bind_some, List.getElem_range]
      rw [addI_nat (by omega), moved_eq s k _ (Nat.le_refl _), List.take_of_length_le (Nat.le_refl _)]
      cases s.Steps.any fun x => hasA x (k : Int) <;> rfl
    rw [findSome_if]
    have : (List.range s.Actuators.toNat).any (fun a => !moved s s.Steps.length a) = !(List.range s.Actuators.toNat).all (moved s s.Steps.length) := by
      rw [List.not_all_eq_any_not]
    rw [this]
    cases (List.range s.Actuators.toNat).all (moved s s.Steps.length) <;> rfl

theorem mvs_take {l : List SStroke} {k : Nat} (h : k < l.length) (e : Nat → Bool) : mvs (l.take (k + 1)) e = fun a : Nat => if l[k].Actuator = (a : Int) then true else mvs (l.take k) e a := by
  unfold mvs
  rw [List.take_add_one, List.getElem?_eq_getElem h, List.foldl_append]
  rfl

theorem m61_eq (l : List Bool) (hl : l.length ≤ 6) : m61 l false = some (l.any fun b => b == false) := by
  unfold m61 m74
  rw [iter_first (fun k : Nat => (k : Int)) (fun k => match l[k]? with | some b => bif b == false then some (k : Int) else none | none => none) l.length ?hn () ?h0 ?h ?he]
  case hn => unfold fuel; omega
  case h0 => rfl
  case he =>
    intro _
    try dsimp only
    rw [cond_f (lt_f (by omega))]
  case h =>
    intro k hk _
    try dsimp only
    rw [cond_t (lt_t (by omega)), idx_lt hk, List.getElem?_eq_getElem hk]
    simp only [Option.bind_some]
    rw [addI_nat (by omega)]
    cases l[k] <;> rfl
  cases hf : first l.length (fun k => match l[k]? with | some b => bif b == false then some (k : Int) else none | none => none) with
  | none =>
    rw [first_none_iff] at hf
    have : (l.any fun b => b == false) = false := by
      rw [List.any_eq_false]
      intro b hb
      obtain ⟨k, hk, rfl⟩ := List.getElem_of_mem hb
      have := hf k hk
      rw [List.getElem?_eq_getElem hk] at this
      dsimp only at this
      intro hc
      rw [hc] at this
      simp at this
    rw [this]; rfl
  | some r =>
    unfold first at hf
    obtain ⟨k, hk, hr⟩ := List.exists_of_findSome?_eq_some hf
    have hk' : k < l.length := by simpa using hk
    rw [List.getElem?_eq_getElem hk'] at hr
    dsimp only at hr
    cases hb : l[k] == false with
    | false => rw [hb] at hr; simp at hr
    | true =>
      rw [hb] at hr
      simp only [cond_true, Option.some.injEq] at hr
      have : (l.any fun b => b == false) = true := by
        rw [List.any_eq_true]
        exact ⟨l[k], List.getElem_mem hk', hb⟩
      rw [this]
      subst hr
      simp only [Option.bind_some, Sum.elim_inr]
      simp

theorem m35_eq (s : SSequence) : m35 s = some (chk s) := by
  unfold m35 chk
  by_cases h1 : s.Actuators < 1 ∨ 6 < s.Actuators
  · rw [cond_t (by simp only [Bool.or_eq_true, decide_eq_true_eq]; omega), if_pos h1]
  rw [cond_f (by simp only [Bool.or_eq_false_iff, decide_eq_false_iff_not]; omega), if_neg h1]
  by_cases h2 : s.Steps.length = 0
  · rw [cond_t (by simpa using h2), if_pos h2]
  rw [cond_f (by simpa using h2), if_neg h2]
  by_cases h3 : 64 < s.Steps.length
  · rw [cond_t (by simp; omega), if_pos h3]
  rw [cond_f (by simp; omega), if_neg h3]
  rw [iter_first (fun k : Nat => (arrOf (ends s k), arrOf (moved s k), (k : Int))) (seqG s) s.Steps.length ?hn (arrOf (ends s s.Steps.length), arrOf (moved s s.Steps.length)) ?h0 ?h ?he]
  case hn => unfold fuel; omega
  case h0 => rfl
  case he =>
    intro _
    try dsimp only
    rw [cond_f (lt_f (by omega))]
  case h =>
    intro k hk hj
    try dsimp only
    rw [cond_t (lt_t (by omega)), idx_lt hk]
    simp only [Option.bind_some]
    rw [m59_eq]
    simp only [Option.bind_some]
    by_cases e0 : stE s s.Steps[k] (ends s k) = 0
    · have hg := seqG_zero hk e0
      obtain ⟨h4, _⟩ := seqG_none hk hg
      have hle := h4.ok.le
      rw [cond_f (by simpa using e0), hg, m60_eq _ _ h4.ok.le h4.ok.act]
      simp only [Option.bind_some]
      rw [iter_fold (fun i : Nat => (arrOf (mvs (s.Steps[k].Strokes.take i) (moved s k)), (i : Int))) s.Steps[k].Strokes.length ?hn (arrOf (moved s (k + 1))) ?h0 ?h ?he]
      case hn => unfold fuel; omega
      case h0 => rfl
      case he =>
        try dsimp only
        rw [cond_f (lt_f (by omega)), List.take_of_length_le (Nat.le_refl _), moved_succ hk]
      case h =>
        intro i hi
        try dsimp only
        obtain ⟨h5, h6⟩ := h4.ok.act i hi
        rw [cond_t (lt_t (by omega)), idx_lt hi]
        simp only [Option.bind_some]
        rw [arrOf_idx _ h5 h6]
        simp only [Option.bind_some]
        rw [arrOf_put _ _ _ h5, addI_nat (by omega), mvs_take hi]
      simp only [Option.bind_some]
      rw [addI_nat (by omega), ends_succ hk]
    · rw [cond_t (by simpa using e0), seqG_some hk rfl e0]
  cases hf : first s.Steps.length (seqG s) with
  | some r => rfl
  | none =>
    simp only [Option.bind_some, Sum.elim_inl]
    have hfar : ∀ a : Nat, s.Actuators ≤ a → ends s s.Steps.length a = false := fun a ha => ends_far ha _ (Nat.le_refl _) (fun j hj => (first_none_iff.1 hf) j hj)
    have he : ((arrOf (ends s s.Steps.length)).1 == (Arr.rep 6 false).1) = !(List.range s.Actuators.toNat).any (ends s s.Steps.length) := by
      have hz : ((arrOf (ends s s.Steps.length)).1 = (Arr.rep 6 false).1) ↔ (List.range s.Actuators.toNat).any (ends s s.Steps.length) = false := by
        rw [List.any_eq_false]
        constructor
        · intro h a ha
          have ha' : a < s.Actuators.toNat := List.mem_range.1 ha
          have := congrArg (fun l => l[a]?) h
          have h6 : a < 6 := by omega
          have h7 : (arrOf (ends s s.Steps.length)).1[a]? = some (ends s s.Steps.length a) := by
            simp only [arrOf, List.getElem?_map, List.getElem?_range h6, Option.map_some]
          have h8 : (Arr.rep 6 false).1[a]? = some false := by
            simp only [Arr.rep, List.getElem?_replicate, if_pos h6]
          simp only [h7, h8, Option.some.injEq] at this
          simp [this]
        · intro h
          apply List.ext_getElem
          · simp [arrOf, Arr.rep]
          · intro a h1 h2
            simp only [arrOf, Arr.rep, List.getElem_map, List.getElem_range, List.getElem_replicate]
            by_cases ha : a < s.Actuators.toNat
            · have := h a (List.mem_range.2 ha); simpa using this
            · exact hfar a (by omega)
      cases hb : (List.range s.Actuators.toNat).any (ends s s.Steps.length) with
      | false => rw [hz.2 hb]; simp
      | true =>
        rw [Bool.not_true, beq_eq_false_iff_ne]
        intro hc
        rw [hz.1 hc] at hb; simp at hb
    rw [he]
    by_cases h9 : (List.range s.Actuators.toNat).any (ends s s.Steps.length) = true
    · rw [if_pos h9, h9]; rfl
    · rw [if_neg h9]
      simp only [Bool.not_eq_true] at h9
      rw [h9]
      have hsl : slcc (arrOf (moved s s.Steps.length)).1 none (some s.Actuators) = some ((List.range s.Actuators.toNat).map (moved s s.Steps.length)) := by
        unfold slcc
        rw [if_pos ⟨by simp, by simp; omega, by simp [arrOf]; omega⟩]
        congr 1
        apply List.ext_getElem
        · simp [arrOf]; omega
        · intro i h1 h2; simp [arrOf]
      simp only [Bool.not_false, bne_self_eq_false, cond_false]
      rw [hsl]
      simp only [Option.bind_some]
      rw [m61_eq _ (by simp; omega)]
      simp only [Option.bind_some, List.any_map]
      have : (List.range s.Actuators.toNat).any ((fun b => b == false) ∘ moved s s.Steps.length) = !(List.range s.Actuators.toNat).all (moved s s.Steps.length) := by
        rw [List.not_all_eq_any_not]
        congr 1
        funext a
        simp
      rw [this]
      cases (List.range s.Actuators.toNat).all (moved s s.Steps.length) <;> rfl
end G18
