/- Spans and slots, in plain words. No condition. -/
import Derived.Test.YtiicggigpcfefaaG17M
import Derived.Test.YtiicggigpcfefaaAmP2
import Derived.KernelRfl
namespace G17
open Go Go.Pl

theorem sub_nat {k : Nat} (h : 0 < k) (h2 : k < 9223372036854775807) : subI .i64 (k : Int) 1 = ((k - 1 : Nat) : Int) := by rw [subI_eq (by omega) (by omega)]; omega

def stepG (l : List SStroke) (k : Nat) : Option Int :=
  match l[k]? with
  | none => none
  | some x => if ¬(0 ≤ x.Actuator ∧ x.Actuator < 6) then some 2 else if k = 0 then none else match l[k - 1]? with
     | none => none
     | some y => if x.Actuator = y.Actuator then some 7 else if x.Actuator < y.Actuator then some 9 else none

def stepE (x : SStep) : Int := if x.Strokes.length = 0 then 13 else if 6 < x.Strokes.length then 5 else
  match first x.Strokes.length (stepG x.Strokes) with | some r => r | none => if 0 ≤ x.Wait ∧ x.Wait ≤ 1000000 then 0 else 2

theorem m81_eq (x : SStep) : m81 x = some (stepE x) := by
  unfold m81 stepE
  by_cases h1 : x.Strokes.length = 0
  · rw [cond_t (by simpa using h1), if_pos h1]
  rw [cond_f (by simpa using h1), if_neg h1]
  by_cases h2 : 6 < x.Strokes.length
  · rw [cond_t (by simp; omega), if_pos h2]
  rw [cond_f (by simp; omega), if_neg h2]
  rw [iter_first (fun k : Nat => (k : Int)) (stepG x.Strokes) x.Strokes.length ?hn () ?h0 ?h ?he]
  case hn => unfold fuel; omega
  case h0 => rfl
  case he =>
    intro _
    try dsimp only
    rw [cond_f (lt_f (by omega))]
  case h =>
    intro k hk _
    try dsimp only
    rw [cond_t (lt_t (by omega)), idx_lt hk]
    simp only [Option.bind_some, m85]
    unfold stepG
    rw [List.getElem?_eq_getElem hk]
    dsimp only
    by_cases hA : 0 ≤ x.Strokes[k].Actuator ∧ x.Strokes[k].Actuator < 6
    · rw [if_neg (by simpa using hA), cond_f (by simp [hA])]
      by_cases hk0 : k = 0
      · subst hk0
        simp; rfl
      · rw [if_neg hk0, sub_nat (by omega) (by omega), idx_lt (show k - 1 < x.Strokes.length by omega), List.getElem?_eq_getElem (show k - 1 < x.Strokes.length by omega)]
        have hk1 : decide ((k : Int) > 0) = true := by simp; omega
        simp only [hk1, cond_true, Option.bind_some]
        by_cases h3 : x.Strokes[k].Actuator = x.Strokes[k - 1].Actuator
        · simp [h3]
        · by_cases h4 : x.Strokes[k].Actuator < x.Strokes[k - 1].Actuator
          · rw [if_neg h3, if_pos h4, cond_f (by simpa using h3), cond_t (lt_t h4)]
          · rw [if_neg h3, if_neg h4, cond_f (by simpa using h3), cond_f (lt_f h4), addI_nat (by omega)]
    · rw [if_pos (by simpa using hA), cond_t]
      simp only [Bool.not_eq_true', Bool.and_eq_false_iff, decide_eq_false_iff_not]
      omega
  cases first x.Strokes.length (stepG x.Strokes) with
  | some r => rfl
  | none =>
    simp only [Option.bind_some, Sum.elim_inl, m74]
    by_cases hw : 0 ≤ x.Wait ∧ x.Wait ≤ 1000000
    · rw [if_pos hw, cond_f (by simp [hw])]
    · rw [if_neg hw, cond_t]
      simp only [Bool.not_eq_true', Bool.and_eq_false_iff, decide_eq_false_iff_not]
      omega

theorem m79_eq (x : SStep) : m79 x = some (stepE x) := by
  unfold m79 stepE
  by_cases h1 : x.Strokes.length = 0
  · rw [cond_t (by simpa using h1), if_pos h1]
  rw [cond_f (by simpa using h1), if_neg h1]
  by_cases h2 : 6 < x.Strokes.length
  · rw [cond_t (by simp; omega), if_pos h2]
  rw [cond_f (by simp; omega), if_neg h2]
  rw [iter_first (fun k : Nat => ((k : Int), if h : 0 < k ∧ k - 1 < x.Strokes.length then x.Strokes[k - 1].Actuator else -1)) (stepG x.Strokes) x.Strokes.length ?hn () ?h0 ?h ?he]
  case hn => unfold fuel; omega
  case h0 => rfl
  case he =>
    intro _
    try dsimp only
    rw [cond_f (lt_f (by omega))]
  case h =>
    intro k hk _
    try dsimp only
    rw [cond_t (lt_t (by omega)), idx_lt hk]
    simp only [Option.bind_some, m84]
    unfold stepG
    rw [List.getElem?_eq_getElem hk]
    dsimp only
    have hnext : ∀ h, (if h : 0 < k + 1 ∧ k + 1 - 1 < x.Strokes.length then x.Strokes[k + 1 - 1].Actuator else -1) = (x.Strokes[k]'h).Actuator := by
      intro h; rw [dif_pos ⟨by omega, by omega⟩]; rfl
    by_cases hA : 0 ≤ x.Strokes[k].Actuator ∧ x.Strokes[k].Actuator < 6
    · rw [if_neg (by simpa using hA), cond_f (by simp [hA])]
      by_cases hk0 : k = 0
      · subst hk0
        rw [if_pos rfl, dif_neg (by omega), cond_f (by simp; omega), cond_f (by simp; omega), hnext hk, addI_nat (by omega)]
      · rw [if_neg hk0, dif_pos ⟨by omega, by omega⟩, List.getElem?_eq_getElem (show k - 1 < x.Strokes.length by omega)]
        dsimp only
        by_cases h3 : x.Strokes[k].Actuator = x.Strokes[k - 1].Actuator
        · simp [h3]
        · by_cases h4 : x.Strokes[k].Actuator < x.Strokes[k - 1].Actuator
          · rw [if_neg h3, if_pos h4, cond_f (by simpa using h3), cond_t (lt_t h4)]
          · rw [if_neg h3, if_neg h4, cond_f (by simpa using h3), cond_f (lt_f h4), hnext hk, addI_nat (by omega)]
    · rw [if_pos (by simpa using hA), cond_t]
      simp only [Bool.not_eq_true', Bool.and_eq_false_iff, decide_eq_false_iff_not]
      omega
  cases first x.Strokes.length (stepG x.Strokes) with
  | some r => rfl
  | none =>
    simp only [Option.bind_some, Sum.elim_inl]
    by_cases hw : 0 ≤ x.Wait ∧ x.Wait ≤ 1000000
    · rw [if_pos hw, cond_f (by simp; omega)]
    · rw [if_neg hw, cond_t (by simp; omega)]

structure StepOk (x : SStep) : Prop where
  pos : 0 < x.Strokes.length
  le : x.Strokes.length ≤ 6
  act : ∀ k (h : k < x.Strokes.length), 0 ≤ x.Strokes[k].Actuator ∧ x.Strokes[k].Actuator < 6
  inc : ∀ k (h : k + 1 < x.Strokes.length), x.Strokes[k].Actuator < x.Strokes[k + 1].Actuator
  wait : 0 ≤ x.Wait ∧ x.Wait ≤ 1000000

theorem stepE_ok {x : SStep} (h : stepE x = 0) : StepOk x := by
  unfold stepE at h
  split at h
  · omega
  split at h
  · omega
  rename_i h1 h2
  split at h
  · rename_i r hr
    exfalso
    unfold first at hr
    obtain ⟨k, _, hk⟩ := List.exists_of_findSome?_eq_some hr
    subst h
    unfold stepG at hk
    split at hk
    · simp at hk
    · split at hk
      · simp at hk
      · split at hk
        · simp at hk
        · split at hk
          · simp at hk
          · split at hk
            · simp at hk
            · split at hk <;> simp at hk
  · rename_i hr
    rw [first_none_iff] at hr
    have ha : ∀ k (h : k < x.Strokes.length), 0 ≤ x.Strokes[k].Actuator ∧ x.Strokes[k].Actuator < 6 := by
      intro k hk
      have := hr k hk
      unfold stepG at this
      rw [List.getElem?_eq_getElem hk] at this
      dsimp only at this
      refine Classical.byContradiction fun hc => ?_
      rw [if_pos hc] at this
      simp at this
    refine ⟨by omega, by omega, ha, fun k hk => ?_, ?_⟩
    · have := hr (k + 1) hk
      unfold stepG at this
      rw [List.getElem?_eq_getElem hk, Nat.add_sub_cancel, List.getElem?_eq_getElem (show k < x.Strokes.length by omega)] at this
      dsimp only at this
      rw [if_neg (by simpa using ha (k + 1) hk), if_neg (by omega)] at this
      by_cases e : x.Strokes[k + 1].Actuator = x.Strokes[k].Actuator
      · rw [if_pos e] at this; simp at this
      · rw [if_neg e] at this
        by_cases e2 : x.Strokes[k + 1].Actuator < x.Strokes[k].Actuator
        · rw [if_pos e2] at this; simp at this
        · omega
    · by_cases hw : 0 ≤ x.Wait ∧ x.Wait ≤ 1000000
      · exact hw
      · rw [if_neg hw] at h; omega

/- what the strokes of a step do -/
def upd (l : List SStroke) (e : Nat → Bool) : Nat → Bool := l.foldl (fun e y => fun a => if y.Actuator = (a : Int) then y.Out else e a) e

theorem upd_take {l : List SStroke} {k : Nat} (h : k < l.length) (e : Nat → Bool) : upd (l.take (k + 1)) e = fun a : Nat => if l[k].Actuator = (a : Int) then l[k].Out else upd (l.take k) e a := by
  unfold upd
  rw [List.take_add_one, List.getElem?_eq_getElem h, List.foldl_append]
  rfl

theorem map_set (n : Nat) (e : Nat → Bool) (a : Int) (v : Bool) (h0 : 0 ≤ a) : ((List.range n).map e).set a.toNat v = (List.range n).map (fun b : Nat => if a = (b : Int) then v else e b) := by
  apply List.ext_getElem
  · simp
  · intro i h1 h2
    simp at h1
    simp only [List.getElem_set, List.getElem_map, List.getElem_range]
    by_cases hi : a.toNat = i
    · rw [if_pos hi, if_pos (by omega)]
    · rw [if_neg hi, if_neg (by omega)]

theorem m83_eq (x : SStep) (n : Nat) (hn : n ≤ 6) (e : Nat → Bool) (hx : x.Strokes.length ≤ 6) (ha : ∀ k (h : k < x.Strokes.length), 0 ≤ x.Strokes[k].Actuator ∧ x.Strokes[k].Actuator < n) :
    m83 x ((List.range n).map e) = some ((List.range n).map (upd x.Strokes e)) := by
  unfold m83
  rw [appc_eq (by simp; omega) (by simp; omega)]
  simp only [Option.bind_some, List.nil_append]
  rw [iter_fold (fun k : Nat => ((List.range n).map (upd (x.Strokes.take k) e), (k : Int))) x.Strokes.length ?hn ((List.range n).map (upd x.Strokes e)) ?h0 ?h ?he]
  case hn => unfold fuel; omega
  case h0 => rfl
  case he =>
    try dsimp only
    rw [cond_f (lt_f (by omega)), List.take_of_length_le (Nat.le_refl _)]
  case h =>
    intro k hk
    try dsimp only
    obtain ⟨h1, h2⟩ := ha k hk
    rw [cond_t (lt_t (by omega)), idx_lt hk]
    simp only [Option.bind_some]
    obtain ⟨h3, h4⟩ := idx_int (l := (List.range n).map (upd (x.Strokes.take k) e)) h1 (by simpa using h2)
    rw [h4]
    simp only [Option.bind_some]
    rw [map_set _ _ _ _ h1, addI_nat (by omega), upd_take hk]
  rfl

def arrOf (e : Nat → Bool) : Arr 6 Bool := ⟨(List.range 6).map e, by simp⟩
theorem arrOf_put (e : Nat → Bool) (a : Int) (v : Bool) (h : 0 ≤ a) : (arrOf e).put a.toNat v = arrOf (fun b : Nat => if a = (b : Int) then v else e b) := Subtype.ext (map_set 6 e a v h)
theorem arrOf_idx (e : Nat → Bool) {a : Int} (h : 0 ≤ a) (h2 : a < 6) : aidx (arrOf e) a = some (e a.toNat) := by
  unfold aidx idx
  rw [if_pos h]
  have : a.toNat < 6 := by omega
  simp [arrOf, this]

theorem m66_eq (x : SStep) (e : Nat → Bool) (hx : x.Strokes.length ≤ 6) (ha : ∀ k (h : k < x.Strokes.length), 0 ≤ x.Strokes[k].Actuator ∧ x.Strokes[k].Actuator < 6) :
    m66 (arrOf e) x = some (arrOf (upd x.Strokes e)) := by
  unfold m66
  rw [iter_fold (fun k : Nat => (arrOf (upd (x.Strokes.take k) e), (k : Int))) x.Strokes.length ?hn (arrOf (upd x.Strokes e)) ?h0 ?h ?he]
  case hn => unfold fuel; omega
  case h0 => rfl
  case he =>
    try dsimp only
    rw [cond_f (lt_f (by omega)), List.take_of_length_le (Nat.le_refl _)]
  case h =>
    intro k hk
    try dsimp only
    obtain ⟨h1, h2⟩ := ha k hk
    rw [cond_t (lt_t (by omega)), idx_lt hk]
    simp only [Option.bind_some]
    rw [arrOf_idx _ h1 h2]
    simp only [Option.bind_some]
    rw [arrOf_put _ _ _ h1, addI_nat (by omega), upd_take hk]
  rfl

/-- does a stroke go where its actuator is? -/
def clash (x : SStep) (e : Nat → Bool) : Bool := x.Strokes.any fun y => e y.Actuator.toNat == y.Out

theorem m82_eq (x : SStep) (n : Nat) (hn : n ≤ 6) (e : Nat → Bool) (hx : x.Strokes.length ≤ 6) (ha : ∀ k (h : k < x.Strokes.length), 0 ≤ x.Strokes[k].Actuator ∧ x.Strokes[k].Actuator < n) :
    m82 x ((List.range n).map e) = some (!clash x e) := by
  unfold m82
  rw [iter_list x.Strokes (fun y => bif e y.Actuator.toNat == y.Out then some false else none) ?hn () ?h0 ?h ?he]
  case hn => unfold fuel; omega
  case h0 => rfl
  case he =>
    try dsimp only
    rw [cond_f (lt_f (by omega))]
  case h =>
    intro k hk
    try dsimp only
    obtain ⟨h1, h2⟩ := ha k hk
    rw [cond_t (lt_t (by omega)), idx_lt hk]
    simp only [Option.bind_some]
    obtain ⟨h3, h4⟩ := idx_int (l := (List.range n).map e) h1 (by simpa using h2)
    rw [cond_f (by simp; omega), h4]
    simp only [Option.bind_some, List.getElem_map, List.getElem_range]
    rw [addI_nat (by omega)]
    cases e x.Strokes[k].Actuator.toNat == x.Strokes[k].Out <;> rfl
  rw [findSome_if]
  unfold clash
  cases x.Strokes.any fun y => e y.Actuator.toNat == y.Out <;> rfl

def far (s : SSequence) (x : SStep) : Bool := x.Strokes.any fun y => decide (y.Actuator ≥ s.Actuators)
theorem far_f {s : SSequence} {x : SStep} (h : far s x = false) : ∀ k (h : k < x.Strokes.length), x.Strokes[k].Actuator < s.Actuators := by
  intro k hk
  unfold far at h
  rw [List.any_eq_false] at h
  have := h x.Strokes[k] (List.getElem_mem hk)
  simp at this; omega

/-- what is wrong with a step, when the actuators are where e says -/
def stE (s : SSequence) (x : SStep) (e : Nat → Bool) : Int := if stepE x ≠ 0 then stepE x else if far s x = true then 6 else if clash x e = true then 14 else 0

theorem m65_eq (s : SSequence) (x : SStep) (e : Nat → Bool) : m65 s x (arrOf e) = some (stE s x e) := by
  unfold m65 stE
  rw [m79_eq]
  simp only [Option.bind_some]
  by_cases h0 : stepE x = 0
  · have ho := stepE_ok h0
    rw [cond_f (by simpa using h0), if_neg (by simpa using h0)]
    have hlen := ho.le
    rw [iter_list x.Strokes (fun y => bif decide (y.Actuator ≥ s.Actuators) then some 6 else none) ?hn () ?h0 ?h ?he]
    case hn => unfold fuel; omega
    case h0 => rfl
    case he =>
      try dsimp only
      rw [cond_f (lt_f (by omega))]
    case h =>
      intro k hk
      try dsimp only
      rw [cond_t (lt_t (by omega)), idx_lt hk]
      simp only [Option.bind_some]
      rw [addI_nat (by omega)]
      cases decide (x.Strokes[k].Actuator ≥ s.Actuators) <;> rfl
    rw [findSome_if]
    unfold far
    cases hf : x.Strokes.any fun y => decide (y.Actuator ≥ s.Actuators) with
    | true => rfl
    | false =>
      simp only [cond_false, Option.bind_some, Sum.elim_inl, Bool.false_eq_true, if_false]
      rw [iter_list x.Strokes (fun y => bif e y.Actuator.toNat == y.Out then some 14 else none) ?hn () ?h0 ?h ?he]
      case hn => unfold fuel; omega
      case h0 => rfl
      case he =>
        try dsimp only
        rw [cond_f (lt_f (by omega))]
      case h =>
        intro k hk
        try dsimp only
        obtain ⟨h1, h2⟩ := ho.act k hk
        rw [cond_t (lt_t (by omega)), idx_lt hk]
        simp only [Option.bind_some]
        rw [arrOf_idx _ h1 h2, addI_nat (by omega)]
        simp only [Option.bind_some]
        cases e x.Strokes[k].Actuator.toNat == x.Strokes[k].Out <;> rfl
      rw [findSome_if]
      unfold clash
      cases x.Strokes.any fun y => e y.Actuator.toNat == y.Out <;> rfl
  · rw [cond_t (by simpa using h0), if_pos h0]

/-- where the actuators are behind k steps -/
def ends (s : SSequence) (k : Nat) : Nat → Bool := (s.Steps.take k).foldl (fun e x => upd x.Strokes e) (fun _ => false)
theorem ends_succ {s : SSequence} {k : Nat} (h : k < s.Steps.length) : ends s (k + 1) = upd s.Steps[k].Strokes (ends s k) := by
  unfold ends
  rw [List.take_add_one, List.getElem?_eq_getElem h, List.foldl_append]
  rfl
def mvs (l : List SStroke) (e : Nat → Bool) : Nat → Bool := l.foldl (fun e y => fun a => if y.Actuator = (a : Int) then true else e a) e
def moved (s : SSequence) (k : Nat) : Nat → Bool := (s.Steps.take k).foldl (fun e x => mvs x.Strokes e) (fun _ => false)
theorem moved_succ {s : SSequence} {k : Nat} (h : k < s.Steps.length) : moved s (k + 1) = mvs s.Steps[k].Strokes (moved s k) := by
  unfold moved
  rw [List.take_add_one, List.getElem?_eq_getElem h, List.foldl_append]
  rfl

def seqG (s : SSequence) (k : Nat) : Option Int := match s.Steps[k]? with
  | none => none
  | some x => if stE s x (ends s k) ≠ 0 then some (stE s x (ends s k)) else none

theorem seqG_some {s : SSequence} {k : Nat} {r : Int} (hk : k < s.Steps.length) (h : stE s s.Steps[k] (ends s k) = r) (hr : r ≠ 0) : seqG s k = some r := by
  unfold seqG
  rw [List.getElem?_eq_getElem hk]
  dsimp only
  rw [h, if_pos hr]
theorem seqG_zero {s : SSequence} {k : Nat} (hk : k < s.Steps.length) (h : stE s s.Steps[k] (ends s k) = 0) : seqG s k = none := by
  unfold seqG
  rw [List.getElem?_eq_getElem hk]
  dsimp only
  rw [h, if_neg (by simp)]

structure StepIn (s : SSequence) (x : SStep) : Prop where
  ok : StepOk x
  far : ∀ k (h : k < x.Strokes.length), x.Strokes[k].Actuator < s.Actuators

theorem seqG_none {s : SSequence} {k : Nat} (hk : k < s.Steps.length) (h : seqG s k = none) : StepIn s s.Steps[k] ∧ clash s.Steps[k] (ends s k) = false := by
  unfold seqG at h
  rw [List.getElem?_eq_getElem hk] at h
  dsimp only at h
  by_cases h0 : stE s s.Steps[k] (ends s k) ≠ 0
  · rw [if_pos h0] at h; simp at h
  · have h1 : stE s s.Steps[k] (ends s k) = 0 := by simpa using h0
    unfold stE at h1
    split at h1
    · rename_i h2; exact (h2 h1).elim
    · split at h1
      · omega
      · split at h1
        · omega
        · rename_i a b c
          exact ⟨⟨stepE_ok (by simpa using a), far_f (by simpa using b)⟩, by simpa using c⟩

def way (x : SStep) (a : Int) : Int := match x.Strokes.findSome? (fun y => bif y.Actuator == a then some (if y.Out then (1 : Int) else -1) else none) with | some r => r | none => 0
def hasA (x : SStep) (a : Int) : Bool := x.Strokes.any fun y => y.Actuator == a

theorem m78_eq (x : SStep) (a : Int) (hx : x.Strokes.length ≤ 9223372036854775807) : m78 x a = some (way x a) := by
  unfold m78 way
  rw [iter_list x.Strokes (fun y => bif y.Actuator == a then some (if y.Out then (1 : Int) else -1) else none) ?hn () ?h0 ?h ?he]
  case hn => unfold fuel; omega
  case h0 => rfl
  case he =>
    try dsimp only
    rw [cond_f (lt_f (by omega))]
  case h =>
    intro k hk
    try dsimp only
    rw [cond_t (lt_t (by omega)), idx_lt hk]
    simp only [Option.bind_some]
    rw [addI_nat (by omega)]
    cases x.Strokes[k].Actuator == a <;> cases x.Strokes[k].Out <;> rfl
  cases x.Strokes.findSome? (fun y => bif y.Actuator == a then some (if y.Out then (1 : Int) else -1) else none) <;> rfl

theorem way_ne (x : SStep) (a : Int) : (way x a != 0) = hasA x a := by
  unfold way hasA
  induction x.Strokes with
  | nil => rfl
  | cons y l ih =>
    rw [List.findSome?_cons, List.any_cons]
    cases h : y.Actuator == a with
    | true => cases y.Out <;> rfl
    | false => simpa using ih

theorem mvs_eq (l : List SStroke) (e : Nat → Bool) (a : Nat) : mvs l e a = (e a || l.any fun y => y.Actuator == (a : Int)) := by
  induction l generalizing e with
  | nil => simp [mvs]
  | cons y l ih =>
    have : mvs (y :: l) e = mvs l (fun a : Nat => if y.Actuator = (a : Int) then true else e a) := rfl
    rw [this, ih, List.any_cons]
    by_cases h : y.Actuator = (a : Int)
    · simp [h]
    · have hb : (y.Actuator == (a : Int)) = false := by simpa using h
      rw [hb, if_neg h, Bool.false_or]

theorem moved_eq (s : SSequence) (a : Nat) : ∀ k, k ≤ s.Steps.length → moved s k a = (s.Steps.take k).any fun x => hasA x a := by
  intro k
  induction k with
  | zero => intro _; simp [moved]
  | succ k ih =>
    intro hk
    rw [moved_succ (by omega), mvs_eq, ih (by omega), List.take_add_one, List.getElem?_eq_getElem (by omega), List.any_append]
    simp [hasA]

theorem m69_eq (s : SSequence) (a : Int) (hs : s.Steps.length ≤ 9223372036854775807) (hx : ∀ x ∈ s.Steps, x.Strokes.length ≤ 9223372036854775807) : m69 s a = some (s.Steps.any fun x => hasA x a) := by
  unfold m69
  rw [iter_list s.Steps (fun x => bif hasA x a then some true else none) ?hn () ?h0 ?h ?he]
  case hn => unfold fuel; omega
  case h0 => rfl
  case he =>
    try dsimp only
    rw [cond_f (lt_f (by omega))]
  case h =>
    intro k hk
    try dsimp only
    rw [cond_t (lt_t (by omega)), idx_lt hk]
    simp only [Option.bind_some]
    rw [m78_eq _ _ (hx _ (List.getElem_mem hk)), addI_nat (by omega)]
    simp only [Option.bind_some, way_ne]
    cases hasA s.Steps[k] a <;> rfl
  rw [findSome_if]
  cases s.Steps.any fun x => hasA x a <;> rfl

theorem ends_far {s : SSequence} {a : Nat} (ha : s.Actuators ≤ a) : ∀ k, k ≤ s.Steps.length → (∀ j, j < k → seqG s j = none) → ends s k a = false := by
  intro k
  induction k with
  | zero => intro _ _; simp [ends]
  | succ k ih =>
    intro hk hj
    have h1 := ih (by omega) (fun j hj' => hj j (by omega))
    obtain ⟨h2, _⟩ := seqG_none (show k < s.Steps.length by omega) (hj k (by omega))
    rw [ends_succ (by omega)]
    have key : ∀ l : List SStroke, (∀ y ∈ l, y.Actuator < s.Actuators) → ∀ e : Nat → Bool, upd l e a = e a := by
      intro l
      induction l with
      | nil => intro _ e; rfl
      | cons y l ihl =>
        intro hl e
        have : upd (y :: l) e = upd l (fun a : Nat => if y.Actuator = (a : Int) then y.Out else e a) := rfl
        rw [this, ihl (fun z hz => hl z (by simp [hz]))]
        have := hl y (by simp)
        rw [if_neg (by omega)]
    rw [key _ ?_]
    · exact h1
    · intro y hy
      obtain ⟨i, hi, rfl⟩ := List.getElem_of_mem hy
      exact h2.far i hi

/-- what is wrong with a sequence: 0 if nothing is -/
def chk (s : SSequence) : Int :=
  if s.Actuators < 1 ∨ 6 < s.Actuators then 2 else if s.Steps.length = 0 then 13 else if 64 < s.Steps.length then 5 else
  match first s.Steps.length (seqG s) with
  | some r => r
  | none => if (List.range s.Actuators.toNat).any (ends s s.Steps.length) = true then 9 else if (List.range s.Actuators.toNat).all (moved s s.Steps.length) = true then 0 else 13

def seqE (s : SSequence) : Int := match first s.Steps.length (seqG s) with
  | some r => r
  | none => if (List.range s.Actuators.toNat).any (ends s s.Steps.length) = true then 9 else 0

theorem m68_eq (s : SSequence) (h1 : 1 ≤ s.Actuators) (h6 : s.Actuators ≤ 6) (hs : s.Steps.length ≤ 64) : m68 s = some (seqE s) := by
  unfold m68 seqE
  have hmk : mkc 1 s.Actuators false = some (List.replicate s.Actuators.toNat false) := by
    unfold mkc; rw [if_pos ⟨by omega, by omega, by omega⟩]
  rw [hmk]
  simp only [Option.bind_some]
  have hA : s.Actuators.toNat ≤ 6 := by omega
  rw [iter_first (fun k : Nat => ((List.range s.Actuators.toNat).map (ends s k), (k : Int))) (seqG s) s.Steps.length ?hn ((List.range s.Actuators.toNat).map (ends s s.Steps.length)) ?h0 ?h ?he]
  case hn => unfold fuel; omega
  case h0 =>
    have : (List.range s.Actuators.toNat).map (ends s 0) = List.replicate s.Actuators.toNat false := by
      apply List.ext_getElem
      · simp
      · intro i h1 h2; simp [ends]
    rw [this]; rfl
  case he =>
    intro _
    try dsimp only
    rw [cond_f (lt_f (by omega))]
  case h =>
    intro k hk hj
    try dsimp only
    rw [cond_t (lt_t (by omega)), idx_lt hk]
    simp only [Option.bind_some]
    rw [m81_eq]
    simp only [Option.bind_some]
    by_cases e0 : stepE s.Steps[k] = 0
    · have ho := stepE_ok e0
      have hle := ho.le
      rw [cond_f (by simpa using e0)]
      rw [iter_list s.Steps[k].Strokes (fun y => bif decide (y.Actuator ≥ s.Actuators) then some (.inr (.inr 6)) else none) ?hn () ?h0 ?h ?he]
      case hn => unfold fuel; omega
      case h0 => rfl
      case he =>
        try dsimp only
        rw [cond_f (lt_f (by omega))]
      case h =>
        intro i hi
        try dsimp only
        rw [cond_t (lt_t (by omega)), idx_lt hi]
        simp only [Option.bind_some]
        rw [addI_nat (by omega)]
        cases decide (s.Steps[k].Strokes[i].Actuator ≥ s.Actuators) <;> rfl
      rw [findSome_if]
      have hfd : (s.Steps[k].Strokes.any fun y => decide (y.Actuator ≥ s.Actuators)) = far s s.Steps[k] := rfl
      rw [hfd]
      cases hf : far s s.Steps[k] with
      | true =>
        rw [seqG_some hk (r := 6) (by unfold stE; rw [if_neg (by simpa using e0), if_pos hf]) (by decide)]
        rfl
      | false =>
        have hfar := far_f hf
        have ha : ∀ i (h : i < s.Steps[k].Strokes.length), 0 ≤ s.Steps[k].Strokes[i].Actuator ∧ s.Steps[k].Strokes[i].Actuator < (s.Actuators.toNat : Int) := fun i hi => ⟨(ho.act i hi).1, by have := hfar i hi; omega⟩
        simp only [cond_false, Option.bind_some, Sum.elim_inl, Bool.false_eq_true, if_false]
        rw [m82_eq _ _ hA _ ho.le ha]
        simp only [Option.bind_some, Bool.not_not]
        cases hc : clash s.Steps[k] (ends s k) with
        | true =>
          rw [seqG_some hk (r := 14) (by unfold stE; rw [if_neg (by simpa using e0), if_neg (by simp [hf]), if_pos hc]) (by decide)]
          rfl
        | false =>
          rw [seqG_zero hk (by unfold stE; rw [if_neg (by simpa using e0), if_neg (by simp [hf]), if_neg (by simp [hc])])]
          simp only [cond_false]
          rw [m83_eq _ _ hA _ ho.le ha, addI_nat (by omega), ends_succ hk]
          rfl
    · rw [cond_t (by simpa using e0), seqG_some hk (by unfold stE; rw [if_pos e0]) e0]
  cases hfst : first s.Steps.length (seqG s) with
  | some r => rfl
  | none =>
    simp only [Option.bind_some, Sum.elim_inl]
    rw [iter_list (List.range s.Actuators.toNat) (fun a => bif ends s s.Steps.length a then some 9 else none) ?hn () ?h0 ?h ?he]
    case hn => unfold fuel; simp; omega
    case h0 => rfl
    case he =>
      try dsimp only
      rw [cond_f (lt_f (by simp; omega))]
    case h =>
      intro k hk
      have hk' : k < s.Actuators.toNat := by simpa using hk
      try dsimp only
      rw [cond_t (lt_t (by omega)), idx_lt (by simpa using hk)]
      simp only [Option.bind_some, List.getElem_map, List.getElem_range]
      rw [addI_nat (by omega)]
      cases ends s s.Steps.length k <;> rfl
    rw [findSome_if]
    cases (List.range s.Actuators.toNat).any (ends s s.Steps.length) <;> rfl
end G17

namespace G17
open Go Go.Pl

/-- lists as long as memory allows -/
def Small (s : SSequence) : Prop := s.Steps.length ≤ 9223372036854775807 ∧ ∀ x ∈ s.Steps, x.Strokes.length ≤ 9223372036854775807

theorem m42_eq (s : SSequence) (hs : Small s) : m42 s = some (chk s) := by
  unfold m42 chk
  by_cases h1 : s.Actuators < 1 ∨ 6 < s.Actuators
  · rw [cond_t (by simp only [Bool.or_eq_true, decide_eq_true_eq]; omega), if_pos h1]
  rw [cond_f (by simp only [Bool.or_eq_false_iff, decide_eq_false_iff_not]; omega), if_neg h1]
  by_cases h2 : s.Steps.length = 0
  · rw [cond_t (by simpa using h2), if_pos h2]
  rw [cond_f (by simpa using h2), if_neg h2]
  by_cases h3 : 64 < s.Steps.length
  · rw [cond_t (by simp; omega), if_pos h3]
  rw [cond_f (by simp; omega), if_neg h3, m68_eq s (by omega) (by omega) (by omega)]
  simp only [Option.bind_some]
  unfold seqE
  cases hf : first s.Steps.length (seqG s) with
  | some r =>
    have hr : r ≠ 0 := by
      unfold first at hf
      obtain ⟨k, _, hk⟩ := List.exists_of_findSome?_eq_some hf
      unfold seqG at hk
      split at hk
      · simp at hk
      · split at hk
        · rename_i h; injection hk with hk; rw [← hk]; exact h
        · simp at hk
    simp only
    rw [cond_t (by simpa using hr)]
  | none =>
    simp only
    by_cases h9 : (List.range s.Actuators.toNat).any (ends s s.Steps.length) = true
    · rw [if_pos h9, if_pos h9]; rfl
    rw [if_neg h9, if_neg h9, cond_f (by rfl)]
    rw [iter_list (List.range s.Actuators.toNat) (fun a => bif !moved s s.Steps.length a then some 13 else none) ?hn () ?h0 ?h ?he]
    case hn => unfold fuel; simp; omega
    case h0 => rfl
    case he =>
      try dsimp only
      rw [cond_f (lt_f (by simp; omega))]
    case h =>
      intro k hk
      have hk' : k < s.Actuators.toNat := by simpa using hk
      try dsimp only
      rw [cond_t (lt_t (by omega)), m69_eq s _ hs.1 hs.2]
      simp only [Option.bind_some, List.getElem_range]
      rw [addI_nat (by omega), moved_eq s k _ (Nat.le_refl _), List.take_of_length_le (Nat.le_refl _)]
      cases s.Steps.any fun x => hasA x (k : Int) <;> rfl
    rw [findSome_if]
    have : (List.range s.Actuators.toNat).any (fun a => !moved s s.Steps.length a) = !(List.range s.Actuators.toNat).all (moved s s.Steps.length) := by
      rw [List.not_all_eq_any_not]
    rw [this]
    cases (List.range s.Actuators.toNat).all (moved s s.Steps.length) <;> rfl

theorem mvs_take {l : List SStroke} {k : Nat} (h : k < l.length) (e : Nat → Bool) : mvs (l.take (k + 1)) e = fun a : Nat => if l[k].Actuator = (a : Int) then true else mvs (l.take k) e a := by
  unfold mvs
  rw [List.take_add_one, List.getElem?_eq_getElem h, List.foldl_append]
  rfl

theorem m67_eq (l : List Bool) (hl : l.length ≤ 6) : m67 l false = some (l.any fun b => b == false) := by
  unfold m67 m80
  rw [iter_first (fun k : Nat => (k : Int)) (fun k => match l[k]? with | some b => bif b == false then some (k : Int) else none | none => none) l.length ?hn () ?h0 ?h ?he]
  case hn => unfold fuel; omega
  case h0 => rfl
  case he =>
    intro _
    try dsimp only
    rw [cond_f (lt_f (by omega))]
  case h =>
    intro k hk _
    try dsimp only
    rw [cond_t (lt_t (by omega)), idx_lt hk, List.getElem?_eq_getElem hk]
    simp only [Option.bind_some]
    rw [addI_nat (by omega)]
    cases l[k] <;> rfl
  cases hf : first l.length (fun k => match l[k]? with | some b => bif b == false then some (k : Int) else none | none => none) with
  | none =>
    rw [first_none_iff] at hf
    have : (l.any fun b => b == false) = false := by
      rw [List.any_eq_false]
      intro b hb
      obtain ⟨k, hk, rfl⟩ := List.getElem_of_mem hb
      have := hf k hk
      rw [List.getElem?_eq_getElem hk] at this
      dsimp only at this
      intro hc
      rw [hc] at this
      simp at this
    rw [this]; rfl
  | some r =>
    unfold first at hf
    obtain ⟨k, hk, hr⟩ := List.exists_of_findSome?_eq_some hf
    have hk' : k < l.length := by simpa using hk
    rw [List.getElem?_eq_getElem hk'] at hr
    dsimp only at hr
    cases hb : l[k] == false with
    | false => rw [hb] at hr; simp at hr
    | true =>
      rw [hb] at hr
      simp only [cond_true, Option.some.injEq] at hr
      have : (l.any fun b => b == false) = true := by
        rw [List.any_eq_true]
        exact ⟨l[k], List.getElem_mem hk', hb⟩
      rw [this]
      subst hr
      simp only [Option.bind_some, Sum.elim_inr]
      simp

theorem m41_eq (s : SSequence) : m41 s = some (chk s) := by
  unfold m41 chk
  by_cases h1 : s.Actuators < 1 ∨ 6 < s.Actuators
  · rw [cond_t (by simp only [Bool.or_eq_true, decide_eq_true_eq]; omega), if_pos h1]
  rw [cond_f (by simp only [Bool.or_eq_false_iff, decide_eq_false_iff_not]; omega), if_neg h1]
  by_cases h2 : s.Steps.length = 0
  · rw [cond_t (by simpa using h2), if_pos h2]
  rw [cond_f (by simpa using h2), if_neg h2]
  by_cases h3 : 64 < s.Steps.length
  · rw [cond_t (by simp; omega), if_pos h3]
  rw [cond_f (by simp; omega), if_neg h3]
  rw [iter_first (fun k : Nat => (arrOf (ends s k), arrOf (moved s k), (k : Int))) (seqG s) s.Steps.length ?hn (arrOf (ends s s.Steps.length), arrOf (moved s s.Steps.length)) ?h0 ?h ?he]
  case hn => unfold fuel; omega
  case h0 => rfl
  case he =>
    intro _
    try dsimp only
    rw [cond_f (lt_f (by omega))]
  case h =>
    intro k hk hj
    try dsimp only
    rw [cond_t (lt_t (by omega)), idx_lt hk]
    simp only [Option.bind_some]
    rw [m65_eq]
    simp only [Option.bind_some]
    by_cases e0 : stE s s.Steps[k] (ends s k) = 0
    · have hg := seqG_zero hk e0
      obtain ⟨h4, _⟩ := seqG_none hk hg
      have hle := h4.ok.le
      rw [cond_f (by simpa using e0), hg, m66_eq _ _ h4.ok.le h4.ok.act]
      simp only [Option.bind_some]
      rw [iter_fold (fun i : Nat => (arrOf (mvs (s.Steps[k].Strokes.take i) (moved s k)), (i : Int))) s.Steps[k].Strokes.length ?hn (arrOf (moved s (k + 1))) ?h0 ?h ?he]
      case hn => unfold fuel; omega
      case h0 => rfl
      case he =>
        try dsimp only
        rw [cond_f (lt_f (by omega)), List.take_of_length_le (Nat.le_refl _), moved_succ hk]
      case h =>
        intro i hi
        try dsimp only
        obtain ⟨h5, h6⟩ := h4.ok.act i hi
        rw [cond_t (lt_t (by omega)), idx_lt hi]
        simp only [Option.bind_some]
        rw [arrOf_idx _ h5 h6]
        simp only [Option.bind_some]
        rw [arrOf_put _ _ _ h5, addI_nat (by omega), mvs_take hi]
      simp only [Option.bind_some]
      rw [addI_nat (by omega), ends_succ hk]
    · rw [cond_t (by simpa using e0), seqG_some hk rfl e0]
  cases hf : first s.Steps.length (seqG s) with
  | some r => rfl
  | none =>
    simp only [Option.bind_some, Sum.elim_inl]
    have hfar : ∀ a : Nat, s.Actuators ≤ a → ends s s.Steps.length a = false := fun a ha => ends_far ha _ (Nat.le_refl _) (fun j hj => (first_none_iff.1 hf) j hj)
    have he : ((arrOf (ends s s.Steps.length)).1 == (Arr.rep 6 false).1) = !(List.range s.Actuators.toNat).any (ends s s.Steps.length) := by
      have hz : ((arrOf (ends s s.Steps.length)).1 = (Arr.rep 6 false).1) ↔ (List.range s.Actuators.toNat).any (ends s s.Steps.length) = false := by
        rw [List.any_eq_false]
        constructor
        · intro h a ha
          have ha' : a < s.Actuators.toNat := List.mem_range.1 ha
          have := congrArg (fun l => l[a]?) h
          have h6 : a < 6 := by omega
          have h7 : (arrOf (ends s s.Steps.length)).1[a]? = some (ends s s.Steps.length a) := by
            simp only [arrOf, List.getElem?_map, List.getElem?_range h6, Option.map_some]
          have h8 : (Arr.rep 6 false).1[a]? = some false := by
            simp only [Arr.rep, List.getElem?_replicate, if_pos h6]
          simp only [h7, h8, Option.some.injEq] at this
          simp [this]
        · intro h
          apply List.ext_getElem
          · simp [arrOf, Arr.rep]
          · intro a h1 h2
            simp only [arrOf, Arr.rep, List.getElem_map, List.getElem_range, List.getElem_replicate]
            by_cases ha : a < s.Actuators.toNat
            · have := h a (List.mem_range.2 ha); simpa using this
            · exact hfar a (by omega)
      cases hb : (List.range s.Actuators.toNat).any (ends s s.Steps.length) with
      | false => rw [hz.2 hb]; simp
      | true =>
        rw [Bool.not_true, beq_eq_false_iff_ne]
        intro hc
        rw [hz.1 hc] at hb; simp at hb
    rw [he]
    by_cases h9 : (List.range s.Actuators.toNat).any (ends s s.Steps.length) = true
    · rw [if_pos h9, h9]; rfl
    · rw [if_neg h9]
      simp only [Bool.not_eq_true] at h9
      rw [h9]
      have hsl : slcc (arrOf (moved s s.Steps.length)).1 none (some s.Actuators) = some ((List.range s.Actuators.toNat).map (moved s s.Steps.length)) := by
        unfold slcc
        rw [if_pos ⟨by simp, by simp; omega, by simp [arrOf]; omega⟩]
        congr 1
        apply List.ext_getElem
        · simp [arrOf]; omega
        · intro i h1 h2; simp [arrOf]
      simp only [Bool.not_false, bne_self_eq_false, cond_false]
      rw [hsl]
      simp only [Option.bind_some]
      rw [m67_eq _ (by simp; omega)]
      simp only [Option.bind_some, List.any_map]
      have : (List.range s.Actuators.toNat).any ((fun b => b == false) ∘ moved s s.Steps.length) = !(List.range s.Actuators.toNat).all (moved s s.Steps.length) := by
        rw [List.not_all_eq_any_not]
        congr 1
        funext a
        simp
      rw [this]
      cases (List.range s.Actuators.toNat).all (moved s s.Steps.length) <;> rfl
end G17

namespace G17
open Go Go.Pl
set_option linter.unusedVariables false

structure OkS (x : SSpan) : Prop where
  z : 0 ≤ x.Low
  le : x.Low ≤ x.High
  mx : x.High ≤ 1000000

structure PlG (p : SPlant) : Prop where
  out : ∀ t ∈ p.Travels, OkS t.Out
  inn : ∀ t ∈ p.Travels, OkS t.In

structure StG (p : SPlant) (x : SStep) : Prop where
  len : x.Strokes.length ≤ 6
  a0 : ∀ y ∈ x.Strokes, 0 ≤ y.Actuator
  a1 : ∀ y ∈ x.Strokes, y.Actuator < p.Travels.length
  w0 : 0 ≤ x.Wait
  w1 : x.Wait ≤ 1000000

/-- the span of a stroke -/
def wy (p : SPlant) (y : SStroke) : SSpan := match p.Travels[y.Actuator.toNat]? with
  | some t => bif y.Out then t.Out else t.In
  | none => ⟨0, 0⟩

theorem m55_eq {p : SPlant} {y : SStroke} (h0 : 0 ≤ y.Actuator) (h1 : y.Actuator < p.Travels.length) : m55 p y = some (wy p y) := by
  obtain ⟨hk, e⟩ := idx_int h0 h1
  unfold m55 wy
  rw [e, List.getElem?_eq_getElem hk]
  simp only [Option.bind_some]
  cases y.Out <;> rfl
theorem m60_eq {p : SPlant} {y : SStroke} (h0 : 0 ≤ y.Actuator) (h1 : y.Actuator < p.Travels.length) : m60 p y = some (wy p y) := by
  obtain ⟨hk, e⟩ := idx_int h0 h1
  unfold m60 wy
  rw [e, List.getElem?_eq_getElem hk]
  simp only [Option.bind_some]
  cases y.Out <;> rfl
theorem wy_ok {p : SPlant} (hp : PlG p) {y : SStroke} (h0 : 0 ≤ y.Actuator) (h1 : y.Actuator < p.Travels.length) : OkS (wy p y) := by
  obtain ⟨hk, e⟩ := idx_int h0 h1
  unfold wy
  rw [List.getElem?_eq_getElem hk]
  dsimp only
  cases y.Out with
  | true => exact hp.out _ (List.getElem_mem hk)
  | false => exact hp.inn _ (List.getElem_mem hk)

def mxL (p : SPlant) (l : List SStroke) (m : Int) : Int := l.foldl (fun m y => maxI m (wy p y).Low) m
def mxH (p : SPlant) (l : List SStroke) (m : Int) : Int := l.foldl (fun m y => maxI m (wy p y).High) m

theorem maxI_ge {a b : Int} : a ≤ maxI a b ∧ b ≤ maxI a b ∧ (maxI a b = a ∨ maxI a b = b) := by
  unfold maxI; split <;> omega
theorem maxI_add {n a b : Int} : maxI (n + a) (n + b) = n + maxI a b := by
  unfold maxI; split <;> split <;> omega

theorem take_foldl {α β : Type} (f : β → α → β) (b : β) {l : List α} {k : Nat} (h : k < l.length) : (l.take (k + 1)).foldl f b = f ((l.take k).foldl f b) l[k] := by
  rw [List.take_succ_eq_append_getElem h, List.foldl_append]; rfl

theorem mx_ok {p : SPlant} (hp : PlG p) : ∀ (l : List SStroke) (a b : Int), (∀ y ∈ l, 0 ≤ y.Actuator ∧ y.Actuator < p.Travels.length) → 0 ≤ a → a ≤ b → b ≤ 1000000 →
    0 ≤ mxL p l a ∧ mxL p l a ≤ mxH p l b ∧ mxH p l b ≤ 1000000 ∧ a ≤ mxL p l a ∧ b ≤ mxH p l b
  | [], a, b, _, h0, h1, h2 => ⟨h0, h1, h2, Int.le_refl _, Int.le_refl _⟩
  | y :: l, a, b, hl, h0, h1, h2 => by
    have hy := hl y (by simp)
    have ho := wy_ok hp hy.1 hy.2
    have g1 := @maxI_ge a (wy p y).Low
    have g2 := @maxI_ge b (wy p y).High
    have e1 := ho.z
    have e2 := ho.le
    have e3 := ho.mx
    have := mx_ok hp l (maxI a (wy p y).Low) (maxI b (wy p y).High) (fun z hz => hl z (by simp [hz])) (by omega) (by omega) (by omega)
    refine ⟨this.1, this.2.1, this.2.2.1, ?_, ?_⟩
    · have := this.2.2.2.1; unfold mxL at this ⊢; rw [List.foldl_cons]; omega
    · have := this.2.2.2.2; unfold mxH at this ⊢; rw [List.foldl_cons]; omega

/-- the span of the strokes of a step -/
def mvS (p : SPlant) (x : SStep) : SSpan := ⟨mxL p x.Strokes 0, mxH p x.Strokes 0⟩
theorem mvS_ok {p : SPlant} (hp : PlG p) {x : SStep} (hx : StG p x) : OkS (mvS p x) := by
  obtain ⟨h1, h2, h3, _⟩ := mx_ok hp x.Strokes 0 0 (fun y hy => ⟨hx.a0 y hy, hx.a1 y hy⟩) (by omega) (by omega) (by omega)
  exact ⟨h1, h2, h3⟩

theorem m75_76_eq {p : SPlant} {x : SStep} (hx : StG p x) : m75_76 x.Strokes p.Travels = some (mxL p x.Strokes 0) := by
  unfold m75_76
  have hlen := hx.len
  rw [iter_fold (fun k : Nat => ((k : Int), mxL p (x.Strokes.take k) 0)) x.Strokes.length ?hn (mxL p x.Strokes 0) ?h0 ?h ?he]
  case hn => unfold fuel; omega
  case h0 => rfl
  case he =>
    try dsimp only
    rw [cond_f (lt_f (by omega)), List.take_length]
  case h =>
    intro k hk
    try dsimp only
    rw [cond_t (lt_t (by omega)), idx_lt hk]
    simp only [Option.bind_some, m76]
    have hm := List.getElem_mem hk
    rw [show (⟨p.Travels⟩ : SPlant) = p from rfl, m55_eq (hx.a0 _ hm) (hx.a1 _ hm)]
    simp only [Option.bind_some]
    rw [addI_nat (by omega)]
    unfold mxL
    rw [take_foldl _ _ hk]
  rfl
theorem m75_77_eq {p : SPlant} {x : SStep} (hx : StG p x) : m75_77 x.Strokes p.Travels = some (mxH p x.Strokes 0) := by
  unfold m75_77
  have hlen := hx.len
  rw [iter_fold (fun k : Nat => ((k : Int), mxH p (x.Strokes.take k) 0)) x.Strokes.length ?hn (mxH p x.Strokes 0) ?h0 ?h ?he]
  case hn => unfold fuel; omega
  case h0 => rfl
  case he =>
    try dsimp only
    rw [cond_f (lt_f (by omega)), List.take_length]
  case h =>
    intro k hk
    try dsimp only
    rw [cond_t (lt_t (by omega)), idx_lt hk]
    simp only [Option.bind_some, m77]
    have hm := List.getElem_mem hk
    rw [show (⟨p.Travels⟩ : SPlant) = p from rfl, m55_eq (hx.a0 _ hm) (hx.a1 _ hm)]
    simp only [Option.bind_some]
    rw [addI_nat (by omega)]
    unfold mxH
    rw [take_foldl _ _ hk]
  rfl
theorem m57_eq {p : SPlant} {x : SStep} (hx : StG p x) : m57 p x = some (mvS p x) := by
  unfold m57
  rw [m75_76_eq hx, m75_77_eq hx]; rfl

/- sums -/
def pl (a b : SSpan) : SSpan := ⟨a.Low + b.Low, a.High + b.High⟩
def pw (a : SSpan) (w : Int) : SSpan := ⟨a.Low + w, a.High + w⟩
/-- a span that is no longer than some time -/
structure In (a : SSpan) (n : Int) : Prop where
  z : 0 ≤ a.Low
  le : a.Low ≤ a.High
  mx : a.High ≤ n
theorem OkS.inn {a : SSpan} (h : OkS a) : In a 1000000 := ⟨h.z, h.le, h.mx⟩
theorem In.pl {a b : SSpan} {n m : Int} (ha : In a n) (hb : In b m) : In (pl a b) (n + m) := by
  have h1 := ha.z; have h2 := ha.le; have h3 := ha.mx; have h4 := hb.z; have h5 := hb.le; have h6 := hb.mx
  exact ⟨by simp only [G17.pl]; omega, by simp only [G17.pl]; omega, by simp only [G17.pl]; omega⟩
theorem In.pw {a : SSpan} {n m w : Int} (ha : In a n) (h0 : 0 ≤ w) (h1 : w ≤ m) : In (pw a w) (n + m) := by
  have h1 := ha.z; have h2 := ha.le; have h3 := ha.mx
  exact ⟨by simp only [G17.pw]; omega, by simp only [G17.pw]; omega, by simp only [G17.pw]; omega⟩
theorem In.mono {a : SSpan} {n m : Int} (h : In a n) (hm : n ≤ m) : In a m := ⟨h.z, h.le, by have := h.mx; omega⟩

theorem m54_eq {a b : SSpan} {n m : Int} (ha : In a n) (hb : In b m) (hn : n ≤ 1000000000000) (hm : m ≤ 1000000000000) : m54 a b = some (pl a b) := by
  have h1 := ha.z; have h2 := ha.le; have h3 := ha.mx; have h4 := hb.z; have h5 := hb.le; have h6 := hb.mx
  unfold m54 pl
  rw [addI_eq (by omega) (by omega), addI_eq (by omega) (by omega)]
theorem m59_eq {a b : SSpan} {n m : Int} (ha : In a n) (hb : In b m) (hn : n ≤ 1000000000000) (hm : m ≤ 1000000000000) : m59 a b = some (pl a b) := m54_eq ha hb hn hm
theorem m56_eq {a : SSpan} {n w : Int} (ha : In a n) (h0 : 0 ≤ w) (h1 : w ≤ 1000000) (hn : n ≤ 1000000000000) : m56 a w = some (pw a w) := by
  unfold m56
  rw [m54_eq (m := 1000000) ha ⟨h0, Int.le_refl _, h1⟩ hn (by omega)]; rfl

/-- the time behind a step -/
def ns (p : SPlant) (now : SSpan) (x : SStep) : SSpan := pw (pl now (mvS p x)) x.Wait
def nw (p : SPlant) (l : List SStep) (now : SSpan) : SSpan := l.foldl (ns p) now
def slot (p : SPlant) (now : SSpan) (x : SStep) : SSlot := ⟨now, pl now (mvS p x), ns p now x⟩
def sl (p : SPlant) : List SStep → SSpan → List SSlot
  | [], _ => []
  | x :: r, now => slot p now x :: sl p r (ns p now x)
def num : Nat → List SSlot → List (Int × SSlot)
  | _, [] => []
  | k, x :: l => ((k : Int), x) :: num (k + 1) l

theorem sl_length (p : SPlant) : ∀ (l : List SStep) (now : SSpan), (sl p l now).length = l.length
  | [], _ => rfl
  | x :: r, now => by rw [sl, List.length_cons, List.length_cons, sl_length p r]
theorem sl_app (p : SPlant) (x : SStep) : ∀ (l : List SStep) (now : SSpan), sl p (l ++ [x]) now = sl p l now ++ [slot p (nw p l now) x]
  | [], now => rfl
  | y :: l, now => by rw [List.cons_append, sl, sl, sl_app p x l]; rfl
theorem num_snd : ∀ (k : Nat) (l : List SSlot), (num k l).map (·.2) = l
  | _, [] => rfl
  | k, x :: l => by rw [num, List.map_cons, num_snd (k + 1) l]

theorem ns_in {p : SPlant} (hp : PlG p) {x : SStep} (hx : StG p x) {now : SSpan} {n : Int} (h : In now n) : In (ns p now x) (n + 2000000) := by
  have := (h.pl (mvS_ok hp hx).inn).pw hx.w0 hx.w1
  exact this.mono (by omega)
theorem nw_in {p : SPlant} (hp : PlG p) : ∀ (l : List SStep) (now : SSpan) (n : Int), (∀ x ∈ l, StG p x) → In now n → In (nw p l now) (n + 2000000 * l.length)
  | [], now, n, _, h => h.mono (by simp)
  | x :: l, now, n, hl, h => by
    have := nw_in hp l (ns p now x) (n + 2000000) (fun y hy => hl y (by simp [hy])) (ns_in hp (hl x (by simp)) h)
    exact this.mono (by simp only [List.length_cons]; omega)

theorem glgo_eq {p : SPlant} (hp : PlG p) : ∀ (l : List SStep) (k : Nat) (now : SSpan) (n : Int), (∀ x ∈ l, StG p x) → In now n → n + 2000000 * l.length ≤ 1000000000 → glgo70 p.Travels l k now = some (num k (sl p l now))
  | [], k, now, n, _, _, _ => rfl
  | x :: l, k, now, n, hl, h, hn => by
    have hx := hl x (by simp)
    simp only [List.length_cons] at hn
    have ih := glgo_eq hp l (k + 1) (ns p now x) (n + 2000000) (fun y hy => hl y (by simp [hy])) (ns_in hp hx h) (by omega)
    have hm := (mvS_ok hp hx).inn
    rw [glgo70, show (⟨p.Travels⟩ : SPlant) = p from rfl, m57_eq hx]
    simp only [Option.bind_some]
    rw [m54_eq h hm (by omega) (by omega)]
    simp only [Option.bind_some]
    rw [m56_eq (h.pl hm) hx.w0 hx.w1 (by omega)]
    simp only [Option.bind_some]
    rw [show pw (pl now (mvS p x)) x.Wait = ns p now x from rfl, ih]
    rfl

def z0 : SSpan := ⟨0, 0⟩
theorem z0_in : In z0 0 := ⟨Int.le_refl _, Int.le_refl _, Int.le_refl _⟩

/-- a sequence with a plant whose slots can be computed -/
structure Gd (s : SSequence) (p : SPlant) : Prop where
  pl : PlG p
  st : ∀ x ∈ s.Steps, StG p x
  n0 : 0 < s.Steps.length
  n64 : s.Steps.length ≤ 64

theorem gl70_eq {s : SSequence} {p : SPlant} (h : Gd s p) (n : Int) : gl70 n s.Steps p.Travels = some (num 0 (sl p s.Steps z0)) := by
  have := h.n64
  unfold gl70
  rw [cond_t (decide_eq_true (by omega))]
  exact glgo_eq h.pl s.Steps 0 z0 0 h.st z0_in (by omega)

theorem iterb_fold {σ τ β ρ : Type} (f : σ → τ → σ) (fin : σ → β) : ∀ (ys : List τ) (s : σ), iterb (fun s y => (some (.inl (f s y)) : Option (σ ⊕ (β ⊕ ρ)))) fin ys s = some (.inl (fin (ys.foldl f s)))
  | [], s => rfl
  | y :: ys, s => by rw [iterb, List.foldl_cons]; exact iterb_fold f fin ys (f s y)

theorem fold_end (p : SPlant) : ∀ (l : List SStep) (k : Nat) (now : SSpan), ((num k (sl p l now)).foldl (fun (s3 : Int × Int) (x4 : Int × SSlot) => (x4.2.End.Low, x4.2.End.High)) (now.Low, now.High)) = ((nw p l now).Low, (nw p l now).High)
  | [], k, now => rfl
  | x :: l, k, now => by
    rw [sl, num, List.foldl_cons]
    exact fold_end p l (k + 1) (ns p now x)

/-- the time of the cycle -/
def tot (s : SSequence) (p : SPlant) : SSpan := nw p s.Steps z0

theorem m48_eq {s : SSequence} {p : SPlant} (h : Gd s p) : m48 s p = some (tot s p) := by
  unfold m48 m46
  simp only [Option.bind_some]
  rw [gl70_eq h]
  simp only [Option.bind_some]
  rw [iterb_fold (fun (_ : Int × Int) (x4 : Int × SSlot) => (x4.2.End.Low, x4.2.End.High))]
  simp only [Option.bind_some, Sum.elim_inl]
  have := fold_end p s.Steps 0 z0
  simp only [z0] at this
  simp only [z0, this]
  rfl

theorem inner47 {p : SPlant} (hp : PlG p) (now : SSpan) {n : Int} (hn : In now n) (hnn : n ≤ 1000000000) {x : SStep} (hx : StG p x) :
    (iter (fun s6 : Int × Int × Int => ((bif (decide (s6.2.2 < (x.Strokes.length : Int))) then (idx x.Strokes s6.2.2).bind fun v9 => (m60 p v9).bind fun v10 => (m59 (⟨now.Low, now.High⟩ : SSpan) v10).bind fun v11 => (m72 (⟨s6.1, s6.2.1⟩ : SSpan) v11).bind fun v12 => some (.inl (v12.Low, v12.High, (addI .i64 s6.2.2 1))) else some (.inr (s6.1, s6.2.1))) : Option ((Int × Int × Int) ⊕ (Int × Int)))) (now.Low, now.High, 0))
      = some ((pl now (mvS p x)).Low, (pl now (mvS p x)).High) := by
  have hlen := hx.len
  rw [iter_fold (fun k : Nat => (now.Low + mxL p (x.Strokes.take k) 0, now.High + mxH p (x.Strokes.take k) 0, (k : Int))) x.Strokes.length ?hn ((pl now (mvS p x)).Low, (pl now (mvS p x)).High) ?h0 ?h ?he]
  case hn => unfold fuel; omega
  case h0 => simp [mxL, mxH]
  case he =>
    try dsimp only
    rw [cond_f (lt_f (by omega)), List.take_length]
    rfl
  case h =>
    intro k hk
    try dsimp only
    rw [cond_t (lt_t (by omega)), idx_lt hk]
    simp only [Option.bind_some]
    have hm := List.getElem_mem hk
    have hw := (wy_ok hp (hx.a0 _ hm) (hx.a1 _ hm)).inn
    rw [m60_eq (hx.a0 _ hm) (hx.a1 _ hm)]
    simp only [Option.bind_some]
    rw [show (⟨now.Low, now.High⟩ : SSpan) = now from rfl, m59_eq hn hw (by omega) (by omega)]
    simp only [Option.bind_some, m72, pl]
    rw [addI_nat (by omega), maxI_add, maxI_add]
    unfold mxL mxH
    rw [take_foldl _ _ hk, take_foldl _ _ hk]

theorem m47_eq {s : SSequence} {p : SPlant} (h : Gd s p) : m47 s p = some (sl p s.Steps z0) := by
  have h64 := h.n64
  unfold m47 m71
  simp only [Option.bind_some]
  rw [iter_fold (fun k : Nat => (sl p (s.Steps.take k) z0, (nw p (s.Steps.take k) z0).Low, (nw p (s.Steps.take k) z0).High, (k : Int))) s.Steps.length ?hn (sl p s.Steps z0, (tot s p).Low, (tot s p).High) ?h0 ?h ?he]
  case hn => unfold fuel; omega
  case h0 => rfl
  case he =>
    try dsimp only
    rw [cond_f (lt_f (by omega)), List.take_length]
    rfl
  case h =>
    intro k hk
    try dsimp only
    rw [cond_t (lt_t (by omega)), idx_lt hk]
    simp only [Option.bind_some]
    have hm := List.getElem_mem hk
    have hx := h.st _ hm
    have hi : In (nw p (s.Steps.take k) z0) 200000000 := (nw_in h.pl (s.Steps.take k) z0 0 (fun x hx => h.st x (List.mem_of_mem_take hx)) z0_in).mono (by rw [List.length_take]; omega)
    rw [inner47 h.pl _ hi (by omega) hx]
    simp only [Option.bind_some]
    rw [show (⟨(pl (nw p (s.Steps.take k) z0) (mvS p s.Steps[k])).Low, (pl (nw p (s.Steps.take k) z0) (mvS p s.Steps[k])).High⟩ : SSpan) = pl (nw p (s.Steps.take k) z0) (mvS p s.Steps[k]) from rfl]
    rw [m59_eq (m := 1000000) (hi.pl (mvS_ok h.pl hx).inn) ⟨hx.w0, Int.le_refl _, hx.w1⟩ (by omega) (by omega)]
    simp only [Option.bind_some]
    rw [appc_eq (by rw [sl_length, List.length_take]; simp only [List.length_cons, List.length_nil]; omega) (by rw [sl_length, List.length_take]; simp only [List.length_cons, List.length_nil]; omega)]
    simp only [Option.bind_some]
    rw [addI_nat (by omega), List.take_succ_eq_append_getElem hk, sl_app]
    have e : nw p (s.Steps.take k ++ [s.Steps[k]]) z0 = ns p (nw p (s.Steps.take k) z0) s.Steps[k] := by unfold nw; rw [List.foldl_append]; rfl
    rw [e]
    rfl
  rfl

theorem sl_get (p : SPlant) : ∀ (l : List SStep) (now : SSpan) (k : Nat) (h : k < l.length), (sl p l now)[k]? = some (slot p (nw p (l.take k) now) l[k])
  | x :: l, now, 0, _ => rfl
  | x :: l, now, k + 1, h => by
    rw [sl, List.getElem?_cons_succ, sl_get p l (ns p now x) k (by simpa using h)]
    rfl

theorem m49_eq {s : SSequence} {p : SPlant} (h : Gd s p) : m49 s p = some (tot s p) := by
  have h64 := h.n64
  have h0 := h.n0
  unfold m49
  rw [m47_eq h]
  simp only [Option.bind_some]
  rw [sub_nat h0 (by omega), idx_nat, sl_get p s.Steps z0 (s.Steps.length - 1) (by omega)]
  simp only [Option.bind_some]
  unfold tot
  have e : s.Steps = s.Steps.take (s.Steps.length - 1) ++ [s.Steps[s.Steps.length - 1]] := by
    rw [← List.take_succ_eq_append_getElem (by omega), List.take_of_length_le (by omega)]
  have e2 : nw p s.Steps z0 = ns p (nw p (s.Steps.take (s.Steps.length - 1)) z0) s.Steps[s.Steps.length - 1] := by
    conv => lhs; rw [e]
    unfold nw; rw [List.foldl_append]; rfl
  rw [e2]
  rfl
end G17

namespace G17
open Go Go.Pl
set_option linter.unusedVariables false

structure Right (s : SSequence) : Prop where
  a1 : 1 ≤ s.Actuators
  a6 : s.Actuators ≤ 6
  n0 : 0 < s.Steps.length
  n64 : s.Steps.length ≤ 64
  step : ∀ i (h : i < s.Steps.length), StepIn s s.Steps[i]

theorem chk_right {s : SSequence} (h : chk s = 0) : Right s := by
  unfold chk at h
  split at h
  · omega
  split at h
  · omega
  split at h
  · omega
  rename_i h1 h2 h3
  split at h
  · rename_i r hr
    exfalso
    subst h
    unfold first at hr
    obtain ⟨k, _, hk⟩ := List.exists_of_findSome?_eq_some hr
    unfold seqG at hk
    split at hk
    · simp at hk
    · split at hk
      · rename_i h; injection hk with hk; exact h hk
      · simp at hk
  · rename_i hf
    rw [first_none_iff] at hf
    exact ⟨by omega, by omega, by omega, by omega, fun i hi => (seqG_none hi (hf i hi)).1⟩

/-- what is wrong with a span -/
def spE (x : SSpan) : Int := if ¬(0 ≤ x.Low ∧ x.Low ≤ 1000000 ∧ 0 ≤ x.High ∧ x.High ≤ 1000000) then 2 else if x.Low > x.High then 9 else 0
theorem m50_eq (x : SSpan) : m50 x = some (spE x) := by
  unfold m50 spE m73
  simp only [Option.bind_some]
  by_cases h1 : 0 ≤ x.Low ∧ x.Low ≤ 1000000
  · rw [show (decide (x.Low ≥ 0) && decide (x.Low ≤ 1000000)) = true by simp; omega]
    simp only [Bool.not_true, cond_false, Option.bind_some]
    by_cases h2 : 0 ≤ x.High ∧ x.High ≤ 1000000
    · rw [show (decide (x.High ≥ 0) && decide (x.High ≤ 1000000)) = true by simp; omega, if_neg (by omega)]
      simp only [Bool.not_true, cond_false]
      by_cases h3 : x.Low > x.High
      · rw [if_pos h3, cond_t (by simpa using h3)]
      · rw [if_neg h3, cond_f (by simpa using h3)]
    · rw [show (decide (x.High ≥ 0) && decide (x.High ≤ 1000000)) = false by simp; omega, if_pos (by omega)]; rfl
  · rw [show (decide (x.Low ≥ 0) && decide (x.Low ≤ 1000000)) = false by simp; omega, if_pos (by omega)]; rfl
theorem m51_eq (x : SSpan) : m51 x = some (spE x) := m50_eq x
theorem spE_ok {x : SSpan} (h : spE x = 0) : OkS x := by
  unfold spE at h
  split at h
  · omega
  split at h
  · omega
  exact ⟨by omega, by omega, by omega⟩

/-- what is wrong with a travel -/
def trE (t : STravel) : Option Int := if spE t.Out ≠ 0 then some (spE t.Out) else if spE t.In ≠ 0 then some (spE t.In) else none
theorem trE_ok {t : STravel} (h : trE t = none) : OkS t.Out ∧ OkS t.In := by
  unfold trE at h
  split at h
  · simp at h
  split at h
  · simp at h
  rename_i h1 h2
  exact ⟨spE_ok (by simpa using h1), spE_ok (by simpa using h2)⟩

def chk17 (s : SSequence) (p : SPlant) : Int :=
  if chk s ≠ 0 then chk s else if (p.Travels.length : Int) ≠ s.Actuators then 8 else match p.Travels.findSome? trE with
  | some r => r
  | none => if (tot s p).High > 1000000 then 11 else 0

theorem gd_of {s : SSequence} {p : SPlant} (h : chk s = 0) (hl : (p.Travels.length : Int) = s.Actuators) (ht : p.Travels.findSome? trE = none) : Gd s p := by
  have hr := chk_right h
  rw [List.findSome?_eq_none_iff] at ht
  refine ⟨⟨fun t h => (trE_ok (ht t h)).1, fun t h => (trE_ok (ht t h)).2⟩, fun x hx => ?_, hr.n0, hr.n64⟩
  obtain ⟨i, hi, rfl⟩ := List.getElem_of_mem hx
  have := hr.step i hi
  refine ⟨this.ok.le, fun y hy => ?_, fun y hy => ?_, this.ok.wait.1, this.ok.wait.2⟩
  · obtain ⟨j, hj, rfl⟩ := List.getElem_of_mem hy
    exact (this.ok.act j hj).1
  · obtain ⟨j, hj, rfl⟩ := List.getElem_of_mem hy
    have := this.far j hj
    omega

theorem gd_chk {s : SSequence} {p : SPlant} (h : chk17 s p = 0) : Gd s p ∧ chk s = 0 ∧ (p.Travels.length : Int) = s.Actuators ∧ (tot s p).High ≤ 1000000 := by
  unfold chk17 at h
  split at h
  · rename_i h1; exact (h1 h).elim
  rename_i h1
  split at h
  · omega
  rename_i h2
  split at h
  · rename_i r hr
    subst h
    obtain ⟨t, _, ht⟩ := List.exists_of_findSome?_eq_some hr
    unfold trE at ht
    split at ht
    · rename_i h3; injection ht with ht; exact (h3 ht).elim
    split at ht
    · rename_i h3; injection ht with ht; exact (h3 ht).elim
    simp at ht
  · rename_i hn
    split at h
    · omega
    exact ⟨gd_of (by simpa using h1) (by simpa using h2) hn, by simpa using h1, by simpa using h2, by omega⟩

theorem m18_eq (s : SSequence) (p : SPlant) (hs : Small s) : m18 s p = some (chk17 s p) := by
  unfold m18 chk17
  rw [m42_eq s hs]
  simp only [Option.bind_some]
  by_cases h1 : chk s ≠ 0
  · rw [if_pos h1, cond_t (by simpa using h1)]
  rw [if_neg h1, cond_f (by simpa using h1)]
  have h1' : chk s = 0 := by simpa using h1
  by_cases h2 : (p.Travels.length : Int) ≠ s.Actuators
  · rw [if_pos h2, cond_t (by simpa using h2)]
  rw [if_neg h2, cond_f (by simpa using h2)]
  have h2' : (p.Travels.length : Int) = s.Actuators := by simpa using h2
  have h6 := (chk_right h1').a6
  rw [iter_list p.Travels trE ?hn () ?h0 ?h ?he]
  case hn => unfold fuel; omega
  case h0 => rfl
  case he =>
    try dsimp only
    rw [cond_f (lt_f (by omega))]
  case h =>
    intro k hk
    try dsimp only
    rw [cond_t (lt_t (by omega)), idx_lt hk]
    simp only [Option.bind_some]
    rw [m51_eq, addI_nat (by omega)]
    simp only [Option.bind_some]
    unfold trE
    by_cases h3 : spE p.Travels[k].Out ≠ 0
    · rw [if_pos h3, cond_t (by simpa using h3)]
    · rw [if_neg h3, cond_f (by simpa using h3), m51_eq]
      simp only [Option.bind_some]
      by_cases h4 : spE p.Travels[k].In ≠ 0
      · rw [if_pos h4, cond_t (by simpa using h4)]
      · rw [if_neg h4, cond_f (by simpa using h4)]
  cases ht : p.Travels.findSome? trE with
  | some r => rfl
  | none =>
    simp only [Option.bind_some, Sum.elim_inl]
    rw [m49_eq (gd_of h1' h2' ht)]
    simp only [Option.bind_some]
    by_cases h5 : (tot s p).High > 1000000
    · rw [if_pos h5, cond_t (by simpa using h5)]
    · rw [if_neg h5, cond_f (by simpa using h5)]

theorem m17_eq (s : SSequence) (p : SPlant) : m17 s p = some (chk17 s p) := by
  unfold m17 chk17
  rw [m41_eq s]
  simp only [Option.bind_some]
  by_cases h1 : chk s ≠ 0
  · rw [if_pos h1, cond_t (by simpa using h1)]
  rw [if_neg h1, cond_f (by simpa using h1)]
  have h1' : chk s = 0 := by simpa using h1
  by_cases h2 : (p.Travels.length : Int) ≠ s.Actuators
  · rw [if_pos h2, cond_t (by simpa using h2)]
  rw [if_neg h2, cond_f (by simpa using h2)]
  have h2' : (p.Travels.length : Int) = s.Actuators := by simpa using h2
  have h6 := (chk_right h1').a6
  rw [iter_list p.Travels trE ?hn () ?h0 ?h ?he]
  case hn => unfold fuel; omega
  case h0 => rfl
  case he =>
    try dsimp only
    rw [cond_f (lt_f (by omega))]
  case h =>
    intro k hk
    try dsimp only
    rw [cond_t (lt_t (by omega)), idx_lt hk]
    simp only [Option.bind_some]
    rw [iter_list [p.Travels[k].Out, p.Travels[k].In] (fun x => if spE x ≠ 0 then some (.inr (.inr (spE x))) else none) ?hn () ?h0 ?h ?he]
    case hn => unfold fuel; simp
    case h0 => rfl
    case he => rfl
    case h =>
      intro j hj
      try dsimp only
      rw [cond_t (lt_t (by simp at hj; omega)), idx_lt hj]
      simp only [Option.bind_some]
      rw [m50_eq]
      simp only [Option.bind_some]
      rw [addI_nat (by simp at hj; omega)]
      by_cases h3 : spE [p.Travels[k].Out, p.Travels[k].In][j] ≠ 0
      · rw [if_pos h3, cond_t (by simpa using h3)]
      · rw [if_neg h3, cond_f (by simpa using h3)]
    rw [addI_nat (by omega)]
    unfold trE
    simp only [List.findSome?_cons, List.findSome?_nil]
    by_cases h3 : spE p.Travels[k].Out ≠ 0
    · rw [if_pos h3, if_pos h3]; rfl
    · rw [if_neg h3, if_neg h3]
      by_cases h4 : spE p.Travels[k].In ≠ 0
      · rw [if_pos h4, if_pos h4]; rfl
      · rw [if_neg h4, if_neg h4]; rfl
  cases ht : p.Travels.findSome? trE with
  | some r => rfl
  | none =>
    simp only [Option.bind_some, Sum.elim_inl]
    rw [m48_eq (gd_of h1' h2' ht)]
    simp only [Option.bind_some]
    by_cases h5 : (tot s p).High > 1000000
    · rw [if_pos h5, cond_t (by simpa using h5)]
    · rw [if_neg h5, cond_f (by simpa using h5)]

theorem m43_eq (s : SSequence) (hs : Small s) : ∃ b, m43 s = some b := by
  unfold m43
  by_cases h : s.Steps.length > 128
  · rw [cond_t (by simp; omega)]; exact ⟨_, rfl⟩
  · rw [cond_f (by simp; omega)]
    rw [iter_list s.Steps (fun x => bif decide ((x.Strokes.length : Int) > 40) then some false else none) ?hn () ?h0 ?h ?he]
    case hn => unfold fuel; omega
    case h0 => rfl
    case he =>
      try dsimp only
      rw [cond_f (lt_f (by omega))]
    case h =>
      intro k hk
      try dsimp only
      rw [cond_t (lt_t (by omega)), idx_lt hk]
      simp only [Option.bind_some]
      rw [addI_nat (by omega)]
      cases decide ((s.Steps[k].Strokes.length : Int) > 40) <;> rfl
    rw [findSome_if]
    cases s.Steps.any fun x => decide ((x.Strokes.length : Int) > 40) <;> exact ⟨_, rfl⟩

theorem m11_eq (s : SSequence) (p : SPlant) (hs : Small s) : ∃ b, m11 s p = some b := by
  obtain ⟨b, hb⟩ := m43_eq s hs
  unfold m11
  rw [hb, m42_eq s hs]
  simp only [Option.bind_some]
  cases b with
  | false => exact ⟨_, rfl⟩
  | true =>
    cases decide ((p.Travels.length : Int) ≤ 20) with
    | false => exact ⟨_, rfl⟩
    | true => cases decide ((s.Steps.length : Int) ≤ 12) <;> exact ⟨_, rfl⟩

/-- right: the check says so, and few -/
theorem m25_eq (s : SSequence) (p : SPlant) (hs : Small s) : ∃ b, m25 s p = some b ∧ (b = true → chk17 s p = 0) := by
  obtain ⟨b, hb⟩ := m11_eq s p hs
  unfold m25
  rw [hb, m18_eq s p hs]
  simp only [Option.bind_some]
  cases b with
  | false => exact ⟨false, rfl, fun h => by simp at h⟩
  | true => exact ⟨chk17 s p == 0, rfl, fun h => by simpa using h⟩

theorem awake : m12 = some true := by kernel_rfl

theorem m13_eq (s : SSequence) (p : SPlant) : m13 s p = some (if chk17 s p ≠ 0 then ([], chk17 s p) else (sl p s.Steps z0, 0)) := by
  unfold m13
  rw [m17_eq]
  simp only [Option.bind_some]
  by_cases h : chk17 s p ≠ 0
  · rw [if_pos h, cond_t (by simpa using h)]
  rw [if_neg h, cond_f (by simpa using h)]
  have hg := (gd_chk (by simpa using h : chk17 s p = 0)).1
  have h64 := hg.n64
  unfold m46
  simp only [Option.bind_some]
  rw [gl70_eq hg]
  simp only [Option.bind_some]
  have key : ∀ (ys : List (Int × SSlot)) (l : List SSlot), l.length + ys.length ≤ 1000 → iterb (fun (s5 : (List SSlot)) (x6 : (Int × SSlot)) => ((appc 48 s5 ([x6.2] : List SSlot)).bind fun l8 => some (.inl l8) : Option (((List SSlot)) ⊕ (((List SSlot)) ⊕ ((List SSlot) × Int))))) (fun s5 : (List SSlot) => s5) ys l = some (.inl (l ++ ys.map (·.2))) := by
    intro ys
    induction ys with
    | nil => intro l _; simp [iterb]
    | cons y ys ih =>
      intro l hl
      simp only [List.length_cons] at hl
      rw [iterb, appc_eq (by simp only [List.length_cons, List.length_nil]; omega) (by simp only [List.length_cons, List.length_nil]; omega)]
      simp only [Option.bind_some]
      rw [ih _ (by simp; omega)]
      simp
  have hnl : ∀ (l : List SSlot) (k : Nat), (num k l).length = l.length := by
    intro l
    induction l with
    | nil => intro k; rfl
    | cons x l ih => intro k; rw [num, List.length_cons, List.length_cons, ih]
  rw [key _ _ (by rw [hnl, sl_length]; simp; omega), num_snd]
  rfl

theorem m15_eq (s : SSequence) (p : SPlant) : m15 s p = some (if chk17 s p ≠ 0 then (z0, chk17 s p) else (tot s p, 0)) := by
  unfold m15
  rw [m17_eq]
  simp only [Option.bind_some]
  by_cases h : chk17 s p ≠ 0
  · rw [if_pos h, cond_t (by simpa using h)]; rfl
  rw [if_neg h, cond_f (by simpa using h), m48_eq (gd_chk (by simpa using h : chk17 s p = 0)).1]
  rfl
end G17

namespace G17
open Go Go.Pl
set_option linter.unusedVariables false

theorem m32_eq (l : List Int) (hl : l.length ≤ 9223372036854775807) : m32 l l = some true := by
  unfold m32
  rw [cond_f (by simp)]
  rw [iter_list l (fun _ => none) ?hn () ?h0 ?h ?he]
  case hn => unfold fuel; omega
  case h0 => rfl
  case he =>
    try dsimp only
    rw [cond_f (lt_f (by omega))]
  case h =>
    intro k hk
    try dsimp only
    rw [cond_t (lt_t (by omega)), idx_lt hk]
    simp only [Option.bind_some]
    rw [cond_f (by simp), addI_nat (by omega)]
  rw [show l.findSome? (fun _ => (none : Option Bool)) = none by simp]
  rfl

def qa (a : Int) (y : SStroke) : Bool := y.Actuator == a
theorem hits (l : List SStroke) (a : Int) : (l.findIdx? (qa a) = none ∧ ∀ k (h : k < l.length), qa a l[k] = false) ∨
    ∃ k, ∃ h : k < l.length, l.findIdx? (qa a) = some k ∧ qa a l[k] = true ∧ ∀ j (hj : j < k), qa a (l[j]'(by omega)) = false := by
  cases e : l.findIdx? (qa a) with
  | none =>
    left
    rw [List.findIdx?_eq_none_iff] at e
    exact ⟨rfl, fun k h => e _ (List.getElem_mem h)⟩
  | some k =>
    right
    rw [List.findIdx?_eq_some_iff_getElem] at e
    obtain ⟨h, h1, h2⟩ := e
    exact ⟨k, h, rfl, h1, fun j hj => by simpa using h2 j hj⟩

theorem m52_eq (l : List SStroke) (a : Int) (hl : l.length ≤ 9223372036854775807) : m52_53 l a = some (match l.findIdx? (qa a) with | some k => (k : Int) | none => -1) := by
  unfold m52_53
  rw [iter_first (fun k : Nat => (k : Int)) (fun k => l[k]?.bind fun y => bif qa a y then some (k : Int) else none) l.length ?hn () ?h0 ?h ?he]
  case hn => unfold fuel; omega
  case h0 => rfl
  case he =>
    intro _
    try dsimp only
    rw [cond_f (lt_f (by omega))]
  case h =>
    intro k hk _
    try dsimp only
    rw [cond_t (lt_t (by omega)), idx_lt hk, List.getElem?_eq_getElem hk]
    simp only [Option.bind_some, m53]
    rw [addI_nat (by omega)]
    unfold qa
    cases l[k].Actuator == a <;> rfl
  rcases hits l a with ⟨h1, h2⟩ | ⟨k, hk, h1, h2, h3⟩
  · rw [h1, first_none (fun k hk => by rw [List.getElem?_eq_getElem hk]; simp only [Option.bind_some]; rw [h2 k hk]; rfl)]; rfl
  · rw [h1, first_some hk (fun j hj => by rw [List.getElem?_eq_getElem (by omega)]; simp only [Option.bind_some]; rw [h3 j hj]; rfl) (r := (k : Int)) (by rw [List.getElem?_eq_getElem hk]; simp only [Option.bind_some]; rw [h2]; rfl)]; rfl

theorem way_hits (x : SStep) (a : Int) : way x a = match x.Strokes.findIdx? (qa a) with | some k => (match x.Strokes[k]? with | some y => if y.Out then 1 else -1 | none => 0) | none => 0 := by
  unfold way
  rw [← first_list]
  rcases hits x.Strokes a with ⟨h1, h2⟩ | ⟨k, hk, h1, h2, h3⟩
  · rw [h1, first_none (fun k hk => by
      rw [List.getElem?_eq_getElem hk]; simp only [Option.bind_some]
      have := h2 k hk; unfold qa at this; rw [this]; rfl)]
  · rw [h1, first_some hk (fun j hj => by
      rw [List.getElem?_eq_getElem (by omega)]; simp only [Option.bind_some]
      have := h3 j hj; unfold qa at this; rw [this]; rfl) (r := if x.Strokes[k].Out then 1 else -1) (by
      rw [List.getElem?_eq_getElem hk]; simp only [Option.bind_some]
      have := h2; unfold qa at this; rw [this]; rfl)]
    simp only [List.getElem?_eq_getElem hk]

/-- one step -/
def bst (p : SPlant) (a : Int) (st : SSpan × Bool) (x : SStep) : SSpan × Bool := match x.Strokes.findIdx? (qa a) with
  | none => bif st.2 then (pw (pl st.1 (mvS p x)) x.Wait, true) else st
  | some k => match x.Strokes[k]? with
    | none => st
    | some y => bif y.Out then (pw (pl st.1 (mvS p x)) x.Wait, true) else (pl st.1 (wy p y), false)

theorem bst_in {p : SPlant} (hp : PlG p) {a : Int} {st : SSpan × Bool} {x : SStep} (hx : StG p x) {n : Int} (h : In st.1 n) : In (bst p a st x).1 (n + 2000000) := by
  have h1 : In (pw (pl st.1 (mvS p x)) x.Wait) (n + 2000000) := ((h.pl (mvS_ok hp hx).inn).pw hx.w0 hx.w1).mono (by omega)
  unfold bst
  split
  · cases st.2 with
    | true => exact h1
    | false => exact h.mono (by omega)
  · split
    · exact h.mono (by omega)
    · rename_i y hy
      have hm := List.mem_of_getElem? hy
      cases y.Out with
      | true => exact h1
      | false => exact (h.pl (wy_ok hp (hx.a0 _ hm) (hx.a1 _ hm)).inn).mono (by omega)
theorem bs_in {p : SPlant} (hp : PlG p) {a : Int} : ∀ (l : List SStep) (st : SSpan × Bool) (n : Int), (∀ x ∈ l, StG p x) → In st.1 n → In (l.foldl (bst p a) st).1 (n + 2000000 * l.length)
  | [], st, n, _, h => h.mono (by simp)
  | x :: l, st, n, hl, h => by
    have := bs_in (a := a) hp l (bst p a st x) (n + 2000000) (fun y hy => hl y (by simp [hy])) (bst_in hp (hl x (by simp)) h)
    exact this.mono (by simp only [List.length_cons]; omega)

def busyT (s : SSequence) (p : SPlant) (a : Int) : SSpan × Bool := s.Steps.foldl (bst p a) (z0, false)

theorem m21_eq (s : SSequence) (p : SPlant) (a : Int) : m21 s p a = some (if chk17 s p ≠ 0 then (z0, chk17 s p) else if a < 0 ∨ a ≥ s.Actuators then (z0, 2) else ((busyT s p a).1, 0)) := by
  unfold m21
  rw [m17_eq]
  simp only [Option.bind_some]
  by_cases h : chk17 s p ≠ 0
  · rw [if_pos h, cond_t (by simpa using h)]; rfl
  rw [if_neg h, cond_f (by simpa using h)]
  have hg := (gd_chk (by simpa using h : chk17 s p = 0)).1
  have h64 := hg.n64
  by_cases ha : a < 0 ∨ a ≥ s.Actuators
  · rw [if_pos ha, cond_t (by simpa using ha)]; rfl
  rw [if_neg ha, cond_f (by simpa using ha)]
  rw [iter_fold (fun k : Nat => ((((s.Steps.take k).foldl (bst p a) (z0, false)).1.Low, ((s.Steps.take k).foldl (bst p a) (z0, false)).1.High, ((s.Steps.take k).foldl (bst p a) (z0, false)).2, (k : Int)) : Int × Int × Bool × Int)) s.Steps.length ?hn ((busyT s p a).1.Low, (busyT s p a).1.High) ?h0 ?h ?he]
  case hn => unfold fuel; omega
  case h0 => rfl
  case he =>
    try dsimp only
    rw [cond_f (lt_f (by omega)), List.take_length]
    rfl
  case h =>
    intro k hk
    try dsimp only
    rw [cond_t (lt_t (by omega)), idx_lt hk]
    simp only [Option.bind_some]
    have hx := hg.st _ (List.getElem_mem hk)
    have hlen := hx.len
    have hin : In ((s.Steps.take k).foldl (bst p a) (z0, false)).1 200000000 := (bs_in hg.pl (s.Steps.take k) (z0, false) 0 (fun x hx => hg.st x (List.mem_of_mem_take hx)) z0_in).mono (by rw [List.length_take]; omega)
    rw [take_foldl _ _ hk]
    generalize (s.Steps.take k).foldl (bst p a) (z0, false) = st at hin ⊢
    have hpm := hin.pl (mvS_ok hg.pl hx).inn
    rw [m52_eq _ _ (by omega), addI_nat (by omega)]
    simp only [Option.bind_some]
    rw [show (⟨st.1.Low, st.1.High⟩ : SSpan) = st.1 from rfl]
    unfold bst
    rcases hits s.Steps[k].Strokes a with ⟨h1, _⟩ | ⟨i, hi, h1, h2, _⟩
    · rw [h1]
      dsimp only
      rw [cond_f (show decide ((-1 : Int) ≥ 0) = false by decide)]
      simp only [Option.bind_some]
      rw [show (decide ((-1 : Int) ≥ 0)) = false by decide]
      simp only [Bool.false_and, cond_false]
      cases hb : st.2 with
      | false => simp only [cond_false, Option.bind_some, hb]
      | true =>
        simp only [cond_true]
        rw [m57_eq hx]
        simp only [Option.bind_some]
        rw [m54_eq hin (mvS_ok hg.pl hx).inn (by omega) (by omega)]
        simp only [Option.bind_some]
        rw [m56_eq hpm hx.w0 hx.w1 (by omega)]
        simp only [Option.bind_some]
    · rw [h1]
      dsimp only
      have hm := List.getElem_mem hi
      rw [show decide ((i : Int) ≥ 0) = true by simp, idx_lt hi, List.getElem?_eq_getElem hi]
      simp only [cond_true, Option.bind_some, Bool.true_and]
      cases hO : s.Steps[k].Strokes[i].Out with
      | false =>
        simp only [Bool.not_false, cond_true, cond_false]
        rw [m55_eq (hx.a0 _ hm) (hx.a1 _ hm)]
        simp only [Option.bind_some]
        rw [m54_eq hin (wy_ok hg.pl (hx.a0 _ hm) (hx.a1 _ hm)).inn (by omega) (by omega)]
        simp only [Option.bind_some]
      | true =>
        simp only [Bool.not_true, cond_true, cond_false]
        rw [m57_eq hx]
        simp only [Option.bind_some]
        rw [m54_eq hin (mvS_ok hg.pl hx).inn (by omega) (by omega)]
        simp only [Option.bind_some]
        rw [m56_eq hpm hx.w0 hx.w1 (by omega)]
        simp only [Option.bind_some]
  rfl

theorem inner58 {p : SPlant} (hp : PlG p) {x : SStep} (hx : StG p x) :
    (iter (fun s16 : Int × Int × Int => ((bif (decide (s16.2.2 < (x.Strokes.length : Int))) then (idx x.Strokes s16.2.2).bind fun v19 => (m60 p v19).bind fun v20 => (m72 (⟨s16.1, s16.2.1⟩ : SSpan) v20).bind fun v21 => some (.inl (v21.Low, v21.High, (addI .i64 s16.2.2 1))) else some (.inr (s16.1, s16.2.1))) : Option ((Int × Int × Int) ⊕ (Int × Int)))) (0, 0, 0))
      = some ((mvS p x).Low, (mvS p x).High) := by
  have hlen := hx.len
  rw [iter_fold (fun k : Nat => (mxL p (x.Strokes.take k) 0, mxH p (x.Strokes.take k) 0, (k : Int))) x.Strokes.length ?hn ((mvS p x).Low, (mvS p x).High) ?h0 ?h ?he]
  case hn => unfold fuel; omega
  case h0 => rfl
  case he =>
    try dsimp only
    rw [cond_f (lt_f (by omega)), List.take_length]
    rfl
  case h =>
    intro k hk
    try dsimp only
    rw [cond_t (lt_t (by omega)), idx_lt hk]
    simp only [Option.bind_some]
    have hm := List.getElem_mem hk
    rw [m60_eq (hx.a0 _ hm) (hx.a1 _ hm)]
    simp only [Option.bind_some, m72]
    rw [addI_nat (by omega)]
    unfold mxL mxH
    rw [take_foldl _ _ hk, take_foldl _ _ hk]

theorem m23_eq (s : SSequence) (p : SPlant) (a : Int) : m23 s p a = some (if chk17 s p ≠ 0 then (false, false, chk17 s p) else if a < 0 ∨ a > 1000000 then (false, false, 2) else (decide ((tot s p).High ≤ a), decide ((tot s p).Low ≤ a), 0)) := by
  unfold m23
  rw [m17_eq]
  simp only [Option.bind_some]
  by_cases h : chk17 s p ≠ 0
  · rw [if_pos h, cond_t (by simpa using h)]
  rw [if_neg h, cond_f (by simpa using h)]
  by_cases ha : a < 0 ∨ a > 1000000
  · rw [if_pos ha, cond_t (by simpa using ha)]
  rw [if_neg ha, cond_f (by simpa using ha), m48_eq (gd_chk (by simpa using h : chk17 s p = 0)).1]
  rfl
end G17

namespace G17
open Go Go.Pl
set_option linter.unusedVariables false

theorem iter3 {σ ρ : Type} {body : σ → Option (σ ⊕ ρ)} {s0 : σ} (s1 s2 : σ) (r : ρ) (h0 : body s0 = some (.inl s1)) (h1 : body s1 = some (.inl s2)) (h2 : body s2 = some (.inr r)) : iter body s0 = some r := by
  unfold iter
  rw [show fuel = 18446744073709551613 + 1 + 1 + 1 from rfl, iterN, h0]
  dsimp only
  rw [iterN, h1]
  dsimp only
  rw [iterN, h2]

theorem m40_eq {l1 l2 : List SStep} (h1 : 0 < l1.length) (h2 : l1.length ≤ 64) (h3 : l2.length ≤ 64) : m40 [l1, l2] = some (l1 ++ l2) := by
  unfold m40
  rw [iter3 (1, (l1.length : Int)) (2, (l1.length + l2.length : Int)) (l1.length + l2.length : Int) ?a0 ?a1 ?a2]
  case a0 =>
    try dsimp only
    rw [cond_t (lt_t (by simp)), show idx [l1, l2] 0 = some l1 from rfl]
    simp only [Option.bind_some]
    rw [addI_eq (x := 0) (y := (l1.length : Int)) (by omega) (by omega), addI_eq (x := 0) (y := 1) (by omega) (by omega), cond_f (lt_f (by omega))]
    simp
  case a1 =>
    try dsimp only
    rw [cond_t (lt_t (by simp)), show idx [l1, l2] 1 = some l2 from rfl]
    simp only [Option.bind_some]
    rw [addI_eq (x := (l1.length : Int)) (y := (l2.length : Int)) (by omega) (by omega), addI_eq (x := 1) (y := 1) (by omega) (by omega), cond_f (lt_f (by omega))]
    simp
  case a2 =>
    try dsimp only
    rw [cond_f (lt_f (by simp))]
  simp only [Option.bind_some]
  rw [subI_eq (x := 0) (y := 0) (by omega) (by omega), subI_eq (x := (l1.length + l2.length : Int)) (by omega) (by omega), cond_f (lt_f (by omega)), cond_t (by simp; omega)]
  have hm : mkc1 32 ((l1.length : Int) + l2.length - (0 - 0)) () = some (List.replicate ((l1.length : Int) + l2.length - (0 - 0)).toNat ()) := by
    unfold mkc1
    rw [if_pos ⟨by omega, by omega, by omega⟩]
  rw [hm]
  simp only [Option.bind_some]
  rw [iter3 (l1, 1) (l1 ++ l2, 2) (l1 ++ l2) ?b0 ?b1 ?b2]
  case b0 =>
    try dsimp only
    rw [cond_t (lt_t (by simp)), show idx [l1, l2] 0 = some l1 from rfl]
    simp only [Option.bind_some]
    rw [appc_eq (by simp only [List.length_nil]; omega) (by simp only [List.length_nil]; omega), addI_eq (x := 0) (y := 1) (by omega) (by omega)]
    rfl
  case b1 =>
    try dsimp only
    rw [cond_t (lt_t (by simp)), show idx [l1, l2] 1 = some l2 from rfl]
    simp only [Option.bind_some]
    rw [appc_eq (by omega) (by omega), addI_eq (x := 1) (y := 1) (by omega) (by omega)]
    rfl
  case b2 =>
    try dsimp only
    rw [cond_f (lt_f (by simp))]
  rfl

/- sums of times -/
theorem ns_pl (p : SPlant) (a b : SSpan) (x : SStep) : ns p (pl a b) x = pl a (ns p b x) := by
  unfold ns pw pl
  simp only [SSpan.mk.injEq]
  omega
theorem nw_pl (p : SPlant) : ∀ (l : List SStep) (a b : SSpan), nw p l (pl a b) = pl a (nw p l b)
  | [], a, b => rfl
  | x :: l, a, b => by
    have := nw_pl p l a (ns p b x)
    unfold nw at this ⊢
    rw [List.foldl_cons, List.foldl_cons, ns_pl]
    exact this
theorem pl_z (a : SSpan) : pl a z0 = a := by
  unfold pl z0; cases a; simp
theorem nw_app (p : SPlant) (l1 l2 : List SStep) : nw p (l1 ++ l2) z0 = pl (nw p l1 z0) (nw p l2 z0) := by
  have e : nw p (l1 ++ l2) z0 = nw p l2 (nw p l1 z0) := by unfold nw; rw [List.foldl_append]
  rw [e, ← nw_pl, pl_z]

/- how long an actuator is out -/
theorem bst_pl (p : SPlant) (i : Int) (a : SSpan) (st : SSpan × Bool) (x : SStep) : bst p i (pl a st.1, st.2) x = (pl a (bst p i st x).1, (bst p i st x).2) := by
  have h1 : pw (pl (pl a st.1) (mvS p x)) x.Wait = pl a (pw (pl st.1 (mvS p x)) x.Wait) := by
    unfold pw pl; simp only [SSpan.mk.injEq]; omega
  unfold bst
  split
  · cases hb : st.2 with
    | true => simp only [cond_true, h1]
    | false => simp only [cond_false, hb]
  · split
    · rfl
    · rename_i y _
      cases y.Out with
      | true => simp only [cond_true, h1]
      | false =>
        simp only [cond_false, Prod.mk.injEq, and_true]
        unfold pl; simp only [SSpan.mk.injEq]; omega
theorem bs_pl (p : SPlant) (i : Int) (a : SSpan) : ∀ (l : List SStep) (st : SSpan × Bool), l.foldl (bst p i) (pl a st.1, st.2) = (pl a (l.foldl (bst p i) st).1, (l.foldl (bst p i) st).2)
  | [], st => rfl
  | x :: l, st => by
    rw [List.foldl_cons, List.foldl_cons, bst_pl]
    exact bs_pl p i a l (bst p i st x)

theorem inc_lt {x : SStep} (h : StepOk x) {i : Nat} : ∀ (j : Nat) (hij : i < j) (hj : j < x.Strokes.length), (x.Strokes[i]'(by omega)).Actuator < x.Strokes[j].Actuator
  | j + 1, hij, hj => by
    have h1 := h.inc j hj
    by_cases e : i = j
    · subst e; exact h1
    · have := inc_lt h (i := i) j (by omega) (by omega)
      omega

theorem upd_hit {x : SStep} (h : StepOk x) (e : Nat → Bool) (b : Nat) : upd x.Strokes e b = match x.Strokes.findIdx? (qa (b : Int)) with
    | none => e b
    | some k => (match x.Strokes[k]? with | some y => y.Out | none => e b) := by
  have keep : ∀ (j k : Nat), j ≤ k → k ≤ x.Strokes.length → (∀ i, j ≤ i → (hi : i < k) → (h2 : i < x.Strokes.length) → x.Strokes[i].Actuator ≠ (b : Int)) → upd (x.Strokes.take k) e b = upd (x.Strokes.take j) e b := by
    intro j k hjk
    induction k with
    | zero => intro _ _; have : j = 0 := by omega
              subst this; rfl
    | succ k ih =>
      intro hk hne
      by_cases hj : j = k + 1
      · subst hj; rfl
      · rw [upd_take (by omega)]
        simp only
        rw [if_neg (hne k (by omega) (by omega) (by omega))]
        exact ih (by omega) (by omega) fun i h1 h2 h3 => hne i h1 (by omega) h3
  have hall : upd x.Strokes e b = upd (x.Strokes.take x.Strokes.length) e b := by rw [List.take_length]
  rw [hall]
  rcases hits x.Strokes (b : Int) with ⟨h1, h2⟩ | ⟨k, hk, h1, h2, h3⟩
  · rw [h1, keep 0 x.Strokes.length (Nat.zero_le _) (Nat.le_refl _) fun i _ hi h9 he => by
      have := h2 i h9
      unfold qa at this
      rw [he] at this; simp at this]
    rfl
  · rw [h1, keep (k + 1) x.Strokes.length hk (Nat.le_refl _) fun i hi1 _ h9 he => by
      have hlt := inc_lt h (i := k) i (by omega) h9
      unfold qa at h2
      simp only [beq_iff_eq] at h2
      omega, upd_take hk]
    unfold qa at h2
    simp only [beq_iff_eq] at h2
    simp only [List.getElem?_eq_getElem hk]
    rw [if_pos h2]

theorem bst_flag {p : SPlant} {x : SStep} (h : StepOk x) (b : Nat) (st : SSpan × Bool) (e : Nat → Bool) (he : st.2 = e b) : (bst p (b : Int) st x).2 = upd x.Strokes e b := by
  rw [upd_hit h]
  unfold bst
  rcases hits x.Strokes (b : Int) with ⟨h1, _⟩ | ⟨k, hk, h1, _, _⟩
  · rw [h1]
    cases hb : st.2 with
    | true => simp only [cond_true]; rw [← he, hb]
    | false => simp only [cond_false]; exact he
  · rw [h1]
    simp only [List.getElem?_eq_getElem hk]
    cases x.Strokes[k].Out <;> rfl
theorem bs_flag {p : SPlant} (b : Nat) : ∀ (l : List SStep) (st : SSpan × Bool) (e : Nat → Bool), (∀ x ∈ l, StepOk x) → st.2 = e b → (l.foldl (bst p (b : Int)) st).2 = l.foldl (fun e x => upd x.Strokes e) e b
  | [], st, e, _, he => he
  | x :: l, st, e, hl, he => by
    rw [List.foldl_cons, List.foldl_cons]
    exact bs_flag b l _ _ (fun y hy => hl y (by simp [hy])) (bst_flag (hl x (by simp)) b st e he)

theorem chk_ends {s : SSequence} (h : chk s = 0) (b : Nat) (hb : (b : Int) < s.Actuators) : ends s s.Steps.length b = false := by
  unfold chk at h
  split at h
  · omega
  split at h
  · omega
  split at h
  · omega
  split at h
  · rename_i r hr
    exfalso
    subst h
    unfold first at hr
    obtain ⟨k, _, hk⟩ := List.exists_of_findSome?_eq_some hr
    unfold seqG at hk
    split at hk
    · simp at hk
    · split at hk
      · rename_i h; injection hk with hk; exact h hk
      · simp at hk
  · split at h
    · omega
    rename_i hany
    cases hv : ends s s.Steps.length b with
    | false => rfl
    | true => exact (hany (List.any_eq_true.2 ⟨b, by rw [List.mem_range]; omega, hv⟩)).elim

theorem busy_flag {s : SSequence} {p : SPlant} (h : chk s = 0) (b : Nat) (hb : (b : Int) < s.Actuators) : (busyT s p (b : Int)).2 = false := by
  have hr := chk_right h
  have := bs_flag (p := p) b s.Steps (z0, false) (fun _ => false) (fun x hx => by
    obtain ⟨i, hi, rfl⟩ := List.getElem_of_mem hx
    exact (hr.step i hi).ok) rfl
  unfold busyT
  rw [this]
  have he := chk_ends h b hb
  unfold ends at he
  rw [List.take_length] at he
  exact he

theorem busy_app {s t : SSequence} {p : SPlant} {n : Int} (i : Int) (h : (busyT s p i).2 = false) : (busyT ⟨n, s.Steps ++ t.Steps⟩ p i).1 = pl (busyT s p i).1 (busyT t p i).1 := by
  unfold busyT at h ⊢
  rw [List.foldl_append]
  have e : s.Steps.foldl (bst p i) (z0, false) = (pl (s.Steps.foldl (bst p i) (z0, false)).1 z0, false) := by
    rw [pl_z]; exact Prod.ext rfl h
  rw [e, bs_pl p i _ t.Steps (z0, false), pl_z]

/-- an actuator is out no longer than the cycle takes -/
theorem bs_le {p : SPlant} (hp : PlG p) (i : Int) : ∀ (l : List SStep) (st : SSpan × Bool) (now : SSpan), (∀ x ∈ l, StG p x) → st.1.High ≤ now.High → (l.foldl (bst p i) st).1.High ≤ (nw p l now).High
  | [], st, now, _, h => h
  | x :: l, st, now, hl, h => by
    have hx := hl x (by simp)
    have hmv := mvS_ok hp hx
    have h1 := hmv.z; have h2 := hmv.le; have h3 := hx.w0
    unfold nw
    rw [List.foldl_cons, List.foldl_cons]
    refine bs_le hp i l _ _ (fun y hy => hl y (by simp [hy])) ?_
    have hfull : (pw (pl st.1 (mvS p x)) x.Wait).High ≤ (ns p now x).High := by
      unfold ns pw pl; simp only; omega
    have hnone : st.1.High ≤ (ns p now x).High := by
      unfold ns pw pl; simp only; omega
    unfold bst
    split
    · cases st.2 with
      | true => exact hfull
      | false => exact hnone
    · split
      · exact hnone
      · rename_i y hy
        have hm := List.mem_of_getElem? hy
        cases y.Out with
        | true => exact hfull
        | false =>
          have hle : (wy p y).High ≤ (mvS p x).High := by
            have : ∀ (l : List SStroke) (m : Int), m ≤ mxH p l m ∧ ∀ y ∈ l, (wy p y).High ≤ mxH p l m := by
              intro l
              induction l with
              | nil => intro m; exact ⟨Int.le_refl _, fun _ h => by simp at h⟩
              | cons z l ih =>
                intro m
                have g := @maxI_ge m (wy p z).High
                have := ih (maxI m (wy p z).High)
                unfold mxH at this ⊢
                rw [List.foldl_cons]
                refine ⟨by omega, fun y hy => ?_⟩
                rw [List.mem_cons] at hy
                rcases hy with rfl | hy
                · omega
                · exact this.2 y hy
            exact (this x.Strokes 0).2 y hm
          show (pl st.1 (wy p y)).High ≤ _
          unfold ns pw pl; simp only; omega

theorem plain10 (s t : SSequence) (p : SPlant) (hs : Small s) (ht : Small t) : m10 s t p = some true := by
  obtain ⟨b, hb, hb2⟩ := m25_eq s p hs
  obtain ⟨b', hb', hb2'⟩ := m25_eq t p ht
  unfold m10
  rw [hb, hb']
  simp only [Option.bind_some]
  cases b with
  | false =>
    simp only [Bool.not_false, cond_true, Option.bind_some]
    rw [awake]; rfl
  | true =>
    cases b' with
    | false =>
      simp only [Bool.not_true, Bool.not_false, cond_true, cond_false, Option.bind_some]
      rw [awake]; rfl
    | true =>
      have h := hb2 rfl
      have h' := hb2' rfl
      obtain ⟨hg, hc, hl, hm⟩ := gd_chk h
      obtain ⟨hg', hc', hl', hm'⟩ := gd_chk h'
      have n0 := hg.n0; have n64 := hg.n64; have n0' := hg'.n0; have n64' := hg'.n64
      simp only [Bool.not_true, cond_false, Option.bind_some]
      rw [m40_eq n0 n64 n64']
      simp only [Option.bind_some]
      have hsb : Small ⟨s.Actuators, s.Steps ++ t.Steps⟩ := ⟨by simp only [List.length_append]; omega, fun x hx => by
        simp only [List.mem_append] at hx
        exact hx.elim (hs.2 x) (ht.2 x)⟩
      obtain ⟨c, hcb, hcb2⟩ := m25_eq ⟨s.Actuators, s.Steps ++ t.Steps⟩ p hsb
      rw [hcb, m41_eq, m42_eq _ hsb, awake]
      simp only [Option.bind_some]
      have fin : ((bif true then (bif chk ⟨s.Actuators, s.Steps ++ t.Steps⟩ != 0 then some true else some (chk ⟨s.Actuators, s.Steps ++ t.Steps⟩ == 0)) else some false : Option Bool).bind fun w13 => some w13) = some true := by
        simp only [cond_true]
        cases e : chk ⟨s.Actuators, s.Steps ++ t.Steps⟩ == 0 with
        | true => rw [show (chk ⟨s.Actuators, s.Steps ++ t.Steps⟩ != 0) = false by simpa using e]; rfl
        | false => rw [show (chk ⟨s.Actuators, s.Steps ++ t.Steps⟩ != 0) = true by simpa using e]; rfl
      cases c with
      | false =>
        simp only [Bool.not_false, cond_true, Option.bind_some]
        exact fin
      | true =>
        simp only [Bool.not_true, cond_false, Option.bind_some]
        have hbo := hcb2 rfl
        obtain ⟨hgb, hcbo, hlb, hmb⟩ := gd_chk hbo
        rw [show (chk ⟨s.Actuators, s.Steps ++ t.Steps⟩ != 0) = false by simpa using hcbo]
        simp only [cond_false]
        have hn : ¬ (chk17 s p ≠ 0) := by simpa using h
        have hn' : ¬ (chk17 t p ≠ 0) := by simpa using h'
        have hnb : ¬ (chk17 ⟨s.Actuators, s.Steps ++ t.Steps⟩ p ≠ 0) := by simpa using hbo
        have htot : tot ⟨s.Actuators, s.Steps ++ t.Steps⟩ p = pl (tot s p) (tot t p) := nw_app p s.Steps t.Steps
        have i1 := nw_in hg.pl s.Steps z0 0 hg.st z0_in
        have i2 := nw_in hg'.pl t.Steps z0 0 hg'.st z0_in
        have j1 := i1.z; have j2 := i1.le; have j3 := i2.z; have j4 := i2.le
        have k1 : 0 ≤ (tot s p).Low ∧ (tot s p).Low ≤ (tot s p).High := ⟨j1, j2⟩
        have k2 : 0 ≤ (tot t p).Low ∧ (tot t p).Low ≤ (tot t p).High := ⟨j3, j4⟩
        rw [m15_eq, m15_eq, m15_eq, if_neg hn, if_neg hn', if_neg hnb, htot]
        simp only [Option.bind_some]
        rw [addI_eq (x := (tot s p).Low) (by omega) (by omega), addI_eq (x := (tot s p).High) (by omega) (by omega)]
        rw [cond_f (by simp [pl, addI]; rfl)]
        have hact : s.Actuators ≤ 6 := (chk_right hc).a6
        have hact1 : 1 ≤ s.Actuators := (chk_right hc).a1
        have hat : t.Actuators = s.Actuators := by omega
        rw [iter_first (fun k : Nat => (k : Int)) (fun _ => none) s.Actuators.toNat ?hn () ?h0 ?h ?he]
        case hn => unfold fuel; omega
        case h0 => rfl
        case he =>
          intro _
          try dsimp only
          rw [cond_f (lt_f (by omega))]
        case h =>
          intro k hk _
          try dsimp only
          have hkA : (k : Int) < s.Actuators := by omega
          rw [cond_t (lt_t hkA), m21_eq, m21_eq, m21_eq, if_neg hn, if_neg hn', if_neg hnb, if_neg (by omega), if_neg (by omega), if_neg (by simp only; omega)]
          simp only [Option.bind_some]
          rw [busy_app (k : Int) (busy_flag hc k hkA)]
          have b1 := bs_in (a := (k : Int)) hg.pl s.Steps (z0, false) 0 hg.st z0_in
          have b2 := bs_in (a := (k : Int)) hg'.pl t.Steps (z0, false) 0 hg'.st z0_in
          have c1 := b1.z; have c2 := b1.le; have c3 := b2.z; have c4 := b2.le
          have d1 := bs_le hg.pl (k : Int) s.Steps (z0, false) z0 hg.st (Int.le_refl _)
          have d2 := bs_le hg'.pl (k : Int) t.Steps (z0, false) z0 hg'.st (Int.le_refl _)
          have e1 : 0 ≤ (busyT s p k).1.Low ∧ (busyT s p k).1.Low ≤ (busyT s p k).1.High ∧ (busyT s p k).1.High ≤ (tot s p).High := ⟨c1, c2, d1⟩
          have e2 : 0 ≤ (busyT t p k).1.Low ∧ (busyT t p k).1.Low ≤ (busyT t p k).1.High ∧ (busyT t p k).1.High ≤ (tot t p).High := ⟨c3, c4, d2⟩
          rw [addI_eq (x := (busyT s p k).1.Low) (by omega) (by omega), addI_eq (x := (busyT s p k).1.High) (by omega) (by omega)]
          have hle : decide ((pl (busyT s p k).1 (busyT t p k).1).High > (pl (tot s p) (tot t p)).High) = false := decide_eq_false (by simp only [pl]; omega)
          rw [hle, addI_nat (by omega)]
          rw [cond_f (by simp [pl, addI]; rfl)]
        rw [first_none (fun _ _ => rfl)]
        rfl
end G17
