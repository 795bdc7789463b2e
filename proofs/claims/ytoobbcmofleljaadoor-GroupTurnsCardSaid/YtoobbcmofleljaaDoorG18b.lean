/- What is right, masks of steps, in plain words. No condition. -/
import Derived.Test.YtoobbcmofleljaaDoorG18M
import Derived.Test.YtoobbcmofleljaaDoorAmP2
namespace G18
open Go Go.Pl

theorem sub_nat {k : Nat} (h : 0 < k) (h2 : k < 9223372036854775807) : subI .i64 (k : Int) 1 = ((k - 1 : Nat) : Int) := by rw [subI_eq (by omega) (by omega)]; omega

def stepG (l : List SStroke) (k : Nat) : Option Int :=
  match l[k]? with
  | none => none
  | some x => if ¬(0 ≤ x.Actuator ∧ x.Actuator < 6) then some 2 else if k = 0 then none else match l[k - 1]? with
     | none => none
     | some y => if x.Actuator = y.Actuator then some 7 else if x.Actuator < y.Actuator then some 9 else none

def stepE (x : SStep) : Int := if x.Strokes.length = 0 then 13 else if 6 < x.Strokes.length then 5 else
  match first x.Strokes.length (stepG x.Strokes) with | some r => r | none => if 0 ≤ x.Wait ∧ x.Wait ≤ 1000000 then 0 else 2

theorem m75_eq (x : SStep) : m75 x = some (stepE x) := by
  unfold m75 stepE
  by_cases h1 : x.Strokes.length = 0
  · rw [cond_t (by simpa using h1), if_pos h1]
  rw [cond_f (by simpa using h1), if_neg h1]
  by_cases h2 : 6 < x.Strokes.length
  · rw [cond_t (by simp; omega), if_pos h2]
  rw [cond_f (by simp; omega), if_neg h2]
  rw [iter_first (fun k : Nat => (k : Int)) (stepG x.Strokes) x.Strokes.length ?hn () ?h0 ?h ?he]
  case hn => unfold fuel; omega
  case h0 => rfl
  case he =>
    intro _
    try dsimp only
    rw [cond_f (lt_f (by omega))]
  case h =>
    intro k hk _
    try dsimp only
    rw [cond_t (lt_t (by omega)), idx_lt hk]
    simp only [Option.bind_some, m82]
    unfold stepG
    rw [List.getElem?_eq_getElem hk]
    dsimp only
    by_cases hA : 0 ≤ x.Strokes[k].Actuator ∧ x.Strokes[k].Actuator < 6
    · rw [if_neg (by simpa using hA), cond_f (by simp [hA])]
      by_cases hk0 : k = 0
      · subst hk0
        simp; rfl
      · rw [if_neg hk0, sub_nat (by omega) (by omega), idx_lt (show k - 1 < x.Strokes.length by omega), List.getElem?_eq_getElem (show k - 1 < x.Strokes.length by omega)]
        have hk1 : decide ((k : Int) > 0) = true := by simp; omega
        simp only [hk1, cond_true, Option.bind_some]
        by_cases h3 : x.Strokes[k].Actuator = x.Strokes[k - 1].Actuator
        · simp [h3]
        · by_cases h4 : x.Strokes[k].Actuator < x.Strokes[k - 1].Actuator
          · rw [if_neg h3, if_pos h4, cond_f (by simpa using h3), cond_t (lt_t h4)]
          · rw [if_neg h3, if_neg h4, cond_f (by simpa using h3), cond_f (lt_f h4), addI_nat (by omega)]
    · rw [if_pos (by simpa using hA), cond_t]
      simp only [Bool.not_eq_true', Bool.and_eq_false_iff, decide_eq_false_iff_not]
      omega
  cases first x.Strokes.length (stepG x.Strokes) with
  | some r => rfl
  | none =>
    simp only [Option.bind_some, Sum.elim_inl, m83]
    by_cases hw : 0 ≤ x.Wait ∧ x.Wait ≤ 1000000
    · rw [if_pos hw, cond_f (by simp [hw])]
    · rw [if_neg hw, cond_t]
      simp only [Bool.not_eq_true', Bool.and_eq_false_iff, decide_eq_false_iff_not]
      omega

theorem m73_eq (x : SStep) : m73 x = some (stepE x) := by
  unfold m73 stepE
  by_cases h1 : x.Strokes.length = 0
  · rw [cond_t (by simpa using h1), if_pos h1]
  rw [cond_f (by simpa using h1), if_neg h1]
  by_cases h2 : 6 < x.Strokes.length
  · rw [cond_t (by simp; omega), if_pos h2]
  rw [cond_f (by simp; omega), if_neg h2]
  rw [iter_first (fun k : Nat => ((k : Int), if h : 0 < k ∧ k - 1 < x.Strokes.length then x.Strokes[k - 1].Actuator else -1)) (stepG x.Strokes) x.Strokes.length ?hn () ?h0 ?h ?he]
  case hn => unfold fuel; omega
  case h0 => rfl
  case he =>
    intro _
    try dsimp only
    rw [cond_f (lt_f (by omega))]
  case h =>
    intro k hk _
    try dsimp only
    rw [cond_t (lt_t (by omega)), idx_lt hk]
    simp only [Option.bind_some, m81]
    unfold stepG
    rw [List.getElem?_eq_getElem hk]
    dsimp only
    have hnext : ∀ h, (if h : 0 < k + 1 ∧ k + 1 - 1 < x.Strokes.length then x.Strokes[k + 1 - 1].Actuator else -1) = (x.Strokes[k]'h).Actuator := by
      intro h; rw [dif_pos ⟨by omega, by omega⟩]; rfl
    by_cases hA : 0 ≤ x.Strokes[k].Actuator ∧ x.Strokes[k].Actuator < 6
    · rw [if_neg (by simpa using hA), cond_f (by simp [hA])]
      by_cases hk0 : k = 0
      · subst hk0
        rw [if_pos rfl, dif_neg (by omega), cond_f (by simp; omega), cond_f (by simp; omega), hnext hk, addI_nat (by omega)]
      · rw [if_neg hk0, dif_pos ⟨by omega, by omega⟩, List.getElem?_eq_getElem (show k - 1 < x.Strokes.length by omega)]
        dsimp only
        by_cases h3 : x.Strokes[k].Actuator = x.Strokes[k - 1].Actuator
        · simp [h3]
        · by_cases h4 : x.Strokes[k].Actuator < x.Strokes[k - 1].Actuator
          · rw [if_neg h3, if_pos h4, cond_f (by simpa using h3), cond_t (lt_t h4)]
          · rw [if_neg h3, if_neg h4, cond_f (by simpa using h3), cond_f (lt_f h4), hnext hk, addI_nat (by omega)]
    · rw [if_pos (by simpa using hA), cond_t]
      simp only [Bool.not_eq_true', Bool.and_eq_false_iff, decide_eq_false_iff_not]
      omega
  cases first x.Strokes.length (stepG x.Strokes) with
  | some r => rfl
  | none =>
    simp only [Option.bind_some, Sum.elim_inl]
    by_cases hw : 0 ≤ x.Wait ∧ x.Wait ≤ 1000000
    · rw [if_pos hw, cond_f (by simp; omega)]
    · rw [if_neg hw, cond_t (by simp; omega)]

structure StepOk (x : SStep) : Prop where
  pos : 0 < x.Strokes.length
  le : x.Strokes.length ≤ 6
  act : ∀ k (h : k < x.Strokes.length), 0 ≤ x.Strokes[k].Actuator ∧ x.Strokes[k].Actuator < 6
  inc : ∀ k (h : k + 1 < x.Strokes.length), x.Strokes[k].Actuator < x.Strokes[k + 1].Actuator
  wait : 0 ≤ x.Wait ∧ x.Wait ≤ 1000000

theorem stepE_ok {x : SStep} (h : stepE x = 0) : StepOk x := by
  unfold stepE at h
  split at h
  · omega
  split at h
  · omega
  rename_i h1 h2
  split at h
  · rename_i r hr
    exfalso
    unfold first at hr
    obtain ⟨k, _, hk⟩ := List.exists_of_findSome?_eq_some hr
    subst h
    unfold stepG at hk
    split at hk
    · simp at hk
    · split at hk
      · simp at hk
      · split at hk
        · simp at hk
        · split at hk
          · simp at hk
          · split at hk
            · simp at hk
            · split at hk <;> simp at hk
  · rename_i hr
    rw [first_none_iff] at hr
    have ha : ∀ k (h : k < x.Strokes.length), 0 ≤ x.Strokes[k].Actuator ∧ x.Strokes[k].Actuator < 6 := by
      intro k hk
      have := hr k hk
      unfold stepG at this
      rw [List.getElem?_eq_getElem hk] at this
      dsimp only at this
      refine Classical.byContradiction fun hc => ?_
      rw [if_pos hc] at this
      simp at this
    refine ⟨by omega, by omega, ha, fun k hk => ?_, ?_⟩
    · have := hr (k + 1) hk
      unfold stepG at this
      rw [List.getElem?_eq_getElem hk, Nat.add_sub_cancel, List.getElem?_eq_getElem (show k < x.Strokes.length by omega)] at this
      dsimp only at this
      rw [if_neg (by simpa using ha (k + 1) hk), if_neg (by omega)] at this
      by_cases e : x.Strokes[k + 1].Actuator = x.Strokes[k].Actuator
      · rw [if_pos e] at this; simp at this
      · rw [if_neg e] at this
        by_cases e2 : x.Strokes[k + 1].Actuator < x.Strokes[k].Actuator
        · rw [if_pos e2] at this; simp at this
        · omega
    · by_cases hw : 0 ≤ x.Wait ∧ x.Wait ≤ 1000000
      · exact hw
      · rw [if_neg hw] at h; omega

/- what the strokes of a step do -/
def upd (l : List SStroke) (e : Nat → Bool) : Nat → Bool := l.foldl (fun e y => fun a => if y.Actuator = (a : Int) then y.Out else e a) e

theorem upd_take {l : List SStroke} {k : Nat} (h : k < l.length) (e : Nat → Bool) : upd (l.take (k + 1)) e = fun a : Nat => if l[k].Actuator = (a : Int) then l[k].Out else upd (l.take k) e a := by
  unfold upd
  rw [List.take_add_one, List.getElem?_eq_getElem h, List.foldl_append]
  rfl

theorem map_set (n : Nat) (e : Nat → Bool) (a : Int) (v : Bool) (h0 : 0 ≤ a) : ((List.range n).map e).set a.toNat v = (List.range n).map (fun b : Nat => if a = (b : Int) then v else e b) := by
  apply List.ext_getElem
  · simp
  · intro i h1 h2
    simp at h1
    simp only [List.getElem_set, List.getElem_map, List.getElem_range]
    by_cases hi : a.toNat = i
    · rw [if_pos hi, if_pos (by omega)]
    · rw [if_neg hi, if_neg (by omega)]

theorem m77_eq (x : SStep) (n : Nat) (hn : n ≤ 6) (e : Nat → Bool) (hx : x.Strokes.length ≤ 6) (ha : ∀ k (h : k < x.Strokes.length), 0 ≤ x.Strokes[k].Actuator ∧ x.Strokes[k].Actuator < n) :
    m77 x ((List.range n).map e) = some ((List.range n).map (upd x.Strokes e)) := by
  unfold m77
  rw [appc_eq (by simp; omega) (by simp; omega)]
  simp only [Option.bind_some, List.nil_append]
  rw [iter_fold (fun k : Nat => ((List.range n).map (upd (x.Strokes.take k) e), (k : Int))) x.Strokes.length ?hn ((List.range n).map (upd x.Strokes e)) ?h0 ?h ?he]
  case hn => unfold fuel; omega
  case h0 => rfl
  case he =>
    try dsimp only
    rw [cond_f (lt_f (by omega)), List.take_of_length_le (Nat.le_refl _)]
  case h =>
    intro k hk
    try dsimp only
    obtain ⟨h1, h2⟩ := ha k hk
    rw [cond_t (lt_t (by omega)), idx_lt hk]
    simp only [Option.bind_some]
    obtain ⟨h3, h4⟩ := idx_int (l := (List.range n).map (upd (x.Strokes.take k) e)) h1 (by simpa using h2)
    rw [h4]
    simp only [Option.bind_some]
    rw [map_set _ _ _ _ h1, addI_nat (by omega), upd_take hk]
  rfl

def arrOf (e : Nat → Bool) : Arr 6 Bool := ⟨(List.range 6).map e, by simp⟩
theorem arrOf_put (e : Nat → Bool) (a : Int) (v : Bool) (h : 0 ≤ a) : (arrOf e).put a.toNat v = arrOf (fun b : Nat => if a = (b : Int) then v else e b) := Subtype.ext (map_set 6 e a v h)
theorem arrOf_idx (e : Nat → Bool) {a : Int} (h : 0 ≤ a) (h2 : a < 6) : aidx (arrOf e) a = some (e a.toNat) := by
  unfold aidx idx
  rw [if_pos h]
  have : a.toNat < 6 := by omega
  simp [arrOf, this]

theorem m60_eq (x : SStep) (e : Nat → Bool) (hx : x.Strokes.length ≤ 6) (ha : ∀ k (h : k < x.Strokes.length), 0 ≤ x.Strokes[k].Actuator ∧ x.Strokes[k].Actuator < 6) :
    m60 (arrOf e) x = some (arrOf (upd x.Strokes e)) := by
  unfold m60
  rw [iter_fold (fun k : Nat => (arrOf (upd (x.Strokes.take k) e), (k : Int))) x.Strokes.length ?hn (arrOf (upd x.Strokes e)) ?h0 ?h ?he]
  case hn => unfold fuel; omega
  case h0 => rfl
  case he =>
    try dsimp only
    rw [cond_f (lt_f (by omega)), List.take_of_length_le (Nat.le_refl _)]
  case h =>
    intro k hk
    try dsimp only
    obtain ⟨h1, h2⟩ := ha k hk
    rw [cond_t (lt_t (by omega)), idx_lt hk]
    simp only [Option.bind_some]
    rw [arrOf_idx _ h1 h2]
    simp only [Option.bind_some]
    rw [arrOf_put _ _ _ h1, addI_nat (by omega), upd_take hk]
  rfl

/-- does a stroke go where its actuator is? -/
def clash (x : SStep) (e : Nat → Bool) : Bool := x.Strokes.any fun y => e y.Actuator.toNat == y.Out

theorem m76_eq (x : SStep) (n : Nat) (hn : n ≤ 6) (e : Nat → Bool) (hx : x.Strokes.length ≤ 6) (ha : ∀ k (h : k < x.Strokes.length), 0 ≤ x.Strokes[k].Actuator ∧ x.Strokes[k].Actuator < n) :
    m76 x ((List.range n).map e) = some (!clash x e) := by
  unfold m76
  rw [iter_list x.Strokes (fun y => bif e y.Actuator.toNat == y.Out then some false else none) ?hn () ?h0 ?h ?he]
  case hn => unfold fuel; omega
  case h0 => rfl
  case he =>
    try dsimp only
    rw [cond_f (lt_f (by omega))]
  case h =>
    intro k hk
    try dsimp only
    obtain ⟨h1, h2⟩ := ha k hk
    rw [cond_t (lt_t (by omega)), idx_lt hk]
    simp only [Option.bind_some]
    obtain ⟨h3, h4⟩ := idx_int (l := (List.range n).map e) h1 (by simpa using h2)
    rw [cond_f (by simp; omega), h4]
    simp only [Option.bind_some, List.getElem_map, List.getElem_range]
    rw [addI_nat (by omega)]
    cases e x.Strokes[k].Actuator.toNat == x.Strokes[k].Out <;> rfl
  rw [findSome_if]
  unfold clash
  cases x.Strokes.any fun y => e y.Actuator.toNat == y.Out <;> rfl

def far (s : SSequence) (x : SStep) : Bool := x.Strokes.any fun y => decide (y.Actuator ≥ s.Actuators)
theorem far_f {s : SSequence} {x : SStep} (h : far s x = false) : ∀ k (h : k < x.Strokes.length), x.Strokes[k].Actuator < s.Actuators := by
  intro k hk
  unfold far at h
  rw [List.any_eq_false] at h
  have := h x.Strokes[k] (List.getElem_mem hk)
  simp at this; omega

/-- what is wrong with a step, when the actuators are where e says -/
def stE (s : SSequence) (x : SStep) (e : Nat → Bool) : Int := if stepE x ≠ 0 then stepE x else if far s x = true then 6 else if clash x e = true then 14 else 0

theorem m59_eq (s : SSequence) (x : SStep) (e : Nat → Bool) : m59 s x (arrOf e) = some (stE s x e) := by
  unfold m59 stE
  rw [m73_eq]
  simp only [Option.bind_some]
  by_cases h0 : stepE x = 0
  · have ho := stepE_ok h0
    rw [cond_f (by simpa using h0), if_neg (by simpa using h0)]
    have hlen := ho.le
    rw [iter_list x.Strokes (fun y => bif decide (y.Actuator ≥ s.Actuators) then some 6 else none) ?hn () ?h0 ?h ?he]
    case hn => unfold fuel; omega
    case h0 => rfl
    case he =>
      try dsimp only
      rw [cond_f (lt_f (by omega))]
    case h =>
      intro k hk
      try dsimp only
      rw [cond_t (lt_t (by omega)), idx_lt hk]
      simp only [Option.bind_some]
      rw [addI_nat (by omega)]
      cases decide (x.Strokes[k].Actuator ≥ s.Actuators) <;> rfl
    rw [findSome_if]
    unfold far
    cases hf : x.Strokes.any fun y => decide (y.Actuator ≥ s.Actuators) with
    | true => rfl
    | false =>
      simp only [cond_false, Option.bind_some, Sum.elim_inl, Bool.false_eq_true, if_false]
      rw [iter_list x.Strokes (fun y => bif e y.Actuator.toNat == y.Out then some 14 else none) ?hn () ?h0 ?h ?he]
      case hn => unfold fuel; omega
      case h0 => rfl
      case he =>
        try dsimp only
        rw [cond_f (lt_f (by omega))]
      case h =>
        intro k hk
        try dsimp only
        obtain ⟨h1, h2⟩ := ho.act k hk
        rw [cond_t (lt_t (by omega)), idx_lt hk]
        simp only [Option.bind_some]
        rw [arrOf_idx _ h1 h2, addI_nat (by omega)]
        simp only [Option.bind_some]
        cases e x.Strokes[k].Actuator.toNat == x.Strokes[k].Out <;> rfl
      rw [findSome_if]
      unfold clash
      cases x.Strokes.any fun y => e y.Actuator.toNat == y.Out <;> rfl
  · rw [cond_t (by simpa using h0), if_pos h0]

/-- where the actuators are behind k steps -/
def ends (s : SSequence) (k : Nat) : Nat → Bool := (s.Steps.take k).foldl (fun e x => upd x.Strokes e) (fun _ => false)
theorem ends_succ {s : SSequence} {k : Nat} (h : k < s.Steps.length) : ends s (k + 1) = upd s.Steps[k].Strokes (ends s k) := by
  unfold ends
  rw [List.take_add_one, List.getElem?_eq_getElem h, List.foldl_append]
  rfl
def mvs (l : List SStroke) (e : Nat → Bool) : Nat → Bool := l.foldl (fun e y => fun a => if y.Actuator = (a : Int) then true else e a) e
def moved (s : SSequence) (k : Nat) : Nat → Bool := (s.Steps.take k).foldl (fun e x => mvs x.Strokes e) (fun _ => false)
theorem moved_succ {s : SSequence} {k : Nat} (h : k < s.Steps.length) : moved s (k + 1) = mvs s.Steps[k].Strokes (moved s k) := by
  unfold moved
  rw [List.take_add_one, List.getElem?_eq_getElem h, List.foldl_append]
  rfl

def seqG (s : SSequence) (k : Nat) : Option Int := match s.Steps[k]? with
  | none => none
  | some x => if stE s x (ends s k) ≠ 0 then some (stE s x (ends s k)) else none

theorem seqG_some {s : SSequence} {k : Nat} {r : Int} (hk : k < s.Steps.length) (h : stE s s.Steps[k] (ends s k) = r) (hr : r ≠ 0) : seqG s k = some r := by
  unfold seqG
  rw [List.getElem?_eq_getElem hk]
  dsimp only
  rw [h, if_pos hr]
theorem seqG_zero {s : SSequence} {k : Nat} (hk : k < s.Steps.length) (h : stE s s.Steps[k] (ends s k) = 0) : seqG s k = none := by
  unfold seqG
  rw [List.getElem?_eq_getElem hk]
  dsimp only
  rw [h, if_neg (by simp)]

structure StepIn (s : SSequence) (x : SStep) : Prop where
  ok : StepOk x
  far : ∀ k (h : k < x.Strokes.length), x.Strokes[k].Actuator < s.Actuators

theorem seqG_none {s : SSequence} {k : Nat} (hk : k < s.Steps.length) (h : seqG s k = none) : StepIn s s.Steps[k] ∧ clash s.Steps[k] (ends s k) = false := by
  unfold seqG at h
  rw [List.getElem?_eq_getElem hk] at h
  dsimp only at h
  by_cases h0 : stE s s.Steps[k] (ends s k) ≠ 0
  · rw [if_pos h0] at h; simp at h
  · have h1 : stE s s.Steps[k] (ends s k) = 0 := by simpa using h0
    unfold stE at h1
    split at h1
    · rename_i h2; exact (h2 h1).elim
    · split at h1
      · omega
      · split at h1
        · omega
        · rename_i a b c
          exact ⟨⟨stepE_ok (by simpa using a), far_f (by simpa using b)⟩, by simpa using c⟩

def way (x : SStep) (a : Int) : Int := match x.Strokes.findSome? (fun y => bif y.Actuator == a then some (if y.Out then (1 : Int) else -1) else none) with | some r => r | none => 0
def hasA (x : SStep) (a : Int) : Bool := x.Strokes.any fun y => y.Actuator == a

theorem m53_eq (x : SStep) (a : Int) (hx : x.Strokes.length ≤ 9223372036854775807) : m53 x a = some (way x a) := by
  unfold m53 way
  rw [iter_list x.Strokes (fun y => bif y.Actuator == a then some (if y.Out then (1 : Int) else -1) else none) ?hn () ?h0 ?h ?he]
  case hn => unfold fuel; omega
  case h0 => rfl
  case he =>
    try dsimp only
    rw [cond_f (lt_f (by omega))]
  case h =>
    intro k hk
    try dsimp only
    rw [cond_t (lt_t (by omega)), idx_lt hk]
    simp only [Option.bind_some]
    rw [addI_nat (by omega)]
    cases x.Strokes[k].Actuator == a <;> cases x.Strokes[k].Out <;> rfl
  cases x.Strokes.findSome? (fun y => bif y.Actuator == a then some (if y.Out then (1 : Int) else -1) else none) <;> rfl

theorem way_ne (x : SStep) (a : Int) : (way x a != 0) = hasA x a := by
  unfold way hasA
  induction x.Strokes with
  | nil => rfl
  | cons y l ih =>
    rw [List.findSome?_cons, List.any_cons]
    cases h : y.Actuator == a with
    | true => cases y.Out <;> rfl
    | false => simpa using ih

theorem mvs_eq (l : List SStroke) (e : Nat → Bool) (a : Nat) : mvs l e a = (e a || l.any fun y => y.Actuator == (a : Int)) := by
  induction l generalizing e with
  | nil => simp [mvs]
  | cons y l ih =>
    have : mvs (y :: l) e = mvs l (fun a : Nat => if y.Actuator = (a : Int) then true else e a) := rfl
    rw [this, ih, List.any_cons]
    by_cases h : y.Actuator = (a : Int)
    · simp [h]
    · have hb : (y.Actuator == (a : Int)) = false := by simpa using h
      rw [hb, if_neg h, Bool.false_or]

theorem moved_eq (s : SSequence) (a : Nat) : ∀ k, k ≤ s.Steps.length → moved s k a = (s.Steps.take k).any fun x => hasA x a := by
  intro k
  induction k with
  | zero => intro _; simp [moved]
  | succ k ih =>
    intro hk
    rw [moved_succ (by omega), mvs_eq, ih (by omega), List.take_add_one, List.getElem?_eq_getElem (by omega), List.any_append]
    simp [hasA]

theorem m63_eq (s : SSequence) (a : Int) (hs : s.Steps.length ≤ 9223372036854775807) (hx : ∀ x ∈ s.Steps, x.Strokes.length ≤ 9223372036854775807) : m63 s a = some (s.Steps.any fun x => hasA x a) := by
  unfold m63
  rw [iter_list s.Steps (fun x => bif hasA x a then some true else none) ?hn () ?h0 ?h ?he]
  case hn => unfold fuel; omega
  case h0 => rfl
  case he =>
    try dsimp only
    rw [cond_f (lt_f (by omega))]
  case h =>
    intro k hk
    try dsimp only
    rw [cond_t (lt_t (by omega)), idx_lt hk]
    simp only [Option.bind_some]
    rw [m53_eq _ _ (hx _ (List.getElem_mem hk)), addI_nat (by omega)]
    simp only [Option.bind_some, way_ne]
    cases hasA s.Steps[k] a <;> rfl
  rw [findSome_if]
  cases s.Steps.any fun x => hasA x a <;> rfl

theorem ends_far {s : SSequence} {a : Nat} (ha : s.Actuators ≤ a) : ∀ k, k ≤ s.Steps.length → (∀ j, j < k → seqG s j = none) → ends s k a = false := by
  intro k
  induction k with
  | zero => intro _ _; simp [ends]
  | succ k ih =>
    intro hk hj
    have h1 := ih (by omega) (fun j hj' => hj j (by omega))
    obtain ⟨h2, _⟩ := seqG_none (show k < s.Steps.length by omega) (hj k (by omega))
    rw [ends_succ (by omega)]
    have key : ∀ l : List SStroke, (∀ y ∈ l, y.Actuator < s.Actuators) → ∀ e : Nat → Bool, upd l e a = e a := by
      intro l
      induction l with
      | nil => intro _ e; rfl
      | cons y l ihl =>
        intro hl e
        have : upd (y :: l) e = upd l (fun a : Nat => if y.Actuator = (a : Int) then y.Out else e a) := rfl
        rw [this, ihl (fun z hz => hl z (by simp [hz]))]
        have := hl y (by simp)
        rw [if_neg (by omega)]
    rw [key _ ?_]
    · exact h1
    · intro y hy
      obtain ⟨i, hi, rfl⟩ := List.getElem_of_mem hy
      exact h2.far i hi

/-- what is wrong with a sequence: 0 if nothing is -/
def chk (s : SSequence) : Int :=
  if s.Actuators < 1 ∨ 6 < s.Actuators then 2 else if s.Steps.length = 0 then 13 else if 64 < s.Steps.length then 5 else
  match first s.Steps.length (seqG s) with
  | some r => r
  | none => if (List.range s.Actuators.toNat).any (ends s s.Steps.length) = true then 9 else if (List.range s.Actuators.toNat).all (moved s s.Steps.length) = true then 0 else 13

def seqE (s : SSequence) : Int := match first s.Steps.length (seqG s) with
  | some r => r
  | none => if (List.range s.Actuators.toNat).any (ends s s.Steps.length) = true then 9 else 0

theorem m62_eq (s : SSequence) (h1 : 1 ≤ s.Actuators) (h6 : s.Actuators ≤ 6) (hs : s.Steps.length ≤ 64) : m62 s = some (seqE s) := by
  unfold m62 seqE
  have hmk : mkc 1 s.Actuators false = some (List.replicate s.Actuators.toNat false) := by
    unfold mkc; rw [if_pos ⟨by omega, by omega, by omega⟩]
  rw [hmk]
  simp only [Option.bind_some]
  have hA : s.Actuators.toNat ≤ 6 := by omega
  rw [iter_first (fun k : Nat => ((List.range s.Actuators.toNat).map (ends s k), (k : Int))) (seqG s) s.Steps.length ?hn ((List.range s.Actuators.toNat).map (ends s s.Steps.length)) ?h0 ?h ?he]
  case hn => unfold fuel; omega
  case h0 =>
    have : (List.range s.Actuators.toNat).map (ends s 0) = List.replicate s.Actuators.toNat false := by
      apply List.ext_getElem
      · simp
      · intro i h1 h2; simp [ends]
    rw [this]; rfl
  case he =>
    intro _
    try dsimp only
    rw [cond_f (lt_f (by omega))]
  case h =>
    intro k hk hj
    try dsimp only
    rw [cond_t (lt_t (by omega)), idx_lt hk]
    simp only [Option.bind_some]
    rw [m75_eq]
    simp only [Option.bind_some]
    by_cases e0 : stepE s.Steps[k] = 0
    · have ho := stepE_ok e0
      have hle := ho.le
      rw [cond_f (by simpa using e0)]
      rw [iter_list s.Steps[k].Strokes (fun y => bif decide (y.Actuator ≥ s.Actuators) then some (.inr (.inr 6)) else none) ?hn () ?h0 ?h ?he]
      case hn => unfold fuel; omega
      case h0 => rfl
      case he =>
        try dsimp only
        rw [cond_f (lt_f (by omega))]
      case h =>
        intro i hi
        try dsimp only
        rw [cond_t (lt_t (by omega)), idx_lt hi]
        simp only [Option.bind_some]
        rw [addI_nat (by omega)]
        cases decide (s.Steps[k].Strokes[i].Actuator ≥ s.Actuators) <;> rfl
      rw [findSome_if]
      have hfd : (s.Steps[k].Strokes.any fun y => decide (y.Actuator ≥ s.Actuators)) = far s s.Steps[k] := rfl
      rw [hfd]
      cases hf : far s s.Steps[k] with
      | true =>
        rw [seqG_some hk (r := 6) (by unfold stE; rw [if_neg (by simpa using e0), if_pos hf]) (by decide)]
        rfl
      | false =>
        have hfar := far_f hf
        have ha : ∀ i (h : i < s.Steps[k].Strokes.length), 0 ≤ s.Steps[k].Strokes[i].Actuator ∧ s.Steps[k].Strokes[i].Actuator < (s.Actuators.toNat : Int) := fun i hi => ⟨(ho.act i hi).1, by have := hfar i hi; omega⟩
        simp only [cond_false, Option.bind_some, Sum.elim_inl, Bool.false_eq_true, if_false]
        rw [m76_eq _ _ hA _ ho.le ha]
        simp only [Option.bind_some, Bool.not_not]
        cases hc : clash s.Steps[k] (ends s k) with
        | true =>
          rw [seqG_some hk (r := 14) (by unfold stE; rw [if_neg (by simpa using e0), if_neg (by simp [hf]), if_pos hc]) (by decide)]
          rfl
        | false =>
          rw [seqG_zero hk (by unfold stE; rw [if_neg (by simpa using e0), if_neg (by simp [hf]), if_neg (by simp [hc])])]
          simp only [cond_false]
          rw [m77_eq _ _ hA _ ho.le ha, addI_nat (by omega), ends_succ hk]
          rfl
    · rw [cond_t (by simpa using e0), seqG_some hk (by unfold stE; rw [if_pos e0]) e0]
  cases hfst : first s.Steps.length (seqG s) with
  | some r => rfl
  | none =>
    simp only [Option.bind_some, Sum.elim_inl]
    rw [iter_list (List.range s.Actuators.toNat) (fun a => bif ends s s.Steps.length a then some 9 else none) ?hn () ?h0 ?h ?he]
    case hn => unfold fuel; simp; omega
    case h0 => rfl
    case he =>
      try dsimp only
      rw [cond_f (lt_f (by simp; omega))]
    case h =>
      intro k hk
      have hk' : k < s.Actuators.toNat := by simpa using hk
      try dsimp only
      rw [cond_t (lt_t (by omega)), idx_lt (by simpa using hk)]
      simp only [Option.bind_some, List.getElem_map, List.getElem_range]
      rw [addI_nat (by omega)]
      cases ends s s.Steps.length k <;> rfl
    rw [findSome_if]
    cases (List.range s.Actuators.toNat).any (ends s s.Steps.length) <;> rfl
end G18

namespace G18
open Go Go.Pl

/-- lists as long as memory allows -/
def Small (s : SSequence) : Prop := s.Steps.length ≤ 9223372036854775807 ∧ ∀ x ∈ s.Steps, x.Strokes.length ≤ 9223372036854775807

theorem m37_eq (s : SSequence) (hs : Small s) : m37 s = some (chk s) := by
  unfold m37 chk
  by_cases h1 : s.Actuators < 1 ∨ 6 < s.Actuators
  · rw [cond_t (by simp only [Bool.or_eq_true, decide_eq_true_eq]; omega), if_pos h1]
  rw [cond_f (by simp only [Bool.or_eq_false_iff, decide_eq_false_iff_not]; omega), if_neg h1]
  by_cases h2 : s.Steps.length = 0
  · rw [cond_t (by simpa using h2), if_pos h2]
  rw [cond_f (by simpa using h2), if_neg h2]
  by_cases h3 : 64 < s.Steps.length
  · rw [cond_t (by simp; omega), if_pos h3]
  rw [cond_f (by simp; omega), if_neg h3, m62_eq s (by omega) (by omega) (by omega)]
  simp only [Option.bind_some]
  unfold seqE
  cases hf : first s.Steps.length (seqG s) with
  | some r =>
    have hr : r ≠ 0 := by
      unfold first at hf
      obtain ⟨k, _, hk⟩ := List.exists_of_findSome?_eq_some hf
      unfold seqG at hk
      split at hk
      · simp at hk
      · split at hk
        · rename_i h; injection hk with hk; rw [← hk]; exact h
        · simp at hk
    simp only
    rw [cond_t (by simpa using hr)]
  | none =>
    simp only
    by_cases h9 : (List.range s.Actuators.toNat).any (ends s s.Steps.length) = true
    · rw [if_pos h9, if_pos h9]; rfl
    rw [if_neg h9, if_neg h9, cond_f (by rfl)]
    rw [iter_list (List.range s.Actuators.toNat) (fun a => bif !moved s s.Steps.length a then some 13 else none) ?hn () ?h0 ?h ?he]
    case hn => unfold fuel; simp; omega
    case h0 => rfl
    case he =>
      try dsimp only
      rw [cond_f (lt_f (by simp; omega))]
    case h =>
      intro k hk
      have hk' : k < s.Actuators.toNat := by simpa using hk
      try dsimp only
      rw [cond_t (lt_t (by omega)), m63_eq s _ hs.1 hs.2]
      simp only [Option.bind_some, List.getElem_range]
      rw [addI_nat (by omega), moved_eq s k _ (Nat.le_refl _), List.take_of_length_le (Nat.le_refl _)]
      cases s.Steps.any fun x => hasA x (k : Int) <;> rfl
    rw [findSome_if]
    have : (List.range s.Actuators.toNat).any (fun a => !moved s s.Steps.length a) = !(List.range s.Actuators.toNat).all (moved s s.Steps.length) := by
      rw [List.not_all_eq_any_not]
    rw [this]
    cases (List.range s.Actuators.toNat).all (moved s s.Steps.length) <;> rfl

theorem mvs_take {l : List SStroke} {k : Nat} (h : k < l.length) (e : Nat → Bool) : mvs (l.take (k + 1)) e = fun a : Nat => if l[k].Actuator = (a : Int) then true else mvs (l.take k) e a := by
  unfold mvs
  rw [List.take_add_one, List.getElem?_eq_getElem h, List.foldl_append]
  rfl

theorem m61_eq (l : List Bool) (hl : l.length ≤ 6) : m61 l false = some (l.any fun b => b == false) := by
  unfold m61 m74
  rw [iter_first (fun k : Nat => (k : Int)) (fun k => match l[k]? with | some b => bif b == false then some (k : Int) else none | none => none) l.length ?hn () ?h0 ?h ?he]
  case hn => unfold fuel; omega
  case h0 => rfl
  case he =>
    intro _
    try dsimp only
    rw [cond_f (lt_f (by omega))]
  case h =>
    intro k hk _
    try dsimp only
    rw [cond_t (lt_t (by omega)), idx_lt hk, List.getElem?_eq_getElem hk]
    simp only [Option.bind_some]
    rw [addI_nat (by omega)]
    cases l[k] <;> rfl
  cases hf : first l.length (fun k => match l[k]? with | some b => bif b == false then some (k : Int) else none | none => none) with
  | none =>
    rw [first_none_iff] at hf
    have : (l.any fun b => b == false) = false := by
      rw [List.any_eq_false]
      intro b hb
      obtain ⟨k, hk, rfl⟩ := List.getElem_of_mem hb
      have := hf k hk
      rw [List.getElem?_eq_getElem hk] at this
      dsimp only at this
      intro hc
      rw [hc] at this
      simp at this
    rw [this]; rfl
  | some r =>
    unfold first at hf
    obtain ⟨k, hk, hr⟩ := List.exists_of_findSome?_eq_some hf
    have hk' : k < l.length := by simpa using hk
    rw [List.getElem?_eq_getElem hk'] at hr
    dsimp only at hr
    cases hb : l[k] == false with
    | false => rw [hb] at hr; simp at hr
    | true =>
      rw [hb] at hr
      simp only [cond_true, Option.some.injEq] at hr
      have : (l.any fun b => b == false) = true := by
        rw [List.any_eq_true]
        exact ⟨l[k], List.getElem_mem hk', hb⟩
      rw [this]
      subst hr
      simp only [Option.bind_some, Sum.elim_inr]
      simp

theorem m35_eq (s : SSequence) : m35 s = some (chk s) := by
  unfold m35 chk
  by_cases h1 : s.Actuators < 1 ∨ 6 < s.Actuators
  · rw [cond_t (by simp only [Bool.or_eq_true, decide_eq_true_eq]; omega), if_pos h1]
  rw [cond_f (by simp only [Bool.or_eq_false_iff, decide_eq_false_iff_not]; omega), if_neg h1]
  by_cases h2 : s.Steps.length = 0
  · rw [cond_t (by simpa using h2), if_pos h2]
  rw [cond_f (by simpa using h2), if_neg h2]
  by_cases h3 : 64 < s.Steps.length
  · rw [cond_t (by simp; omega), if_pos h3]
  rw [cond_f (by simp; omega), if_neg h3]
  rw [iter_first (fun k : Nat => (arrOf (ends s k), arrOf (moved s k), (k : Int))) (seqG s) s.Steps.length ?hn (arrOf (ends s s.Steps.length), arrOf (moved s s.Steps.length)) ?h0 ?h ?he]
  case hn => unfold fuel; omega
  case h0 => rfl
  case he =>
    intro _
    try dsimp only
    rw [cond_f (lt_f (by omega))]
  case h =>
    intro k hk hj
    try dsimp only
    rw [cond_t (lt_t (by omega)), idx_lt hk]
    simp only [Option.bind_some]
    rw [m59_eq]
    simp only [Option.bind_some]
    by_cases e0 : stE s s.Steps[k] (ends s k) = 0
    · have hg := seqG_zero hk e0
      obtain ⟨h4, _⟩ := seqG_none hk hg
      have hle := h4.ok.le
      rw [cond_f (by simpa using e0), hg, m60_eq _ _ h4.ok.le h4.ok.act]
      simp only [Option.bind_some]
      rw [iter_fold (fun i : Nat => (arrOf (mvs (s.Steps[k].Strokes.take i) (moved s k)), (i : Int))) s.Steps[k].Strokes.length ?hn (arrOf (moved s (k + 1))) ?h0 ?h ?he]
      case hn => unfold fuel; omega
      case h0 => rfl
      case he =>
        try dsimp only
        rw [cond_f (lt_f (by omega)), List.take_of_length_le (Nat.le_refl _), moved_succ hk]
      case h =>
        intro i hi
        try dsimp only
        obtain ⟨h5, h6⟩ := h4.ok.act i hi
        rw [cond_t (lt_t (by omega)), idx_lt hi]
        simp only [Option.bind_some]
        rw [arrOf_idx _ h5 h6]
        simp only [Option.bind_some]
        rw [arrOf_put _ _ _ h5, addI_nat (by omega), mvs_take hi]
      simp only [Option.bind_some]
      rw [addI_nat (by omega), ends_succ hk]
    · rw [cond_t (by simpa using e0), seqG_some hk rfl e0]
  cases hf : first s.Steps.length (seqG s) with
  | some r => rfl
  | none =>
    simp only [Option.bind_some, Sum.elim_inl]
    have hfar : ∀ a : Nat, s.Actuators ≤ a → ends s s.Steps.length a = false := fun a ha => ends_far ha _ (Nat.le_refl _) (fun j hj => (first_none_iff.1 hf) j hj)
    have he : ((arrOf (ends s s.Steps.length)).1 == (Arr.rep 6 false).1) = !(List.range s.Actuators.toNat).any (ends s s.Steps.length) := by
      have hz : ((arrOf (ends s s.Steps.length)).1 = (Arr.rep 6 false).1) ↔ (List.range s.Actuators.toNat).any (ends s s.Steps.length) = false := by
        rw [List.any_eq_false]
        constructor
        · intro h a ha
          have ha' : a < s.Actuators.toNat := List.mem_range.1 ha
          have := congrArg (fun l => l[a]?) h
          have h6 : a < 6 := by omega
          have h7 : (arrOf (ends s s.Steps.length)).1[a]? = some (ends s s.Steps.length a) := by
            simp only [arrOf, List.getElem?_map, List.getElem?_range h6, Option.map_some]
          have h8 : (Arr.rep 6 false).1[a]? = some false := by
            simp only [Arr.rep, List.getElem?_replicate, if_pos h6]
          simp only [h7, h8, Option.some.injEq] at this
          simp [this]
        · intro h
          apply List.ext_getElem
          · simp [arrOf, Arr.rep]
          · intro a h1 h2
            simp only [arrOf, Arr.rep, List.getElem_map, List.getElem_range, List.getElem_replicate]
            by_cases ha : a < s.Actuators.toNat
            · have := h a (List.mem_range.2 ha); simpa using this
            · exact hfar a (by omega)
      cases hb : (List.range s.Actuators.toNat).any (ends s s.Steps.length) with
      | false => rw [hz.2 hb]; simp
      | true =>
        rw [Bool.not_true, beq_eq_false_iff_ne]
        intro hc
        rw [hz.1 hc] at hb; simp at hb
    rw [he]
    by_cases h9 : (List.range s.Actuators.toNat).any (ends s s.Steps.length) = true
    · rw [if_pos h9, h9]; rfl
    · rw [if_neg h9]
      simp only [Bool.not_eq_true] at h9
      rw [h9]
      have hsl : slcc (arrOf (moved s s.Steps.length)).1 none (some s.Actuators) = some ((List.range s.Actuators.toNat).map (moved s s.Steps.length)) := by
        unfold slcc
        rw [if_pos ⟨by simp, by simp; omega, by simp [arrOf]; omega⟩]
        congr 1
        apply List.ext_getElem
        · simp [arrOf]; omega
        · intro i h1 h2; simp [arrOf]
      simp only [Bool.not_false, bne_self_eq_false, cond_false]
      rw [hsl]
      simp only [Option.bind_some]
      rw [m61_eq _ (by simp; omega)]
      simp only [Option.bind_some, List.any_map]
      have : (List.range s.Actuators.toNat).any ((fun b => b == false) ∘ moved s s.Steps.length) = !(List.range s.Actuators.toNat).all (moved s s.Steps.length) := by
        rw [List.not_all_eq_any_not]
        congr 1
        funext a
        simp
      rw [this]
      cases (List.range s.Actuators.toNat).all (moved s s.Steps.length) <;> rfl
end G18

namespace G18
open Go Go.Pl

structure Right (s : SSequence) : Prop where
  a1 : 1 ≤ s.Actuators
  a6 : s.Actuators ≤ 6
  n0 : 0 < s.Steps.length
  n64 : s.Steps.length ≤ 64
  step : ∀ i (h : i < s.Steps.length), StepIn s s.Steps[i]
  mv : ∀ a, a < s.Actuators.toNat → (s.Steps.any fun x => hasA x (a : Int)) = true

theorem chk_right {s : SSequence} (h : chk s = 0) : Right s := by
  unfold chk at h
  split at h
  · omega
  split at h
  · omega
  split at h
  · omega
  rename_i h1 h2 h3
  split at h
  · rename_i r hr
    exfalso
    subst h
    unfold first at hr
    obtain ⟨k, _, hk⟩ := List.exists_of_findSome?_eq_some hr
    unfold seqG at hk
    split at hk
    · simp at hk
    · split at hk
      · rename_i h; injection hk with hk; exact h hk
      · simp at hk
  · rename_i hf
    rw [first_none_iff] at hf
    split at h
    · omega
    split at h
    · rename_i hm
      refine ⟨by omega, by omega, by omega, by omega, fun i hi => (seqG_none hi (hf i hi)).1, fun a ha => ?_⟩
      rw [List.all_eq_true] at hm
      have := hm a (List.mem_range.2 ha)
      rw [moved_eq s a _ (Nat.le_refl _), List.take_of_length_le (Nat.le_refl _)] at this
      exact this
    · omega

def mask (l : List SStroke) : Nat := l.foldl (fun m y => m ||| 2 ^ y.Actuator.toNat) 0

theorem mask_take {l : List SStroke} {k : Nat} (h : k < l.length) : mask (l.take (k + 1)) = mask (l.take k) ||| 2 ^ l[k].Actuator.toNat := by
  unfold mask
  rw [List.take_add_one, List.getElem?_eq_getElem h, List.foldl_append]
  rfl

theorem mask_fold (l : List SStroke) (m : Nat) (a : Nat) : (l.foldl (fun m y => m ||| 2 ^ y.Actuator.toNat) m).testBit a = (m.testBit a || l.any fun y => y.Actuator.toNat == a) := by
  induction l generalizing m with
  | nil => simp
  | cons y l ih =>
    rw [List.foldl_cons, ih, List.any_cons, Nat.testBit_or, Nat.testBit_two_pow]
    cases m.testBit a <;> by_cases h : y.Actuator.toNat = a <;> simp [h]

theorem mask_bit (l : List SStroke) (a : Nat) : (mask l).testBit a = l.any fun y => y.Actuator.toNat == a := by
  unfold mask; rw [mask_fold]; simp

theorem mask_lt (l : List SStroke) (h : ∀ k (h : k < l.length), 0 ≤ l[k].Actuator ∧ l[k].Actuator < 6) : mask l < 64 := by
  refine Nat.lt_pow_two_of_testBit (n := 6) _ fun a ha => ?_
  rw [mask_bit, List.any_eq_false]
  intro y hy
  obtain ⟨k, hk, rfl⟩ := List.getElem_of_mem hy
  have := h k hk
  simp; omega

theorem bits_idx {a : Int} (h0 : 0 ≤ a) (h1 : a < 6) : idx ([1, 2, 4, 8, 16, 32] : List Int) a = some ((2 ^ a.toNat : Nat) : Int) := by
  have : a = 0 ∨ a = 1 ∨ a = 2 ∨ a = 3 ∨ a = 4 ∨ a = 5 := by omega
  rcases this with rfl | rfl | rfl | rfl | rfl | rfl <;> rfl

theorem m36_eq {x : SStep} (h : StepOk x) : m36 x = some (mask x.Strokes : Int) := by
  have hle := h.le
  unfold m36
  rw [iter_fold (fun k : Nat => ((mask (x.Strokes.take k) : Int), (k : Int))) x.Strokes.length ?hn (mask x.Strokes : Int) ?h0 ?h ?he]
  case hn => unfold fuel; omega
  case h0 => rfl
  case he =>
    try dsimp only
    rw [cond_f (lt_f (by omega)), List.take_of_length_le (Nat.le_refl _)]
  case h =>
    intro k hk
    try dsimp only
    obtain ⟨h1, h2⟩ := h.act k hk
    rw [cond_t (lt_t (by omega)), idx_lt hk]
    simp only [Option.bind_some]
    rw [bits_idx h1 h2]
    simp only [Option.bind_some]
    have hm : mask (x.Strokes.take k) < 64 := mask_lt _ fun i hi => by
      simp only [List.getElem_take]; exact h.act i (by simp at hi; omega)
    have hp : 2 ^ x.Strokes[k].Actuator.toNat < 18446744073709551616 := Nat.pow_lt_pow_right (a := 2) (by omega) (show x.Strokes[k].Actuator.toNat < 64 by omega)
    rw [orI_nat (by omega) hp, addI_nat (by omega), mask_take hk]
  rfl

def share (s : SSequence) (x y : SStep) : Bool := (List.range s.Actuators.toNat).any fun a => hasA x (a : Int) && hasA y (a : Int)

theorem hasA_bit {x : SStep} (h : StepOk x) (a : Nat) : hasA x (a : Int) = (mask x.Strokes).testBit a := by
  rw [mask_bit]
  unfold hasA
  rw [Bool.eq_iff_iff, List.any_eq_true, List.any_eq_true]
  constructor
  · rintro ⟨y, hy, e⟩
    refine ⟨y, hy, ?_⟩
    simp at e ⊢; omega
  · rintro ⟨y, hy, e⟩
    refine ⟨y, hy, ?_⟩
    obtain ⟨k, hk, rfl⟩ := List.getElem_of_mem hy
    have := h.act k hk
    simp at e ⊢; omega

theorem hasA_lt {s : SSequence} {x : SStep} (h : StepIn s x) {a : Nat} (ha : hasA x (a : Int) = true) : a < s.Actuators.toNat := by
  unfold hasA at ha
  rw [List.any_eq_true] at ha
  obtain ⟨y, hy, e⟩ := ha
  obtain ⟨k, hk, rfl⟩ := List.getElem_of_mem hy
  have := h.far k hk
  simp at e
  omega

theorem mask_and_zero {a b : Nat} : a &&& b = 0 ↔ ∀ i, ¬(a.testBit i = true ∧ b.testBit i = true) := by
  constructor
  · intro h i hi
    have := congrArg (fun n => n.testBit i) h
    simp [Nat.testBit_and, hi.1, hi.2] at this
  · intro h
    refine Nat.eq_of_testBit_eq fun i => ?_
    rw [Nat.testBit_and, Nat.zero_testBit]
    have := h i
    cases ha : a.testBit i <;> cases hb : b.testBit i <;> simp_all

theorem share_mask {s : SSequence} {x y : SStep} (hx : StepIn s x) (hy : StepIn s y) : share s x y = !decide (mask x.Strokes &&& mask y.Strokes = 0) := by
  rw [Bool.eq_iff_iff]
  unfold share
  rw [List.any_eq_true]
  simp only [Bool.not_eq_true', decide_eq_false_iff_not, mask_and_zero, Classical.not_forall, Classical.not_not]
  constructor
  · rintro ⟨a, _, h⟩
    rw [Bool.and_eq_true] at h
    exact ⟨a, by rw [← hasA_bit hx.ok]; exact h.1, by rw [← hasA_bit hy.ok]; exact h.2⟩
  · rintro ⟨a, h1, h2⟩
    rw [← hasA_bit hx.ok] at h1
    rw [← hasA_bit hy.ok] at h2
    exact ⟨a, List.mem_range.2 (hasA_lt hx h1), by rw [h1, h2]; rfl⟩

theorem m38_eq {s : SSequence} (h : Right s) {i j : Nat} (hi : i < s.Steps.length) (hj : j < s.Steps.length) : m38 s i j = some (share s s.Steps[i] s.Steps[j]) := by
  have hA := h.a6
  have l1 := (h.step i hi).ok.le
  have l2 := (h.step j hj).ok.le
  unfold m38
  rw [iter_list (List.range s.Actuators.toNat) (fun a => bif hasA s.Steps[i] (a : Int) && hasA s.Steps[j] (a : Int) then some true else none) ?hn () ?h0 ?h ?he]
  case hn => unfold fuel; simp; omega
  case h0 => rfl
  case he =>
    try dsimp only
    rw [cond_f (lt_f (by simp; omega))]
  case h =>
    intro k hk
    have hk' : k < s.Actuators.toNat := by simpa using hk
    try dsimp only
    rw [cond_t (lt_t (by omega)), idx_lt hi, idx_lt hj]
    simp only [Option.bind_some, List.getElem_range]
    rw [m53_eq _ _ (by omega), m53_eq _ _ (by omega), addI_nat (by omega)]
    simp only [Option.bind_some, way_ne]
    cases hasA s.Steps[i] (k : Int) <;> cases hasA s.Steps[j] (k : Int) <;> rfl
  rw [findSome_if]
  unfold share
  cases (List.range s.Actuators.toNat).any fun a => hasA s.Steps[i] (a : Int) && hasA s.Steps[j] (a : Int) <;> rfl

end G18

namespace G18
open Go Go.Pl
theorem m11_eq (s : SSequence) (hs : Small s) : ∃ b, m11 s = some b := by
  unfold m11
  by_cases h : s.Steps.length > 128
  · rw [cond_t (by simp; omega)]; exact ⟨_, rfl⟩
  · rw [cond_f (by simp; omega)]
    rw [iter_list s.Steps (fun x => bif decide ((x.Strokes.length : Int) > 40) then some false else none) ?hn () ?h0 ?h ?he]
    case hn => unfold fuel; omega
    case h0 => rfl
    case he =>
      try dsimp only
      rw [cond_f (lt_f (by omega))]
    case h =>
      intro k hk
      try dsimp only
      rw [cond_t (lt_t (by omega)), idx_lt hk]
      simp only [Option.bind_some]
      rw [addI_nat (by omega)]
      cases decide ((s.Steps[k].Strokes.length : Int) > 40) <;> rfl
    rw [findSome_if]
    cases s.Steps.any fun x => decide ((x.Strokes.length : Int) > 40) <;> exact ⟨_, rfl⟩
end G18
