/- Groups and lists of first steps, in plain words. No condition. -/
import Derived.Test.YtoobbcmofleljaaDoorG18d
import Derived.Test.YtoobbcmofleljaaDoorG18w
import Derived.Test.YtoobbcmofleljaaDoorG18a
namespace G18
open Go Go.Pl

theorem getD_lt {α : Type} {l : List α} {i : Nat} {d : α} (h : i < l.length) : l.getD i d = l[i] := by simp [List.getD, h]

/-- the step with a number, around the cycle -/
def stp (s : SSequence) (i : Nat) : SStep := s.Steps.getD (i % s.Steps.length) ⟨[], 0⟩
def mk (s : SSequence) (i : Nat) : Nat := mask (stp s i).Strokes
def alone (s : SSequence) (f k : Nat) : Bool := (List.range k).all fun i => (List.range i).all fun j => decide (mk s (f + i) &&& mk s (f + j) = 0)
def acc (s : SSequence) (f : Nat) : Nat → Nat
  | 0 => 0
  | k + 1 => acc s f k ||| mk s (f + k)

theorem stp_eq {s : SSequence} (h : Right s) (i : Nat) : ∃ hi : i % s.Steps.length < s.Steps.length, stp s i = s.Steps[i % s.Steps.length] := by
  have := h.n0
  have hi := Nat.mod_lt i this
  exact ⟨hi, by unfold stp; rw [getD_lt hi]⟩
theorem stp_in {s : SSequence} (h : Right s) (i : Nat) : StepIn s (stp s i) := by
  obtain ⟨hi, e⟩ := stp_eq h i
  rw [e]; exact h.step _ hi
theorem stp_lt {s : SSequence} {i : Nat} (hi : i < s.Steps.length) : stp s i = s.Steps[i] := by
  unfold stp
  have : i % s.Steps.length < s.Steps.length := by rw [Nat.mod_eq_of_lt hi]; exact hi
  rw [getD_lt this]
  congr 1
  exact Nat.mod_eq_of_lt hi
theorem mk_lt {s : SSequence} (h : Right s) (i : Nat) : mk s i < 64 := mask_lt _ (stp_in h i).ok.act
theorem acc_lt {s : SSequence} (h : Right s) (f : Nat) : ∀ k, acc s f k < 64
  | 0 => by simp [acc]
  | k + 1 => Nat.or_lt_two_pow (n := 6) (acc_lt h f k) (mk_lt h _)
theorem alone_iff {s : SSequence} {f k : Nat} : alone s f k = true ↔ ∀ i, i < k → ∀ j, j < i → mk s (f + i) &&& mk s (f + j) = 0 := by
  simp [alone, List.all_eq_true]
theorem alone_mono {s : SSequence} {f k m : Nat} (h : alone s f k = true) (hm : m ≤ k) : alone s f m = true := by
  rw [alone_iff] at h ⊢
  intro i hi j hj
  exact h i (by omega) j hj
theorem acc_bit (s : SSequence) (f a : Nat) : ∀ k, (acc s f k).testBit a = (List.range k).any fun i => (mk s (f + i)).testBit a
  | 0 => by simp [acc]
  | k + 1 => by rw [acc, Nat.testBit_or, acc_bit s f a k, List.range_succ, List.any_append]; simp
theorem acc_bit_iff {s : SSequence} {f k a : Nat} : (acc s f k).testBit a = true ↔ ∃ i, i < k ∧ (mk s (f + i)).testBit a = true := by
  rw [acc_bit, List.any_eq_true]
  constructor
  · rintro ⟨i, hi, h⟩; exact ⟨i, List.mem_range.1 hi, h⟩
  · rintro ⟨i, hi, h⟩; exact ⟨i, List.mem_range.2 hi, h⟩
theorem acc_zero {s : SSequence} {f k x : Nat} : acc s f k &&& x = 0 ↔ ∀ i, i < k → mk s (f + i) &&& x = 0 := by
  constructor
  · intro h i hi
    rw [mask_and_zero] at h ⊢
    intro a ha
    exact h a ⟨acc_bit_iff.2 ⟨i, hi, ha.1⟩, ha.2⟩
  · intro h
    rw [mask_and_zero]
    intro a ha
    obtain ⟨i, hi, hb⟩ := acc_bit_iff.1 ha.1
    exact (mask_and_zero.1 (h i hi)) a ⟨hb, ha.2⟩
theorem alone_succ {s : SSequence} {f k : Nat} : alone s f (k + 1) = true ↔ alone s f k = true ∧ acc s f k &&& mk s (f + k) = 0 := by
  rw [acc_zero]
  constructor
  · intro h
    refine ⟨alone_mono h (by omega), fun i hi => ?_⟩
    rw [Nat.and_comm]
    exact alone_iff.1 h k (by omega) i hi
  · rintro ⟨h1, h2⟩
    rw [alone_iff] at h1 ⊢
    intro i hi j hj
    by_cases e : i = k
    · subst e; rw [Nat.and_comm]; exact h2 j hj
    · exact h1 i (by omega) j hj

theorem remc_nat {x n : Nat} (h : 0 < n) : remc (x : Int) (n : Int) = some ((x % n : Nat) : Int) := by
  unfold remc
  rw [if_neg (by omega)]
  rfl

def onceG (s : SSequence) (f : Nat) (k : Nat) : Option (Int × Bool) := if acc s f k &&& mk s (f + k) = 0 then none else some ((acc s f k : Int), false)

theorem first_once {s : SSequence} {f : Nat} : ∀ k, (alone s f k = true → first k (onceG s f) = none) ∧ (alone s f k = false → ∃ m, first k (onceG s f) = some (m, false)) := by
  intro k
  constructor
  · intro h
    rw [first_none_iff]
    intro j hj
    unfold onceG
    rw [if_pos (alone_succ.1 (alone_mono h hj)).2]
  · intro h
    cases hf : first k (onceG s f) with
    | none =>
      exfalso
      rw [first_none_iff] at hf
      have : ∀ j, j ≤ k → alone s f j = true := by
        intro j
        induction j with
        | zero => intro _; rfl
        | succ j ih =>
          intro hj
          refine alone_succ.2 ⟨ih (by omega), ?_⟩
          have := hf j (by omega)
          unfold onceG at this
          refine Classical.byContradiction fun hc => ?_
          rw [if_neg hc] at this; simp at this
      rw [this k (Nat.le_refl _)] at h; simp at h
    | some r =>
      unfold first at hf
      obtain ⟨j, _, hj⟩ := List.exists_of_findSome?_eq_some hf
      unfold onceG at hj
      split at hj
      · simp at hj
      · injection hj with hj; exact ⟨_, by rw [← hj]⟩

theorem m44_eq {s : SSequence} (h : Right s) (f k : Nat) (hf : f < 1000000) (hk : k < 1000000) : ∃ m, m44 s (f : Int) (k : Int) = some (m, alone s f k) ∧ (alone s f k = true → m = (acc s f k : Int)) := by
  unfold m44
  have hn := h.n0
  have hn64 := h.n64
  rw [iter_first (fun i : Nat => ((i : Int), (acc s f i : Int))) (onceG s f) k ?hn ((acc s f k : Int)) ?h0 ?h ?he]
  case hn => unfold fuel; omega
  case h0 => rfl
  case he =>
    intro _
    try dsimp only
    rw [cond_f (lt_f (by omega))]
  case h =>
    intro i hi _
    try dsimp only
    have hlt := Nat.mod_lt (f + i) hn
    rw [cond_t (lt_t (by omega)), show addI .i64 (f : Int) (i : Int) = ((f + i : Nat) : Int) by rw [addI_eq (by omega) (by omega)]; omega, remc_nat hn]
    simp only [Option.bind_some]
    rw [idx_lt hlt]
    simp only [Option.bind_some]
    obtain ⟨_, e⟩ := stp_eq h (f + i)
    rw [m36_eq (h.step _ hlt).ok, ← e]
    simp only [Option.bind_some]
    have b1 := acc_lt h f i
    have b2 := mk_lt h (f + i)
    have e2 : mask (stp s (f + i)).Strokes = mk s (f + i) := rfl
    rw [e2, andI_nat (by omega) (by omega), orI_nat (by omega) (by omega), addI_nat (by omega)]
    unfold onceG
    by_cases hz : acc s f i &&& mk s (f + i) = 0
    · rw [if_pos hz, hz]; rfl
    · rw [if_neg hz, cond_t (by simp; omega)]
  obtain ⟨h1, h2⟩ := first_once (s := s) (f := f) k
  cases ha : alone s f k with
  | true => rw [h1 ha]; exact ⟨_, rfl, fun _ => rfl⟩
  | false =>
    obtain ⟨m, hm⟩ := h2 ha
    rw [hm]; exact ⟨_, rfl, fun h => by simp at h⟩

theorem share_mk {s : SSequence} (h : Right s) (i j : Nat) : share s (stp s i) (stp s j) = !decide (mk s i &&& mk s j = 0) := share_mask (stp_in h i) (stp_in h j)

theorem all_any {p : Nat → Bool} (k : Nat) : (List.range k).all p = !(List.range k).any fun i => !p i := by
  rw [List.all_eq_not_any_not]

theorem m78_eq {s : SSequence} (h : Right s) (f k : Nat) (hf : f < 1000000) (hk : k < 1000000) : m78 s (f : Int) (k : Int) = some (alone s f k) := by
  unfold m78
  have hn := h.n0
  have hn64 := h.n64
  rw [iter_list (List.range k) (fun i => bif (List.range i).any fun j => !decide (mk s (f + i) &&& mk s (f + j) = 0) then some false else none) ?hn () ?h0 ?h ?he]
  case hn => unfold fuel; simp; omega
  case h0 => rfl
  case he =>
    try dsimp only
    rw [cond_f (lt_f (by simp))]
  case h =>
    intro i hi
    have hi' : i < k := by simpa using hi
    try dsimp only
    rw [cond_t (lt_t (by omega))]
    rw [iter_list (List.range i) (fun j => bif !decide (mk s (f + i) &&& mk s (f + j) = 0) then some (.inr (.inr false)) else none) ?hn () ?h0 ?h ?he]
    case hn => unfold fuel; simp; omega
    case h0 => rfl
    case he =>
      try dsimp only
      rw [cond_f (lt_f (by simp))]
    case h =>
      intro j hj
      have hj' : j < i := by simpa using hj
      try dsimp only
      rw [cond_t (lt_t (by omega)), show addI .i64 (f : Int) (i : Int) = ((f + i : Nat) : Int) by rw [addI_eq (by omega) (by omega)]; omega,
        show addI .i64 (f : Int) (j : Int) = ((f + j : Nat) : Int) by rw [addI_eq (by omega) (by omega)]; omega, remc_nat hn, remc_nat hn]
      simp only [Option.bind_some, List.getElem_range]
      obtain ⟨l1, e1⟩ := stp_eq h (f + i)
      obtain ⟨l2, e2⟩ := stp_eq h (f + j)
      rw [m38_eq h l1 l2, ← e1, ← e2, share_mk h, addI_nat (by omega)]
      simp only [Option.bind_some]
      cases decide (mk s (f + i) &&& mk s (f + j) = 0) <;> rfl
    rw [findSome_if, List.getElem_range, addI_nat (by omega)]
    cases (List.range i).any fun j => !decide (mk s (f + i) &&& mk s (f + j) = 0) <;> rfl
  rw [findSome_if]
  have : alone s f k = !(List.range k).any fun i => (List.range i).any fun j => !decide (mk s (f + i) &&& mk s (f + j) = 0) := by
    unfold alone
    rw [all_any]
    congr 1
    congr 1
    funext i
    rw [all_any, Bool.not_not]
  rw [this]
  cases (List.range k).any fun i => (List.range i).any fun j => !decide (mk s (f + i) &&& mk s (f + j) = 0) <;> rfl
theorem mk_hasA {s : SSequence} (h : Right s) {i : Nat} (hi : i < s.Steps.length) (a : Nat) : hasA s.Steps[i] (a : Int) = (mk s i).testBit a := by
  rw [hasA_bit (h.step i hi).ok, ← stp_lt hi]; rfl
end G18

namespace G18
open Go Go.Pl

def listG (s : SSequence) (l : List Int) (k : Nat) : Option Int :=
  if l.getD k 0 < 0 ∨ (s.Steps.length : Int) ≤ l.getD k 0 then some 2 else if 0 < k ∧ l.getD k 0 ≤ l.getD (k - 1) 0 then some 9 else none

/-- what is wrong with a list of first steps -/
def listE (s : SSequence) (l : List Int) (b : Bool) : Int :=
  if l.length = 0 then 13 else if s.Steps.length < l.length then 5 else if b = true ∧ l.getD 0 0 ≠ 0 then 3 else
  match first l.length (listG s l) with | some r => r | none => 0

theorem m65_eq (s : SSequence) (hs : s.Steps.length ≤ 64) (l : List Int) (b : Bool) : m65 s l b = some (listE s l b) := by
  unfold m65 listE
  by_cases h1 : l.length = 0
  · rw [cond_t (by simpa using h1), if_pos h1]
  rw [cond_f (by simpa using h1), if_neg h1]
  by_cases h2 : s.Steps.length < l.length
  · rw [cond_t (by simp; omega), if_pos h2]
  rw [cond_f (by simp; omega), if_neg h2]
  have e0 : idx l (0 : Int) = some (l.getD 0 0) := by
    have := idx_lt (l := l) (k := 0) (by omega)
    rw [getD_lt (by omega)]; exact this
  have e1 : ((bif b then (idx l 0).bind fun v5 => some (v5 != 0) else some false) : Option Bool) = some (decide (b = true ∧ l.getD 0 0 ≠ 0)) := by
    cases b with
    | false => simp
    | true =>
      rw [e0]; simp only [Option.bind_some, cond_true, true_and]
      by_cases hz : l.getD 0 0 = 0
      · rw [hz]; rfl
      · rw [decide_eq_true hz, bne_iff_ne.2 hz]
  rw [e1]
  simp only [Option.bind_some]
  by_cases h3 : b = true ∧ l.getD 0 0 ≠ 0
  · rw [if_pos h3, cond_t (decide_eq_true h3)]
  rw [if_neg h3, cond_f (decide_eq_false h3)]
  rw [iter_first (fun k : Nat => (k : Int)) (listG s l) l.length ?hn () ?h0 ?h ?he]
  case hn => unfold fuel; omega
  case h0 => rfl
  case he =>
    intro _
    try dsimp only
    rw [cond_f (lt_f (by omega))]
  case h =>
    intro k hk _
    try dsimp only
    rw [cond_t (lt_t (by omega)), idx_lt hk]
    simp only [Option.bind_some]
    unfold listG
    rw [getD_lt hk]
    by_cases h4 : l[k] < 0
    · rw [cond_t (lt_t h4), if_pos (.inl h4)]; rfl
    rw [cond_f (lt_f h4)]
    simp only [Option.bind_some]
    by_cases h5 : (s.Steps.length : Int) ≤ l[k]
    · rw [if_pos (.inr h5), cond_t (by simpa using h5)]
    rw [cond_f (by simp; omega), if_neg (by omega)]
    by_cases hk0 : k = 0
    · subst hk0
      rw [if_neg (by omega), cond_f (by simp)]
      rfl
    · rw [cond_t (by simp; omega), sub_nat (by omega) (by omega), idx_lt (show k - 1 < l.length by omega), getD_lt (show k - 1 < l.length by omega)]
      simp only [Option.bind_some]
      by_cases h6 : l[k] ≤ l[k - 1]
      · rw [if_pos ⟨by omega, h6⟩, cond_t (by simpa using h6)]
      · rw [if_neg (by omega), cond_f (by simpa using h6), addI_nat (by omega)]
  cases first l.length (listG s l) <;> rfl

/-- a list of first steps that is right -/
structure ListOk (s : SSequence) (l : List Int) (b : Bool) : Prop where
  pos : 0 < l.length
  le : l.length ≤ s.Steps.length
  zero : b = true → l.getD 0 0 = 0
  lo : ∀ k, k < l.length → 0 ≤ l.getD k 0
  hi : ∀ k, k < l.length → l.getD k 0 < s.Steps.length
  inc : ∀ k, k + 1 < l.length → l.getD k 0 < l.getD (k + 1) 0

theorem listE_ok {s : SSequence} {l : List Int} {b : Bool} (h : listE s l b = 0) : ListOk s l b := by
  unfold listE at h
  split at h
  · omega
  split at h
  · omega
  split at h
  · omega
  rename_i h1 h2 h3
  split at h
  · rename_i r hr
    exfalso
    unfold first at hr
    obtain ⟨k, _, hk⟩ := List.exists_of_findSome?_eq_some hr
    subst h
    unfold listG at hk
    split at hk
    · simp at hk
    · split at hk <;> simp at hk
  · rename_i hr
    rw [first_none_iff] at hr
    have hb : ∀ k, k < l.length → ¬(l.getD k 0 < 0 ∨ (s.Steps.length : Int) ≤ l.getD k 0) ∧ ¬(0 < k ∧ l.getD k 0 ≤ l.getD (k - 1) 0) := by
      intro k hk
      have := hr k hk
      unfold listG at this
      split at this
      · simp at this
      · split at this
        · simp at this
        · exact ⟨by assumption, by assumption⟩
    refine ⟨by omega, by omega, fun hb => ?_, fun k hk => ?_, fun k hk => ?_, fun k hk => ?_⟩
    · exact Classical.byContradiction fun hc => h3 ⟨hb, hc⟩
    · have := (hb k hk).1; omega
    · have := (hb k hk).1; omega
    · have := (hb (k + 1) hk).2
      rw [Nat.add_sub_cancel] at this; omega

theorem listE_of {s : SSequence} {l : List Int} {b : Bool} (h : ListOk s l b) : listE s l b = 0 := by
  unfold listE
  have := h.pos
  have := h.le
  rw [if_neg (by omega), if_neg (by omega), if_neg (fun hc => hc.2 (h.zero hc.1)), first_none]
  intro k hk
  unfold listG
  have h1 := h.lo k hk
  have h2 := h.hi k hk
  rw [if_neg (by omega)]
  by_cases hk0 : k = 0
  · rw [if_neg (by omega)]
  · have := h.inc (k - 1) (by omega)
    rw [Nat.sub_add_cancel (by omega)] at this
    rw [if_neg (by omega)]

theorem ListOk.mono {s : SSequence} {l : List Int} {b : Bool} (h : ListOk s l b) {i j : Nat} (hij : i < j) (hj : j < l.length) : l.getD i 0 < l.getD j 0 := by
  induction j with
  | zero => omega
  | succ j ih =>
    have h1 := h.inc j hj
    by_cases e : i = j
    · subst e; exact h1
    · have := ih (by omega) (by omega); omega

/-- where a group ends -/
def nxt (s : SSequence) (l : List Int) (i : Nat) : Int := if i + 1 < l.length then l.getD (i + 1) 0 else s.Steps.length + l.getD 0 0

/-- a group's first step and its size -/
def fst' (l : List Int) (i : Nat) : Nat := (l.getD i 0).toNat
def siz (s : SSequence) (l : List Int) (i : Nat) : Nat := (nxt s l i - l.getD i 0).toNat

theorem ListOk.fst {s : SSequence} {l : List Int} {b : Bool} (h : ListOk s l b) {i : Nat} (hi : i < l.length) : l.getD i 0 = (fst' l i : Int) ∧ fst' l i < s.Steps.length := by
  have h1 := h.lo i hi
  have h2 := h.hi i hi
  unfold fst'; omega
theorem ListOk.nx {s : SSequence} {l : List Int} {b : Bool} (h : ListOk s l b) {i : Nat} (hi : i < l.length) : l.getD i 0 < nxt s l i ∧ nxt s l i < 2 * s.Steps.length := by
  have := h.lo i hi
  have := h.hi i hi
  have := h.lo 0 h.pos
  have := h.hi 0 h.pos
  unfold nxt
  split
  · rename_i hc
    have := h.inc i hc
    have := h.hi (i + 1) hc
    omega
  · omega
theorem ListOk.siz {s : SSequence} {l : List Int} {b : Bool} (h : ListOk s l b) {i : Nat} (hi : i < l.length) : nxt s l i - l.getD i 0 = (siz s l i : Int) ∧ siz s l i < 2 * s.Steps.length ∧ 0 < siz s l i := by
  obtain ⟨h1, h2⟩ := h.nx hi
  have := h.lo i hi
  unfold G18.siz; omega

theorem m52_eq {s : SSequence} {l : List Int} {b : Bool} (h : ListOk s l b) (hs : s.Steps.length ≤ 64) {i : Nat} (hi : i < l.length) : m52 s l (i : Int) = some (nxt s l i) := by
  have := h.le
  unfold m52 nxt
  rw [addI_nat (by omega)]
  by_cases hc : i + 1 < l.length
  · rw [if_pos hc, cond_t (lt_t (by omega)), idx_lt hc, getD_lt hc]; rfl
  · have hp := h.pos
    have h0 := idx_lt (l := l) (k := 0) hp
    have h1 := h.lo 0 hp
    have h2 := h.hi 0 hp
    rw [getD_lt hp] at h1 h2
    rw [if_neg hc, cond_f (lt_f (by omega)), show (0 : Int) = ((0 : Nat) : Int) from rfl, h0, getD_lt hp]
    simp only [Option.bind_some]
    rw [addI_eq (by omega) (by omega)]

/-- has no group an actuator that moves twice? -/
def rightL (s : SSequence) (l : List Int) : Bool := (List.range l.length).all fun i => alone s (fst' l i) (siz s l i)

theorem m66_eq {s : SSequence} (hr : Right s) {l : List Int} {b : Bool} (h : ListOk s l b) : m66 s l = some (rightL s l) := by
  have hs := hr.n64
  have := h.le
  unfold m66
  rw [iter_list (List.range l.length) (fun i => bif !alone s (fst' l i) (siz s l i) then some false else none) ?hn () ?h0 ?h ?he]
  case hn => unfold fuel; simp; omega
  case h0 => rfl
  case he =>
    try dsimp only
    rw [cond_f (lt_f (by simp))]
  case h =>
    intro k hk
    have hk' : k < l.length := by simpa using hk
    try dsimp only
    have hsz := h.siz hk'
    have hf := h.fst hk'
    obtain ⟨hn1, hn2⟩ := h.nx hk'
    have hlo := h.lo k hk'
    have hm := m52_eq h hs hk'
    rw [cond_t (lt_t (by omega)), idx_lt hk']
    simp only [Option.bind_some]
    rw [hm]
    simp only [Option.bind_some, List.getElem_range]
    rw [← getD_lt (d := 0) hk', subI_eq (by omega) (by omega), hsz.1, hf.1, m78_eq hr _ _ (by omega) (by omega), addI_nat (by omega)]
    simp only [Option.bind_some]
    cases alone s (fst' l k) (siz s l k) <;> rfl
  rw [findSome_if]
  unfold rightL
  rw [all_any]
  cases (List.range l.length).any fun i => !alone s (fst' l i) (siz s l i) <;> rfl

theorem rightL_iff {s : SSequence} {l : List Int} : rightL s l = true ↔ ∀ i, i < l.length → alone s (fst' l i) (siz s l i) = true := by
  simp [rightL, List.all_eq_true]
end G18

namespace G18
open Go Go.Pl
theorem m68_eq (s : SSequence) (l : List Int) (b : Bool) : m68 s l b = m65 s l b := by
  unfold m68 m65
  congr 1
  congr 1
  congr 1
  funext w3
  congr 1
  congr 1
  congr 1
  funext s7
  congr 1
  cases idx l s7 with
  | none => rfl
  | some v =>
    simp only [Option.bind_some]
    cases decide (v < 0) <;> cases decide (v ≥ (s.Steps.length : Int)) <;> rfl

theorem m48_eq {s : SSequence} {l : List Int} {b : Bool} (h : ListOk s l b) (hs : s.Steps.length ≤ 64) : m48 s l = some ((List.range l.length).map fun i => (siz s l i : Int)) := by
  have := h.le
  unfold m48
  rw [iter_fold (fun k : Nat => ((List.range k).map (fun i => (siz s l i : Int)), (k : Int))) l.length ?hn ((List.range l.length).map fun i => (siz s l i : Int)) ?h0 ?h ?he]
  case hn => unfold fuel; omega
  case h0 => rfl
  case he =>
    try dsimp only
    rw [cond_f (lt_f (by omega))]
  case h =>
    intro k hk
    try dsimp only
    have hp := h.pos
    have h0 := idx_lt (l := l) (k := 0) hp
    have h1 := h.lo 0 hp
    have h2 := h.hi 0 hp
    have hm := m52_eq h hs hk
    have hsz := h.siz hk
    have hlo := h.lo k hk
    obtain ⟨hn1, hn2⟩ := h.nx hk
    rw [getD_lt hk] at hsz hlo hn1
    rw [cond_t (lt_t (by omega)), idx_lt hk, show idx l (0 : Int) = some l[0] from h0]
    simp only [Option.bind_some]
    have e : ((bif (decide ((addI .i64 (k : Int) 1) < (l.length : Int))) then (idx l (addI .i64 (k : Int) 1)).bind fun v8 => some v8 else some (addI .i64 l[0] (s.Steps.length : Int))) : Option (Int)) = some (nxt s l k) := by
      rw [getD_lt hp] at h1 h2
      rw [← hm]
      unfold m52
      rw [show idx l (0 : Int) = some l[0] from h0]
      simp only [Option.bind_some]
      rw [addI_eq (x := l[0]) (by omega) (by omega), addI_eq (x := (s.Steps.length : Int)) (by omega) (by omega), Int.add_comm]
    rw [e]
    simp only [Option.bind_some]
    rw [appc_eq (by simp; omega) (by simp; omega), subI_eq (by omega) (by omega), hsz.1, addI_nat (by omega)]
    simp only [Option.bind_some]
    rw [List.range_succ, List.map_append]
    rfl
  rfl

def chkL (s : SSequence) (l : List Int) (b : Bool) : Int := if chk s ≠ 0 then chk s else if listE s l b ≠ 0 then listE s l b else if rightL s l = true then 0 else 7

theorem m46_eq (s : SSequence) (hs : Small s) (l : List Int) (b : Bool) : m46 s l b = some (chkL s l b) := by
  unfold m46 chkL
  rw [m37_eq s hs]
  simp only [Option.bind_some]
  by_cases h0 : chk s = 0
  · have hr := chk_right h0
    rw [cond_f (by simpa using h0), if_neg (by simpa using h0), m65_eq s hr.n64]
    simp only [Option.bind_some]
    by_cases h1 : listE s l b = 0
    · rw [cond_f (by simpa using h1), if_neg (by simpa using h1), m66_eq hr (listE_ok h1)]
      cases rightL s l <;> rfl
    · rw [cond_t (by simpa using h1), if_pos h1]
  · rw [cond_t (by simpa using h0), if_pos h0]

theorem m47_eq (s : SSequence) (l : List Int) (b : Bool) : m47 s l b = some (chkL s l b) := by
  unfold m47 chkL
  rw [m35_eq s]
  simp only [Option.bind_some]
  by_cases h0 : chk s = 0
  · have hr := chk_right h0
    have hs := hr.n64
    rw [cond_f (by simpa using h0), if_neg (by simpa using h0), m68_eq, m65_eq s hr.n64]
    simp only [Option.bind_some]
    by_cases h1 : listE s l b = 0
    · have h := listE_ok h1
      have hle := h.le
      rw [cond_f (by simpa using h1), if_neg (by simpa using h1), m48_eq h hs]
      simp only [Option.bind_some, List.length_map, List.length_range]
      rw [iter_list (List.range l.length) (fun i => bif !alone s (fst' l i) (siz s l i) then some 7 else none) ?hn () ?h0 ?h ?he]
      case hn => unfold fuel; simp; omega
      case h0 => rfl
      case he =>
        try dsimp only
        rw [cond_f (lt_f (by simp))]
      case h =>
        intro k hk
        have hk' : k < l.length := by simpa using hk
        try dsimp only
        have hsz := h.siz hk'
        have hf := h.fst hk'
        rw [cond_t (lt_t (by omega)), idx_lt (show k < ((List.range l.length).map fun i => (siz s l i : Int)).length by simpa using hk), idx_lt hk']
        simp only [Option.bind_some, List.getElem_map, List.getElem_range]
        rw [← getD_lt (d := 0) hk', hf.1]
        obtain ⟨m, e, _⟩ := m44_eq hr (fst' l k) (siz s l k) (by omega) (by omega)
        rw [e, addI_nat (by omega)]
        simp only [Option.bind_some]
        cases alone s (fst' l k) (siz s l k) <;> rfl
      rw [findSome_if]
      unfold rightL
      rw [all_any]
      cases (List.range l.length).any fun i => !alone s (fst' l i) (siz s l i) <;> rfl
    · rw [cond_t (by simpa using h1), if_pos h1]
  · rw [cond_t (by simpa using h0), if_pos h0]

theorem chkL_ok {s : SSequence} {l : List Int} {b : Bool} (h : chkL s l b = 0) : chk s = 0 ∧ ListOk s l b ∧ rightL s l = true := by
  unfold chkL at h
  split at h
  · rename_i h0; exact (h0 h).elim
  split at h
  · rename_i h0; exact (h0 h).elim
  rename_i h0 h1
  split at h
  · exact ⟨by simpa using h0, listE_ok (by simpa using h1), by assumption⟩
  · omega
theorem chkL_of {s : SSequence} {l : List Int} {b : Bool} (h0 : chk s = 0) (h1 : ListOk s l b) (h2 : rightL s l = true) : chkL s l b = 0 := by
  unfold chkL
  rw [if_neg (by simpa using h0), if_neg (by simpa using listE_of h1), if_pos h2]
end G18

namespace G18
open Go Go.Pl

def memb (s : SSequence) (f k : Nat) : List Int := ((List.range 6).filter fun a => (acc s f k).testBit a).map fun a : Nat => (a : Int)
def mems (s : SSequence) (l : List Int) : List (List Int) := (List.range l.length).map fun i => memb s (fst' l i) (siz s l i)

theorem filt_succ (p : Nat → Bool) (a : Nat) : ((List.range (a + 1)).filter p).map (fun a : Nat => (a : Int)) = if p a = true then ((List.range a).filter p).map (fun a : Nat => (a : Int)) ++ [(a : Int)] else ((List.range a).filter p).map (fun a : Nat => (a : Int)) := by
  rw [List.range_succ, List.filter_append, List.map_append]
  by_cases h : p a = true
  · rw [if_pos h]; simp [h]
  · rw [if_neg h]; simp [h]
theorem filt_len (p : Nat → Bool) (a : Nat) : (((List.range a).filter p).map (fun a : Nat => (a : Int))).length ≤ a := by
  rw [List.length_map]
  exact Nat.le_trans (List.length_filter_le _ _) (by simp)

theorem and_bit (x a : Nat) : (((x &&& 2 ^ a : Nat) : Int) != 0) = x.testBit a := by
  have key : x &&& 2 ^ a = 0 ↔ x.testBit a = false := by
    rw [mask_and_zero]
    constructor
    · intro h
      have := h a
      rw [Nat.testBit_two_pow] at this
      simpa using this
    · intro h i hi
      rw [Nat.testBit_two_pow] at hi
      have : a = i := by simpa using hi.2
      subst this
      rw [h] at hi; simp at hi
  cases hb : x.testBit a with
  | false => rw [key.2 hb]; rfl
  | true =>
    rw [bne_iff_ne]
    intro hc
    have := key.1 (by omega)
    rw [hb] at this; simp at this

theorem memb_mem {s : SSequence} {f k a : Nat} (ha : a < 6) : (a : Int) ∈ memb s f k ↔ (acc s f k).testBit a = true := by
  unfold memb
  rw [List.mem_map]
  constructor
  · rintro ⟨b, hb, e⟩
    have : b = a := by omega
    subst this
    exact (List.mem_filter.1 hb).2
  · intro h
    exact ⟨a, List.mem_filter.2 ⟨List.mem_range.2 ha, h⟩, rfl⟩

theorem m25_eq (s : SSequence) (l : List Int) : m25 s l = some (if chkL s l true = 0 then (mems s l, 0) else ([], chkL s l true)) := by
  unfold m25 m28
  rw [m47_eq]
  simp only [Option.bind_some]
  by_cases h0 : chkL s l true = 0
  · obtain ⟨hc, h, hrl⟩ := chkL_ok h0
    have hr := chk_right hc
    have hs := hr.n64
    have hle := h.le
    rw [rightL_iff] at hrl
    rw [if_pos h0, cond_f (by simpa using h0), m48_eq h hs]
    simp only [Option.bind_some, List.length_map, List.length_range]
    rw [iter_fold (fun k : Nat => ((List.range k).map (fun i => memb s (fst' l i) (siz s l i)), (k : Int))) l.length ?hn (mems s l) ?h0 ?h ?he]
    case hn => unfold fuel; omega
    case h0 => rfl
    case he =>
      try dsimp only
      rw [cond_f (lt_f (by omega))]
      rfl
    case h =>
      intro k hk
      try dsimp only
      have hsz := h.siz hk
      have hf := h.fst hk
      rw [cond_t (lt_t (by omega)), idx_lt (show k < ((List.range l.length).map fun i => (siz s l i : Int)).length by simpa using hk), idx_lt hk]
      simp only [Option.bind_some, List.getElem_map, List.getElem_range]
      rw [← getD_lt (d := 0) hk, hf.1]
      obtain ⟨m, e, hm⟩ := m44_eq hr (fst' l k) (siz s l k) (by omega) (by omega)
      rw [e, addI_nat (by omega)]
      simp only [Option.bind_some]
      rw [hm (hrl k hk)]
      rw [iter_fold (fun a : Nat => (((List.range a).filter fun a => (acc s (fst' l k) (siz s l k)).testBit a).map (fun a : Nat => (a : Int)), (a : Int))) 6 ?hn (memb s (fst' l k) (siz s l k)) ?h0 ?h ?he]
      case hn => unfold fuel; omega
      case h0 => rfl
      case he => rfl
      case h =>
        intro a ha
        try dsimp only
        have hb := acc_lt hr (fst' l k) (siz s l k)
        have hai : aidx (⟨[1, 2, 4, 8, 16, 32], rfl⟩ : Arr 6 Int) (a : Int) = some ((2 ^ a : Nat) : Int) := bits_idx (a := (a : Int)) (by omega) (by omega)
        have hp : 2 ^ a < 18446744073709551616 := Nat.pow_lt_pow_right (a := 2) (by omega) (show a < 64 by omega)
        rw [cond_t (lt_t (by omega)), hai]
        simp only [Option.bind_some]
        rw [andI_nat (by omega) hp, and_bit, filt_succ, addI_nat (by omega)]
        cases (acc s (fst' l k) (siz s l k)).testBit a with
        | false => rfl
        | true =>
          have := filt_len (fun a => (acc s (fst' l k) (siz s l k)).testBit a) a
          rw [cond_true, appc_eq (by simp only [List.length_singleton]; omega) (by simp only [List.length_singleton]; omega)]
          rfl
      simp only [Option.bind_some]
      rw [appc_eq (by simp; omega) (by simp; omega), List.range_succ, List.map_append]
      rfl
    rfl
  · rw [if_neg h0, cond_t (by simpa using h0)]

end G18

namespace G18
open Go Go.Pl
theorem m26_eq (l : List Int) (x : Int) (hl : l.length ≤ 1000) : m26 l x = some (decide (x ∈ l)) := by
  unfold m26 m49
  rw [iter_first (fun k : Nat => (k : Int)) (fun k => match l[k]? with | some b => bif x == b then some (k : Int) else none | none => none) l.length ?hn () ?h0 ?h ?he]
  case hn => unfold fuel; omega
  case h0 => rfl
  case he =>
    intro _
    try dsimp only
    rw [cond_f (lt_f (by omega))]
  case h =>
    intro k hk _
    try dsimp only
    rw [cond_t (lt_t (by omega)), idx_lt hk, List.getElem?_eq_getElem hk]
    simp only [Option.bind_some]
    rw [addI_nat (by omega)]
    cases x == l[k] <;> rfl
  cases hf : first l.length (fun k => match l[k]? with | some b => bif x == b then some (k : Int) else none | none => none) with
  | none =>
    rw [first_none_iff] at hf
    have : ¬ x ∈ l := by
      intro hb
      obtain ⟨k, hk, e⟩ := List.getElem_of_mem hb
      have := hf k hk
      rw [List.getElem?_eq_getElem hk] at this
      dsimp only at this
      rw [e] at this
      simp at this
    rw [decide_eq_false this]; rfl
  | some r =>
    unfold first at hf
    obtain ⟨k, hk, hr⟩ := List.exists_of_findSome?_eq_some hf
    have hk' : k < l.length := by simpa using hk
    rw [List.getElem?_eq_getElem hk'] at hr
    dsimp only at hr
    cases hb : x == l[k] with
    | false => rw [hb] at hr; simp at hr
    | true =>
      rw [hb] at hr
      simp only [cond_true, Option.some.injEq] at hr
      have e : x = l[k] := by simpa using hb
      have : x ∈ l := by rw [e]; exact List.getElem_mem hk'
      rw [decide_eq_true this]
      subst hr
      simp only [Option.bind_some, Sum.elim_inr]
      simp
end G18

namespace G18
open Go Go.Pl

/-- groups as long as possible from a step on: their first steps, and the size of the last one -/
def gre (s : SSequence) (f0 : Nat) : Nat → List Nat × Nat
  | 0 => ([f0], 0)
  | i + 1 => if alone s ((gre s f0 i).1.getD ((gre s f0 i).1.length - 1) 0) ((gre s f0 i).2 + 1) = true then ((gre s f0 i).1, (gre s f0 i).2 + 1) else ((gre s f0 i).1 ++ [f0 + i], 1)

structure Greedy (s : SSequence) (f0 i : Nat) (o : List Nat) (z : Nat) : Prop where
  ne : 0 < o.length
  le : o.length ≤ i + 1
  hd : o.getD 0 0 = f0
  sz : o.getD (o.length - 1) 0 + z = f0 + i
  al : alone s (o.getD (o.length - 1) 0) z = true
  zp : 0 < i → 0 < z
  inc : ∀ j, j + 1 < o.length → o.getD j 0 < o.getD (j + 1) 0
  st : ∀ j, j + 1 < o.length → alone s (o.getD j 0) (o.getD (j + 1) 0 - o.getD j 0) = true ∧ alone s (o.getD j 0) (o.getD (j + 1) 0 - o.getD j 0 + 1) = false

theorem alone_one (s : SSequence) (f : Nat) : alone s f 1 = true := by
  rw [alone_iff]; intro i hi j hj; omega

theorem getD_app {o : List Nat} {x j : Nat} (h : j < o.length) : (o ++ [x]).getD j 0 = o.getD j 0 := by
  rw [getD_lt (by simp; omega), getD_lt h, List.getElem_append_left h]
theorem getD_end (o : List Nat) (x : Nat) : (o ++ [x]).getD o.length 0 = x := by
  rw [getD_lt (by simp)]; simp

theorem greedy (s : SSequence) (f0 : Nat) : ∀ i, Greedy s f0 i (gre s f0 i).1 (gre s f0 i).2
  | 0 => ⟨by simp [gre], by simp [gre], rfl, rfl, by rw [alone_iff]; intro i hi; simp [gre] at hi, by omega, fun j hj => by simp [gre] at hj, fun j hj => by simp [gre] at hj⟩
  | i + 1 => by
    have h := greedy s f0 i
    rw [gre]
    by_cases ha : alone s ((gre s f0 i).1.getD ((gre s f0 i).1.length - 1) 0) ((gre s f0 i).2 + 1) = true
    · rw [if_pos ha]
      have := h.le
      have := h.sz
      exact ⟨h.ne, by dsimp only; omega, h.hd, by dsimp only; omega, ha, fun _ => by dsimp only; omega, h.inc, h.st⟩
    · rw [if_neg ha]
      have hne := h.ne
      have hle := h.le
      have hsz := h.sz
      have hi0 : 0 < i := by
        refine Nat.pos_of_ne_zero fun hc => ?_
        subst hc
        exact ha (alone_one _ _)
      have hz := h.zp hi0
      refine ⟨by simp, by simp; omega, ?_, ?_, ?_, fun _ => by simp, ?_, ?_⟩
      · rw [getD_app hne]; exact h.hd
      · simp only [List.length_append, List.length_singleton, Nat.add_sub_cancel]
        rw [getD_end]; omega
      · exact alone_one _ _
      · intro j hj
        simp only [List.length_append, List.length_singleton] at hj
        dsimp only
        rw [getD_app (show j < (gre s f0 i).1.length by omega)]
        by_cases e : j + 1 < (gre s f0 i).1.length
        · rw [getD_app e]; exact h.inc j e
        · have : j + 1 = (gre s f0 i).1.length := by omega
          rw [this, getD_end]
          have e2 : j = (gre s f0 i).1.length - 1 := by omega
          rw [e2]; omega
      · intro j hj
        simp only [List.length_append, List.length_singleton] at hj
        dsimp only
        rw [getD_app (show j < (gre s f0 i).1.length by omega)]
        by_cases e : j + 1 < (gre s f0 i).1.length
        · rw [getD_app e]; exact h.st j e
        · have : j + 1 = (gre s f0 i).1.length := by omega
          rw [this, getD_end]
          have e2 : j = (gre s f0 i).1.length - 1 := by omega
          rw [e2]
          have e3 : f0 + i - (gre s f0 i).1.getD ((gre s f0 i).1.length - 1) 0 = (gre s f0 i).2 := by omega
          rw [e3]
          exact ⟨h.al, by simpa using ha⟩

theorem Greedy.last {s : SSequence} {f0 i : Nat} {o : List Nat} {z : Nat} (h : Greedy s f0 i o z) : ∀ j, j < o.length → o.getD j 0 ≤ o.getD (o.length - 1) 0 := by
  intro j hj
  have key : ∀ d, j + d < o.length → o.getD j 0 ≤ o.getD (j + d) 0 := by
    intro d
    induction d with
    | zero => intro _; exact Nat.le_refl _
    | succ d ih =>
      intro hd
      have := ih (by omega)
      have := h.inc (j + d) hd
      have e : j + (d + 1) = j + d + 1 := rfl
      rw [e]; omega
  have := key (o.length - 1 - j) (by omega)
  rwa [show j + (o.length - 1 - j) = o.length - 1 by omega] at this
theorem Greedy.big {s : SSequence} {f0 i : Nat} {o : List Nat} {z : Nat} (h : Greedy s f0 i o z) : ∀ j, j < o.length → f0 + j ≤ o.getD j 0 := by
  intro j
  induction j with
  | zero => intro _; have := h.hd; omega
  | succ j ih =>
    intro hj
    have := ih (by omega)
    have := h.inc j hj
    omega

def ints (o : List Nat) : List Int := o.map fun x : Nat => (x : Int)
theorem ints_len (o : List Nat) : (ints o).length = o.length := by simp [ints]
theorem ints_getD (o : List Nat) (j : Nat) : (ints o).getD j 0 = (o.getD j 0 : Int) := by
  by_cases h : j < o.length
  · rw [getD_lt (by rw [ints_len]; exact h), getD_lt h]; simp [ints]
  · simp [ints, List.getD, h]

theorem m39_eq {s : SSequence} (h : Right s) (f0 : Nat) (hf : f0 < 1000) : m39 s (f0 : Int) = some (ints (gre s f0 s.Steps.length).1) := by
  have hn := h.n64
  unfold m39
  rw [iter_fold (fun i : Nat => (ints (gre s f0 i).1, ((gre s f0 i).2 : Int), (i : Int))) s.Steps.length ?hn (ints (gre s f0 s.Steps.length).1) ?h0 ?h ?he]
  case hn => unfold fuel; omega
  case h0 => rfl
  case he =>
    try dsimp only
    rw [cond_f (lt_f (by omega))]
  case h =>
    intro i hi
    try dsimp only
    have g := greedy s f0 i
    have hne := g.ne
    have hle := g.le
    have hsz := g.sz
    rw [cond_t (lt_t (by omega)), ints_len, sub_nat hne (by omega), idx_lt (show (gre s f0 i).1.length - 1 < (ints (gre s f0 i).1).length by rw [ints_len]; omega)]
    simp only [Option.bind_some]
    rw [← getD_lt (d := 0), ints_getD, addI_nat (by omega)]
    obtain ⟨m, e, _⟩ := m44_eq h ((gre s f0 i).1.getD ((gre s f0 i).1.length - 1) 0) ((gre s f0 i).2 + 1) (by omega) (by omega)
    rw [e, addI_eq (by omega) (by omega), gre]
    simp only [Option.bind_some]
    cases ha : alone s ((gre s f0 i).1.getD ((gre s f0 i).1.length - 1) 0) ((gre s f0 i).2 + 1) with
    | true =>
      simp only [Bool.not_true, cond_false, Option.bind_some, if_true]
      rw [addI_nat (by omega), addI_nat (by omega)]
    | false =>
      simp only [Bool.not_false, cond_true, Bool.false_eq_true, if_false]
      rw [appc_eq (by simp only [List.length_singleton, ints_len]; omega) (by simp only [List.length_singleton, ints_len]; omega)]
      simp only [Option.bind_some]
      rw [addI_nat (by omega), show addI .i64 0 1 = (((0 + 1 : Nat)) : Int) from addI_nat (k := 0) (by omega)]
      simp [ints]
  rfl

/-- the fewest division -/
def few (s : SSequence) : List Int := ints (gre s 0 s.Steps.length).1

theorem m16_eq (s : SSequence) : m16 s = some (if chk s = 0 then (few s, 0) else ([], chk s)) := by
  unfold m16
  rw [m35_eq]
  simp only [Option.bind_some]
  by_cases h0 : chk s = 0
  · rw [cond_f (by simpa using h0), if_pos h0, show (0 : Int) = ((0 : Nat) : Int) from rfl, m39_eq (chk_right h0) 0 (by omega)]
    rfl
  · rw [cond_t (by simpa using h0), if_neg h0]

theorem few_ok {s : SSequence} (h : Right s) : ListOk s (few s) true ∧ rightL s (few s) = true := by
  have hn := h.n0
  have g := greedy s 0 s.Steps.length
  have hne := g.ne
  have hsz := g.sz
  have hz := g.zp hn
  have hb := g.big ((gre s 0 s.Steps.length).1.length - 1) (by omega)
  have hlen : (few s).length = (gre s 0 s.Steps.length).1.length := ints_len _
  have hok : ListOk s (few s) true := by
    refine ⟨by omega, by omega, fun _ => ?_, fun k hk => ?_, fun k hk => ?_, fun k hk => ?_⟩
    · have := g.hd
      rw [few, ints_getD]; omega
    · rw [few, ints_getD]; omega
    · have := g.last k (by omega)
      rw [few, ints_getD]; omega
    · have := g.inc k (by omega)
      rw [few, ints_getD, ints_getD]; omega
  refine ⟨hok, ?_⟩
  rw [rightL_iff]
  intro i hi
  have e1 : fst' (few s) i = (gre s 0 s.Steps.length).1.getD i 0 := by
    unfold fst'; rw [few, ints_getD]; rfl
  rw [e1]
  by_cases hc : i + 1 < (few s).length
  · have e2 : siz s (few s) i = (gre s 0 s.Steps.length).1.getD (i + 1) 0 - (gre s 0 s.Steps.length).1.getD i 0 := by
      unfold siz nxt
      have := g.inc i (by omega)
      rw [if_pos hc, few, ints_getD, ints_getD]; omega
    rw [e2]
    exact (g.st i (by omega)).1
  · have ei : i = (gre s 0 s.Steps.length).1.length - 1 := by omega
    have e2 : siz s (few s) i = (gre s 0 s.Steps.length).2 := by
      unfold siz nxt
      have := hok.zero rfl
      rw [if_neg hc, this, few, ints_getD, ei]; omega
    rw [e2, ei]
    exact g.al

/-- the step behind a group moves what has moved in the group -/
theorem few_border {s : SSequence} {i : Nat} (hi : i + 1 < (few s).length) : acc s (fst' (few s) i) (siz s (few s) i) &&& mk s (fst' (few s) (i + 1)) ≠ 0 ∧ fst' (few s) i + siz s (few s) i = fst' (few s) (i + 1) := by
  have g := greedy s 0 s.Steps.length
  have hlen : (few s).length = (gre s 0 s.Steps.length).1.length := ints_len _
  have hinc := g.inc i (by omega)
  have e1 : ∀ j, fst' (few s) j = (gre s 0 s.Steps.length).1.getD j 0 := by
    intro j; unfold fst'; rw [few, ints_getD]; rfl
  have e2 : siz s (few s) i = (gre s 0 s.Steps.length).1.getD (i + 1) 0 - (gre s 0 s.Steps.length).1.getD i 0 := by
    unfold siz nxt
    rw [if_pos hi, few, ints_getD, ints_getD]; omega
  obtain ⟨g1, g2⟩ := g.st i (by omega)
  have hsum : fst' (few s) i + siz s (few s) i = fst' (few s) (i + 1) := by rw [e2, e1, e1]; omega
  refine ⟨fun hc => ?_, hsum⟩
  rw [← e1, ← e1] at g1 g2
  rw [← e1, ← e1] at e2
  rw [← e2] at g1 g2
  rw [← hsum] at hc
  rw [alone_succ.2 ⟨g1, hc⟩] at g2
  simp at g2
end G18

namespace G18
open Go Go.Pl
theorem m21_eq (s : SSequence) (hs : Small s) : ∃ c, m21 s = some c ∧ (c = true → s.Steps.length ≤ 24 ∧ chk s = 0) := by
  unfold m21
  obtain ⟨b, hb⟩ := m11_eq s hs
  rw [hb, m37_eq s hs]
  simp only [Option.bind_some]
  by_cases h : (s.Steps.length : Int) ≤ 24
  · rw [cond_t (by simpa using h)]
    cases b with
    | false => exact ⟨false, rfl, fun h => by simp at h⟩
    | true => exact ⟨chk s == 0, rfl, fun hc => ⟨by omega, by simpa using hc⟩⟩
  · rw [cond_f (by simpa using h)]; exact ⟨false, rfl, fun h => by simp at h⟩
end G18

namespace G18
open Go Go.Pl

theorem m7_eq (s : SSequence) (hs : Small s) : m7 s = some true := by
  unfold m7
  obtain ⟨c, hc, hright⟩ := m21_eq s hs
  rw [hc]
  simp only [Option.bind_some]
  have fin : ((m12).bind fun v5 => some v5) = some true := by rw [awake_run]; rfl
  cases c with
  | false => rw [cond_t (by rfl)]; exact fin
  | true =>
    obtain ⟨h24, hc0⟩ := hright rfl
    have hr := chk_right hc0
    obtain ⟨hok, hrl⟩ := few_ok hr
    have h0 : chkL s (few s) true = 0 := chkL_of hc0 hok hrl
    have hle := hok.le
    rw [cond_f (by rfl), m16_eq, if_pos hc0]
    simp only [Option.bind_some]
    unfold m24
    rw [m46_eq s hs, h0]
    simp only [Option.bind_some]
    have hz : ((0 : Int) != 0) = false := rfl
    rw [hz]
    simp only [cond_false, Option.bind_some]
    rw [m25_eq, if_pos h0]
    simp only [Option.bind_some]
    have hml : (mems s (few s)).length = (few s).length := by simp [mems]
    rw [hml]
    have hz2 : (((0 : Int) != 0) || (((few s).length : Int) != ((few s).length : Int))) = false := by simp
    rw [hz2]
    simp only [cond_false]
    have hpos := hok.pos
    rw [iter_fold (fun k : Nat => ((k + 1 : Nat) : Int)) ((few s).length - 1) ?hn (.inl ()) ?h0 ?h ?he]
    case hn => unfold fuel; omega
    case h0 => rfl
    case he =>
      try dsimp only
      rw [cond_f (lt_f (by omega))]
    case h =>
      intro k hk
      try dsimp only
      have hk1 : k + 1 < (few s).length := by omega
      have hf := hok.fst hk1
      have hmk : k < (mems s (few s)).length := by omega
      have hmk2 : (mems s (few s))[k] = memb s (fst' (few s) k) (siz s (few s) k) := by simp [mems]
      rw [cond_t (lt_t (by omega)), idx_lt hk1]
      simp only [Option.bind_some]
      rw [← getD_lt (d := 0) hk1, hf.1, idx_lt hf.2]
      simp only [Option.bind_some]
      have hso := hr.step _ hf.2
      have hsl := hso.ok.le
      rw [iter_fold (fun i : Nat => ((i : Int), (s.Steps[fst' (few s) (k + 1)].Strokes.take i).any fun y => decide (y.Actuator ∈ memb s (fst' (few s) k) (siz s (few s) k)))) s.Steps[fst' (few s) (k + 1)].Strokes.length ?hn
        (s.Steps[fst' (few s) (k + 1)].Strokes.any fun y => decide (y.Actuator ∈ memb s (fst' (few s) k) (siz s (few s) k))) ?h0 ?h ?he]
      case hn => unfold fuel; omega
      case h0 => rfl
      case he =>
        try dsimp only
        rw [cond_f (lt_f (by omega)), List.take_of_length_le (Nat.le_refl _)]
      case h =>
        intro i hi
        try dsimp only
        have hl6 := filt_len (fun a => (acc s (fst' (few s) k) (siz s (few s) k)).testBit a) 6
        have hl6' : (memb s (fst' (few s) k) (siz s (few s) k)).length ≤ 6 := hl6
        rw [cond_t (lt_t (by omega)), idx_lt hi, sub_nat (by omega) (by omega), Nat.add_sub_cancel, idx_lt hmk, hmk2]
        simp only [Option.bind_some]
        rw [m26_eq _ _ (by omega), addI_nat (by omega), List.take_add_one, List.getElem?_eq_getElem hi, List.any_append]
        simp only [Option.bind_some]
        cases (s.Steps[fst' (few s) (k + 1)].Strokes.take i).any fun y => decide (y.Actuator ∈ memb s (fst' (few s) k) (siz s (few s) k)) <;> simp
      simp only [Option.bind_some]
      have hany : (s.Steps[fst' (few s) (k + 1)].Strokes.any fun y => decide (y.Actuator ∈ memb s (fst' (few s) k) (siz s (few s) k))) = true := by
        obtain ⟨hb, _⟩ := few_border (s := s) hk1
        refine Classical.byContradiction fun hc => hb ?_
        rw [mask_and_zero]
        intro a ha
        apply hc
        have ha2 := ha.2
        rw [← mk_hasA hr hf.2] at ha2
        have halt := hasA_lt hso ha2
        have h6 := hr.a6
        unfold hasA at ha2
        rw [List.any_eq_true] at ha2 ⊢
        obtain ⟨y, hy, e⟩ := ha2
        refine ⟨y, hy, ?_⟩
        have e' : y.Actuator = (a : Int) := by simpa using e
        rw [e', decide_eq_true_eq, memb_mem (by omega)]
        exact ha.1
      rw [hany, addI_nat (by omega)]
      rfl
    simp only [Option.bind_some, Sum.elim_inl]
    exact fin
end G18
