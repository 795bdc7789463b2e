/- Groups and lists of first steps, in plain words. No condition. -/
import Derived.Test.YtoobbcmofleljaaDoorG18d
import Derived.Test.YtoobbcmofleljaaDoorG18w
import Derived.Test.YtoobbcmofleljaaDoorG18a
namespace G18
open Go Go.Pl

theorem getD_lt {α : Type} {l : List α} {i : Nat} {d : α} (h : i < l.length) : l.getD i d = l[i] := by simp [List.getD, h]

/-- the step with a number, around the cycle -/
def stp (s : SSequence) (i : Nat) : SStep := s.Steps.getD (i % s.Steps.length) ⟨[], 0⟩
def mk (s : SSequence) (i : Nat) : Nat := mask (stp s i).Strokes
def alone (s : SSequence) (f k : Nat) : Bool := (List.range k).all fun i => (List.range i).all fun j => decide (mk s (f + i) &&& mk s (f + j) = 0)
def acc (s : SSequence) (f : Nat) : Nat → Nat
  | 0 => 0
  | k + 1 => acc s f k ||| mk s (f + k)

theorem stp_eq {s : SSequence} (h : Right s) (i : Nat) : ∃ hi : i % s.Steps.length < s.Steps.length, stp s i = s.Steps[i % s.Steps.length] := by
  have := h.n0
  have hi := Nat.mod_lt i this
  exact ⟨hi, by unfold stp; rw [getD_lt hi]⟩
theorem stp_in {s : SSequence} (h : Right s) (i : Nat) : StepIn s (stp s i) := by
  obtain ⟨hi, e⟩ := stp_eq h i
  rw [e]; exact h.step _ hi
theorem stp_lt {s : SSequence} {i : Nat} (hi : i < s.Steps.length) : stp s i = s.Steps[i] := by
  unfold stp
  have : i % s.Steps.length < s.Steps.length := by rw [Nat.mod_eq_of_lt hi]; exact hi
  rw [getD_lt this]
  congr 1
  exact Nat.mod_eq_of_lt hi
theorem mk_lt {s : SSequence} (h : Right s) (i : Nat) : mk s i < 64 := mask_lt _ (stp_in h i).ok.act
theorem acc_lt {s : SSequence} (h : Right s) (f : Nat) : ∀ k, acc s f k < 64
  | 0 => by simp [acc]
  | k + 1 => Nat.or_lt_two_pow (n := 6) (acc_lt h f k) (mk_lt h _)
theorem alone_iff {s : SSequence} {f k : Nat} : alone s f k = true ↔ ∀ i, i < k → ∀ j, j < i → mk s (f + i) &&& mk s (f + j) = 0 := by
  simp [alone, List.all_eq_true]
theorem alone_mono {s : SSequence} {f k m : Nat} (h : alone s f k = true) (hm : m ≤ k) : alone s f m = true := by
  rw [alone_iff] at h ⊢
  intro i hi j hj
  exact h i (by omega) j hj
theorem acc_bit (s : SSequence) (f a : Nat) : ∀ k, (acc s f k).testBit a = (List.range k).any fun i => (mk s (f + i)).testBit a
  | 0 => by simp [acc]
  | k + 1 => by rw [acc, Nat.testBit_or, acc_bit s f a k, List.range_succ, List.any_append]; simp
theorem acc_bit_iff {s : SSequence} {f k a : Nat} : (acc s f k).testBit a = true ↔ ∃ i, i < k ∧ (mk s (f + i)).testBit a = true := by
  rw [acc_bit, List.any_eq_true]
  constructor
  · rintro ⟨i, hi, h⟩; exact ⟨i, List.mem_range.1 hi, h⟩
  · rintro ⟨i, hi, h⟩; exact ⟨i, List.mem_range.2 hi, h⟩
theorem acc_zero {s : SSequence} {f k x : Nat} : acc s f k &&& x = 0 ↔ ∀ i, i < k → mk s (f + i) &&& x = 0 := by
  constructor
  · intro h i hi
    rw [mask_and_zero] at h ⊢
    intro a ha
    exact h a ⟨acc_bit_iff.2 ⟨i, hi, ha.1⟩, ha.2⟩
  · intro h
    rw [mask_and_zero]
    intro a ha
    obtain ⟨i, hi, hb⟩ := acc_bit_iff.1 ha.1
    exact (mask_and_zero.1 (h i hi)) a ⟨hb, ha.2⟩
theorem alone_succ {s : SSequence} {f k : Nat} : alone s f (k + 1) = true ↔ alone s f k = true ∧ acc s f k &&& mk s (f + k) = 0 := by
  rw [acc_zero]
  constructor
  · intro h
    refine ⟨alone_mono h (by omega), fun i hi => ?_⟩
    rw [Nat.and_comm]
    exact alone_iff.1 h k (by omega) i hi
  · rintro ⟨h1, h2⟩
    rw [alone_iff] at h1 ⊢
    intro i hi j hj
    by_cases e : i = k
    · subst e; rw [Nat.and_comm]; exact h2 j hj
    · exact h1 i (by omega) j hj

theorem remc_nat {x n : Nat} (h : 0 < n) : remc (x : Int) (n : Int) = some ((x % n : Nat) : Int) := by
  unfold remc
  rw [if_neg (by omega)]
  rfl

def onceG (s : SSequence) (f : Nat) (k : Nat) : Option (Int × Bool) := if acc s f k &&& mk s (f + k) = 0 then none else some ((acc s f k : Int), false)

theorem first_once {s : SSequence} {f : Nat} : ∀ k, (alone s f k = true → first k (onceG s f) = none) ∧ (alone s f k = false → ∃ m, first k (onceG s f) = some (m, false)) := by
  intro k
  constructor
  · intro h
    rw [first_none_iff]
    intro j hj
    unfold onceG
    rw [if_pos (alone_succ.1 (alone_mono h hj)).2]
  · intro h
    cases hf : first k (onceG s f) with
    | none =>
      exfalso
      rw [first_none_iff] at hf
      have : ∀ j, j ≤ k → alone s f j = true := by
        intro j
        induction j with
        | zero => intro _; rfl
        | succ j ih =>
          intro hj
          refine alone_succ.2 ⟨ih (by omega), ?_⟩
          have := hf j (by omega)
          unfold onceG at this
          refine Classical.byContradiction fun hc => ?_
          rw [if_neg hc] at this; simp at this
      rw [this k (Nat.le_refl _)] at h; simp at h
    | some r =>
      unfold first at hf
      obtain ⟨j, _, hj⟩ := List.exists_of_findSome?_eq_some hf
      unfold onceG at hj
      split at hj
      · simp at hj
      · injection hj with hj; exact ⟨_, by rw [← hj]⟩

theorem m44_eq {s : SSequence} (h : Right s) (f k : Nat) (hf : f < 1000000) (hk : k < 1000000) : ∃ m, m44 s (f : Int) (k : Int) = some (m, alone s f k) ∧ (alone s f k = true → m = (acc s f k : Int)) := by
  unfold m44
  have hn := h.n0
  have hn64 := h.n64
  rw [iter_first (fun i : Nat => ((i : Int), (acc s f i : Int))) (onceG s f) k ?hn ((acc s f k : Int)) ?h0 ?h ?he]
  case hn => unfold fuel; omega
  case h0 => rfl
  case he =>
    intro _
    try dsimp only
    rw [cond_f (lt_f (by omega))]
  case h =>
    intro i hi _
    try dsimp only
    have hlt := Nat.mod_lt (f + i) hn
    rw [cond_t (lt_t (by omega)), show addI .i64 (f : Int) (i : Int) = ((f + i : Nat) : Int) by rw [addI_eq (by omega) (by omega)]; omega, remc_nat hn]
    simp only [Option.bind_some]
    rw [idx_lt hlt]
    simp only [Option.bind_some]
    obtain ⟨_, e⟩ := stp_eq h (f + i)
    rw [m36_eq (h.step _ hlt).ok, ← e]
    simp only [Option.bind_some]
    have b1 := acc_lt h f i
    have b2 := mk_lt h (f + i)
    have e2 : mask (stp s (f + i)).Strokes = mk s (f + i) := rfl
    rw [e2, andI_nat (by omega) (by omega), orI_nat (by omega) (by omega), addI_nat (by omega)]
    unfold onceG
    by_cases hz : acc s f i &&& mk s (f + i) = 0
    · rw [if_pos hz, hz]; rfl
    · rw [if_neg hz, cond_t (by simp; omega)]
  obtain ⟨h1, h2⟩ := first_once (s := s) (f := f) k
  cases ha : alone s f k with
  | true => rw [h1 ha]; exact ⟨_, rfl, fun _ => rfl⟩
  | false =>
    obtain ⟨m, hm⟩ := h2 ha
    rw [hm]; exact ⟨_, rfl, fun h => by simp at h⟩

theorem share_mk {s : SSequence} (h : Right s) (i j : Nat) : share s (stp s i) (stp s j) = !decide (mk s i &&& mk s j = 0) := share_mask (stp_in h i) (stp_in h j)

theorem all_any {p : Nat → Bool} (k : Nat) : (List.range k).all p = !(List.range k).any fun i => !p i := by
  rw [List.all_eq_not_any_not]

theorem m78_eq {s : SSequence} (h : Right s) (f k : Nat) (hf : f < 1000000) (hk : k < 1000000) : m78 s (f : Int) (k : Int) = some (alone s f k) := by
  unfold m78
  have hn := h.n0
  have hn64 := h.n64
  rw [iter_list (List.range k) (fun i => bif (List.range i).any fun j => !decide (mk s (f + i) &&& mk s (f + j) = 0) then some false else none) ?hn () ?h0 ?h ?he]
  case hn => unfold fuel; simp; omega
  case h0 => rfl
  case he =>
    try dsimp only
    rw [cond_f (lt_f (by simp))]
  case h =>
    intro i hi
    have hi' : i < k := by simpa using hi
    try dsimp only
    rw [cond_t (lt_t (by omega))]
    rw [iter_list (List.range i) (fun j => bif !decide (mk s (f + i) &&& mk s (f + j) = 0) then some (.inr (.inr false)) else none) ?hn () ?h0 ?h ?he]
    case hn => unfold fuel; simp; omega
    case h0 => rfl
    case he =>
      try dsimp only
      rw [cond_f (lt_f (by simp))]
    case h =>
      intro j hj
      have hj' : j < i := by simpa using hj
      try dsimp only
      rw [cond_t (lt_t (by omega)), show addI .i64 (f : Int) (i : Int) = ((f + i : Nat) : Int) by rw [addI_eq (by omega) (by omega)]; omega,
        show addI .i64 (f : Int) (j : Int) = ((f + j : Nat) : Int) by rw [addI_eq (by omega) (by omega)]; omega, remc_nat hn, remc_nat hn]
      simp only [Option.bind_some, List.getElem_range]
      obtain ⟨l1, e1⟩ := stp_eq h (f + i)
      obtain ⟨l2, e2⟩ := stp_eq h (f + j)
      rw [m38_eq h l1 l2, ← e1, ← e2, share_mk h, addI_nat (by omega)]
      simp only [Option.bind_some]
      cases decide (mk s (f + i) &&& mk s (f + j) = 0) <;> rfl
    rw [findSome_if, List.getElem_range, addI_nat (by omega)]
    cases (List.range i).any fun j => !decide (mk s (f + i) &&& mk s (f + j) = 0) <;> rfl
  rw [findSome_if]
  have : alone s f k = !(List.range k).any fun i => (List.range i).any fun j => !decide (mk s (f + i) &&& mk s (f + j) = 0) := by
    unfold alone
    rw [all_any]
    congr 1
    congr 1
    funext i
    rw [all_any, Bool.not_not]
  rw [this]
  cases (List.range k).any fun i => (List.range i).any fun j => !decide (mk s (f + i) &&& mk s (f + j) = 0) <;> rfl
theorem mk_hasA {s : SSequence} (h : Right s) {i : Nat} (hi : i < s.Steps.length) (a : Nat) : hasA s.Steps[i] (a : Int) = (mk s i).testBit a := by
  rw [hasA_bit (h.step i hi).ok, ← stp_lt hi]; rfl
end G18

namespace G18
open Go Go.Pl

def listG (s : SSequence) (l : List Int) (k : Nat) : Option Int :=
  if l.getD k 0 < 0 ∨ (s.Steps.length : Int) ≤ l.getD k 0 then some 2 else if 0 < k ∧ l.getD k 0 ≤ l.getD (k - 1) 0 then some 9 else none

/-- what is wrong with a list of first steps -/
def listE (s : SSequence) (l : List Int) (b : Bool) : Int :=
  if l.length = 0 then 13 else if s.Steps.length < l.length then 5 else if b = true ∧ l.getD 0 0 ≠ 0 then 3 else
  match first l.length (listG s l) with | some r => r | none => 0

theorem m65_eq (s : SSequence) (hs : s.Steps.length ≤ 64) (l : List Int) (b : Bool) : m65 s l b = some (listE s l b) := by
  unfold m65 listE
  by_cases h1 : l.length = 0
  · rw [cond_t (by simpa using h1), if_pos h1]
  rw [cond_f (by simpa using h1), if_neg h1]
  by_cases h2 : s.Steps.length < l.length
  · rw [cond_t (by simp; omega), if_pos h2]
  rw [cond_f (by simp; omega), if_neg h2]
  have e0 : idx l (0 : Int) = some (l.getD 0 0) := by
    have := idx_lt (l := l) (k := 0) (by omega)
    rw [getD_lt (by omega)]; exact this
  have e1 : ((bif b then (idx l 0).bind fun v5 => some (v5 != 0) else some false) : Option Bool) = some (decide (b = true ∧ l.getD 0 0 ≠ 0)) := by
    cases b with
    | false => simp
    | true =>
      rw [e0]; simp only [Option.bind_some, cond_true, true_and]
      by_cases hz : l.getD 0 0 = 0
      · rw [hz]; rfl
      · rw [decide_eq_true hz, bne_iff_ne.2 hz]
  rw [e1]
  simp only [Option.bind_some]
  by_cases h3 : b = true ∧ l.getD 0 0 ≠ 0
  · rw [if_pos h3, cond_t (decide_eq_true h3)]
  rw [if_neg h3, cond_f (decide_eq_false h3)]
  rw [iter_first (fun k : Nat => (k : Int)) (listG s l) l.length ?hn () ?h0 ?h ?he]
  case hn => unfold fuel; omega
  case h0 => rfl
  case he =>
    intro _
    try dsimp only
    rw [cond_f (lt_f (by omega))]
  case h =>
    intro k hk _
    try dsimp only
    rw [cond_t (lt_t (by omega)), idx_lt hk]
    simp only [Option.bind_some]
    unfold listG
    rw [getD_lt hk]
    by_cases h4 : l[k] < 0
    · rw [cond_t (lt_t h4), if_pos (.inl h4)]; rfl
    rw [cond_f (lt_f h4)]
    simp only [Option.bind_some]
    by_cases h5 : (s.Steps.length : Int) ≤ l[k]
    · rw [if_pos (.inr h5), cond_t (by simpa using h5)]
    rw [cond_f (by simp; omega), if_neg (by omega)]
    by_cases hk0 : k = 0
    · subst hk0
      rw [if_neg (by omega), cond_f (by simp)]
      rfl
    · rw [cond_t (by simp; omega), sub_nat (by omega) (by omega), idx_lt (show k - 1 < l.length by omega), getD_lt (show k - 1 < l.length by omega)]
      simp only [Option.bind_some]
      by_cases h6 : l[k] ≤ l[k - 1]
      · rw [if_pos ⟨by omega, h6⟩, cond_t (by simpa using h6)]
      · rw [if_neg (by omega), cond_f (by simpa using h6), addI_nat (by omega)]
  cases first l.length (listG s l) <;> rfl

/-- a list of first steps that is right -/
structure ListOk (s : SSequence) (l : List Int) (b : Bool) : Prop where
  pos : 0 < l.length
  le : l.length ≤ s.Steps.length
  zero : b = true → l.getD 0 0 = 0
  lo : ∀ k, k < l.length → 0 ≤ l.getD k 0
  hi : ∀ k, k < l.length → l.getD k 0 < s.Steps.length
  inc : ∀ k, k + 1 < l.length → l.getD k 0 < l.getD (k + 1) 0

theorem listE_ok {s : SSequence} {l : List Int} {b : Bool} (h : listE s l b = 0) : ListOk s l b := by
  unfold listE at h
  split at h
  · omega
  split at h
  · omega
  split at h
  · omega
  rename_i h1 h2 h3
  split at h
  · rename_i r hr
    exfalso
    unfold first at hr
    obtain ⟨k, _, hk⟩ := List.exists_of_findSome?_eq_some hr
    subst h
    unfold listG at hk
    split at hk
    · simp at hk
    · split at hk <;> simp at hk
  · rename_i hr
    rw [first_none_iff] at hr
    have hb : ∀ k, k < l.length → ¬(l.getD k 0 < 0 ∨ (s.Steps.length : Int) ≤ l.getD k 0) ∧ ¬(0 < k ∧ l.getD k 0 ≤ l.getD (k - 1) 0) := by
      intro k hk
      have := hr k hk
      unfold listG at this
      split at this
      · simp at this
      · split at this
        · simp at this
        · exact ⟨by assumption, by assumption⟩
    refine ⟨by omega, by omega, fun hb => ?_, fun k hk => ?_, fun k hk => ?_, fun k hk => ?_⟩
    · exact Classical.byContradiction fun hc => h3 ⟨hb, hc⟩
    · have := (hb k hk).1; omega
    · have := (hb k hk).1; omega
    · have := (hb (k + 1) hk).2
      rw [Nat.add_sub_cancel] at this; omega

theorem listE_of {s : SSequence} {l : List Int} {b : Bool} (h : ListOk s l b) : listE s l b = 0 := by
  unfold listE
  have := h.pos
  have := h.le
  rw [if_neg (by omega), if_neg (by omega), if_neg (fun hc => hc.2 (h.zero hc.1)), first_none]
  intro k hk
  unfold listG
  have h1 := h.lo k hk
  have h2 := h.hi k hk
  rw [if_neg (by omega)]
  by_cases hk0 : k = 0
  · rw [if_neg (by omega)]
  · have := h.inc (k - 1) (by omega)
    rw [Nat.sub_add_cancel (by omega)] at this
    rw [if_neg (by omega)]

theorem ListOk.mono {s : SSequence} {l : List Int} {b : Bool} (h : ListOk s l b) {i j : Nat} (hij : i < j) (hj : j < l.length) : l.getD i 0 < l.getD j 0 := by
  induction j with
  | zero => omega
  | succ j ih =>
    have h1 := h.inc j hj
    by_cases e : i = j
    · subst e; exact h1
    · have := ih (by omega) (by omega); omega

/-- where a group ends -/
def nxt (s : SSequence) (l : List Int) (i : Nat) : Int := if i + 1 < l.length then l.getD (i + 1) 0 else s.Steps.length + l.getD 0 0

/-- a group's first step and its size -/
def fst' (l : List Int) (i : Nat) : Nat := (l.getD i 0).toNat
def siz (s : SSequence) (l : List Int) (i : Nat) : Nat := (nxt s l i - l.getD i 0).toNat

theorem ListOk.fst {s : SSequence} {l : List Int} {b : Bool} (h : ListOk s l b) {i : Nat} (hi : i < l.length) : l.getD i 0 = (fst' l i : Int) ∧ fst' l i < s.Steps.length := by
  have h1 := h.lo i hi
  have h2 := h.hi i hi
  unfold fst'; omega
theorem ListOk.nx {s : SSequence} {l : List Int} {b : Bool} (h : ListOk s l b) {i : Nat} (hi : i < l.length) : l.getD i 0 < nxt s l i ∧ nxt s l i < 2 * s.Steps.length := by
  have := h.lo i hi
  have := h.hi i hi
  have := h.lo 0 h.pos
  have := h.hi 0 h.pos
  unfold nxt
  split
  · rename_i hc
    have := h.inc i hc
    have := h.hi (i + 1) hc
    omega
  · omega
theorem ListOk.siz {s : SSequence} {l : List Int} {b : Bool} (h : ListOk s l b) {i : Nat} (hi : i < l.length) : nxt s l i - l.getD i 0 = (siz s l i : Int) ∧ siz s l i < 2 * s.Steps.length ∧ 0 < siz s l i := by
  obtain ⟨h1, h2⟩ := h.nx hi
  have := h.lo i hi
  unfold G18.siz; omega

theorem m52_eq {s : SSequence} {l : List Int} {b : Bool} (h : ListOk s l b) (hs : s.Steps.length ≤ 64) {i : Nat} (hi : i < l.length) : m52 s l (i : Int) = some (nxt s l i) := by
  have := h.le
  unfold m52 nxt
  rw [addI_nat (by omega)]
  by_cases hc : i + 1 < l.length
  · rw [if_pos hc, cond_t (lt_t (by omega)), idx_lt hc, getD_lt hc]; rfl
  · have hp := h.pos
    have h0 := idx_lt (l := l) (k := 0) hp
    have h1 := h.lo 0 hp
    have h2 := h.hi 0 hp
    rw [getD_lt hp] at h1 h2
    rw [if_neg hc, cond_f (lt_f (by omega)), show (0 : Int) = ((0 : Nat) : Int) from rfl, h0, getD_lt hp]
    simp only [Option.bind_some]
    rw [addI_eq (by omega) (by omega)]

/-- has no group an actuator that moves twice? -/
def rightL (s : SSequence) (l : List Int) : Bool := (List.range l.length).all fun i => alone s (fst' l i) (siz s l i)

theorem m66_eq {s : SSequence} (hr : Right s) {l : List Int} {b : Bool} (h : ListOk s l b) : m66 s l = some (rightL s l) := by
  have hs := hr.n64
  have := h.le
  unfold m66
  rw [iter_list (List.range l.length) (fun i => bif !alone s (fst' l i) (siz s l i) then some false else none) ?hn () ?h0 ?h ?he]
  case hn => unfold fuel; simp; omega
  case h0 => rfl
  case he =>
    try dsimp only
    rw [cond_f (lt_f (by simp))]
  case h =>
    intro k hk
    have hk' : k < l.length := by simpa using hk
    try dsimp only
    have hsz := h.siz hk'
    have hf := h.fst hk'
    obtain ⟨hn1, hn2⟩ := h.nx hk'
    have hlo := h.lo k hk'
    have hm := m52_eq h hs hk'
    rw [cond_t (lt_t (by omega)), idx_lt hk']
    simp only [Option.bind_some]
    rw [hm]
    simp only [Option.bind_some, List.getElem_range]
    rw [← getD_lt (d := 0) hk', subI_eq (by omega) (by omega), hsz.1, hf.1, m78_eq hr _ _ (by omega) (by omega), addI_nat (by omega)]
    simp only [Option.bind_some]
    cases alone s (fst' l k) (siz s l k) <;> rfl
  rw [findSome_if]
  unfold rightL
  rw [all_any]
  cases (List.range l.length).any fun i => !alone s (fst' l i) (siz s l i) <;> rfl

theorem rightL_iff {s : SSequence} {l : List Int} : rightL s l = true ↔ ∀ i, i < l.length → alone s (fst' l i) (siz s l i) = true := by
  simp [rightL, List.all_eq_true]
end G18

namespace G18
open Go Go.Pl
theorem m68_eq (s : SSequence) (l : List Int) (b : Bool) : m68 s l b = m65 s l b := by
  unfold m68 m65
  congr 1
  congr 1
  congr 1
  funext w3
  congr 1
  congr 1
  congr 1
  funext s7
  congr 1
  cases idx l s7 with
  | none => rfl
  | some v =>
    simp only [Option.bind_some]
    cases decide (v < 0) <;> cases decide (v ≥ (s.Steps.length : Int)) <;> rfl

theorem m48_eq {s : SSequence} {l : List Int} {b : Bool} (h : ListOk s l b) (hs : s.Steps.length ≤ 64) : m48 s l = some ((List.range l.length).map fun i => (siz s l i : Int)) := by
  have := h.le
  unfold m48
  rw [iter_fold (fun k : Nat => ((List.range k).map (fun i => (siz s l i : Int)), (k : Int))) l.length ?hn ((List.range l.length).map fun i => (siz s l i : Int)) ?h0 ?h ?he]
  case hn => unfold fuel; omega
  case h0 => rfl
  case he =>
    try dsimp only
    rw [cond_f (lt_f (by omega))]
  case h =>
    intro k hk
    try dsimp only
    have hp := h.pos
    have h0 := idx_lt (l := l) (k := 0) hp
    have h1 := h.lo 0 hp
    have h2 := h.hi 0 hp
    have hm := m52_eq h hs hk
    have hsz := h.siz hk
    have hlo := h.lo k hk
    obtain ⟨hn1, hn2⟩ := h.nx hk
    rw [getD_lt hk] at hsz hlo hn1
    rw [cond_t (lt_t (by omega)), idx_lt hk, show idx l (0 : Int) = some l[0] from h0]
    simp only [Option.bind_some]
    have e : ((bif (decide ((addI .i64 (k : Int) 1) < (l.length : Int))) then (idx l (addI .i64 (k : Int) 1)).bind fun v8 => some v8 else some (addI .i64 l[0] (s.Steps.length : Int))) : Option (Int)) = some (nxt s l k) := by
      rw [getD_lt hp] at h1 h2
      rw [← hm]
      unfold m52
      rw [show idx l (0 : Int) = some l[0] from h0]
      simp only [Option.bind_some]
      rw [addI_eq (x := l[0]) (by omega) (by omega), addI_eq (x := (s.Steps.length : Int)) (by omega) (by omega), Int.add_comm]
    rw [e]
    simp only [Option.bind_some]
    rw [appc_eq (by simp; omega) (by simp; omega), subI_eq (by omega) (by omega), hsz.1, addI_nat (by omega)]
    simp only [Option.bind_some]
    rw [List.range_succ, List.map_append]
    rfl
  rfl

def chkL (s : SSequence) (l : List Int) (b : Bool) : Int := if chk s ≠ 0 then chk s else if listE s l b ≠ 0 then listE s l b else if rightL s l = true then 0 else 7

theorem m46_eq (s : SSequence) (hs : Small s) (l : List Int) (b : Bool) : m46 s l b = some (chkL s l b) := by
  unfold m46 chkL
  rw [m37_eq s hs]
  simp only [Option.bind_some]
  by_cases h0 : chk s = 0
  · have hr := chk_right h0
    rw [cond_f (by simpa using h0), if_neg (by simpa using h0), m65_eq s hr.n64]
    simp only [Option.bind_some]
    by_cases h1 : listE s l b = 0
    · rw [cond_f (by simpa using h1), if_neg (by simpa using h1), m66_eq hr (listE_ok h1)]
      cases rightL s l <;> rfl
    · rw [cond_t (by simpa using h1), if_pos h1]
  · rw [cond_t (by simpa using h0), if_pos h0]

theorem m47_eq (s : SSequence) (l : List Int) (b : Bool) : m47 s l b = some (chkL s l b) := by
  unfold m47 chkL
  rw [m35_eq s]
  simp only [Option.bind_some]
  by_cases h0 : chk s = 0
  · have hr := chk_right h0
    have hs := hr.n64
    rw [cond_f (by simpa using h0), if_neg (by simpa using h0), m68_eq, m65_eq s hr.n64]
    simp only [Option.bind_some]
    by_cases h1 : listE s l b = 0
    · have h := listE_ok h1
      have hle := h.le
      rw [cond_f (by simpa using h1), if_neg (by simpa using h1), m48_eq h hs]
      simp only [Option.bind_some, List.length_map, List.length_range]
      rw [iter_list (List.range l.length) (fun i => bif !alone s (fst' l i) (siz s l i) then some 7 else none) ?hn () ?h0 ?h ?he]
      case hn => unfold fuel; simp; omega
      case h0 => rfl
      case he =>
        try dsimp only
        rw [cond_f (lt_f (by simp))]
      case h =>
        intro k hk
        have hk' : k < l.length := by simpa using hk
        try dsimp only
        have hsz := h.siz hk'
        have hf := h.fst hk'
        rw [cond_t (lt_t (by omega)), idx_lt (show k < ((List.range l.length).map fun i => (siz s l i : Int)).length by simpa using hk), idx_lt hk']
        simp only [Option.bind_some, List.getElem_map, List.getElem_range]
        rw [← getD_lt (d := 0) hk', hf.1]
        obtain ⟨m, e, _⟩ := m44_eq hr (fst' l k) (siz s l k) (by omega) (by omega)
        rw [e, addI_nat (by omega)]
        simp only [Option.bind_some]
        cases alone s (fst' l k) (siz s l k) <;> rfl
      rw [findSome_if]
      unfold rightL
      rw [all_any]
      cases (List.range l.length).any fun i => !alone s (fst' l i) (siz s l i) <;> rfl
    · rw [cond_t (by simpa using h1), if_pos h1]
  · rw [cond_t (by simpa using h0), if_pos h0]

theorem chkL_ok {s : SSequence} {l : List Int} {b : Bool} (h : chkL s l b = 0) : chk s = 0 ∧ ListOk s l b ∧ rightL s l = true := by
  unfold chkL at h
  split at h
  · rename_i h0; exact (h0 h).elim
  split at h
  · rename_i h0; exact (h0 h).elim
  rename_i h0 h1
  split at h
  · exact ⟨by simpa using h0, listE_ok (by simpa using h1), by assumption⟩
  · omega
theorem chkL_of {s : SSequence} {l : List Int} {b : Bool} (h0 : chk s = 0) (h1 : ListOk s l b) (h2 : rightL s l = true) : chkL s l b = 0 := by
  unfold chkL
  rw [if_neg (by simpa using h0), if_neg (by simpa using listE_of h1), if_pos h2]
end G18

namespace G18
open Go Go.Pl

/-- groups as long as possible from a step on: their first steps, and the size of the last one -/
def gre (s : SSequence) (f0 : Nat) : Nat → List Nat × Nat
  | 0 => ([f0], 0)
  | i + 1 => if alone s ((gre s f0 i).1.getD ((gre s f0 i).1.length - 1) 0) ((gre s f0 i).2 + 1) = true then ((gre s f0 i).1, (gre s f0 i).2 + 1) else ((gre s f0 i).1 ++ [f0 + i], 1)

structure Greedy (s : SSequence) (f0 i : Nat) (o : List Nat) (z : Nat) : Prop where
  ne : 0 < o.length
  le : o.length ≤ i + 1
  hd : o.getD 0 0 = f0
  sz : o.getD (o.length - 1) 0 + z = f0 + i
  al : alone s (o.getD (o.length - 1) 0) z = true
  zp : 0 < i → 0 < z
  inc : ∀ j, j + 1 < o.length → o.getD j 0 < o.getD (j + 1) 0
  st : ∀ j, j + 1 < o.length → alone s (o.getD j 0) (o.getD (j + 1) 0 - o.getD j 0) = true ∧ alone s (o.getD j 0) (o.getD (j + 1) 0 - o.getD j 0 + 1) = false

theorem alone_one (s : SSequence) (f : Nat) : alone s f 1 = true := by
  rw [alone_iff]; intro i hi j hj; omega

theorem getD_app {o : List Nat} {x j : Nat} (h : j < o.length) : (o ++ [x]).getD j 0 = o.getD j 0 := by
  rw [getD_lt (by simp; omega), getD_lt h, List.getElem_append_left h]
theorem getD_end (o : List Nat) (x : Nat) : (o ++ [x]).getD o.length 0 = x := by
  rw [getD_lt (by simp)]; simp

theorem greedy (s : SSequence) (f0 : Nat) : ∀ i, Greedy s f0 i (gre s f0 i).1 (gre s f0 i).2
  | 0 => ⟨by simp [gre], by simp [gre], rfl, rfl, by rw [alone_iff]; intro i hi; simp [gre] at hi, by omega, fun j hj => by simp [gre] at hj, fun j hj => by simp [gre] at hj⟩
  | i + 1 => by
    have h := greedy s f0 i
    rw [gre]
    by_cases ha : alone s ((gre s f0 i).1.getD ((gre s f0 i).1.length - 1) 0) ((gre s f0 i).2 + 1) = true
    · rw [if_pos ha]
      have := h.le
      have := h.sz
      exact ⟨h.ne, by dsimp only; omega, h.hd, by dsimp only; omega, ha, fun _ => by dsimp only; omega, h.inc, h.st⟩
    · rw [if_neg ha]
      have hne := h.ne
      have hle := h.le
      have hsz := h.sz
      have hi0 : 0 < i := by
        refine Nat.pos_of_ne_zero fun hc => ?_
        subst hc
        exact ha (alone_one _ _)
      have hz := h.zp hi0
      refine ⟨by simp, by simp; omega, ?_, ?_, ?_, fun _ => by simp, ?_, ?_⟩
      · rw [getD_app hne]; exact h.hd
      · simp only [List.length_append, List.length_singleton, Nat.add_sub_cancel]
        rw [getD_end]; omega
      · exact alone_one _ _
      · intro j hj
        simp only [List.length_append, List.length_singleton] at hj
        dsimp only
        rw [getD_app (show j < (gre s f0 i).1.length by omega)]
        by_cases e : j + 1 < (gre s f0 i).1.length
        · rw [getD_app e]; exact h.inc j e
        · have : j + 1 = (gre s f0 i).1.length := by omega
          rw [this, getD_end]
          have e2 : j = (gre s f0 i).1.length - 1 := by omega
          rw [e2]; omega
      · intro j hj
        simp only [List.length_append, List.length_singleton] at hj
        dsimp only
        rw [getD_app (show j < (gre s f0 i).1.length by omega)]
        by_cases e : j + 1 < (gre s f0 i).1.length
        · rw [getD_app e]; exact h.st j e
        · have : j + 1 = (gre s f0 i).1.length := by omega
          rw [this, getD_end]
          have e2 : j = (gre s f0 i).1.length - 1 := by omega
          rw [e2]
          have e3 : f0 + i - (gre s f0 i).1.getD ((gre s f0 i).1.length - 1) 0 = (gre s f0 i).2 := by omega
          rw [e3]
          exact ⟨h.al, by simpa using ha⟩

theorem Greedy.last {s : SSequence} {f0 i : Nat} {o : List Nat} {z : Nat} (h : Greedy s f0 i o z) : ∀ j, j < o.length → o.getD j 0 ≤ o.getD (o.length - 1) 0 := by
  intro j hj
  have key : ∀ d, j + d < o.length → o.getD j 0 ≤ o.getD (j + d) 0 := by
    intro d
    induction d with
    | zero => intro _; exact Nat.le_refl _
    | succ d ih =>
      intro hd
      have := ih (by omega)
      have := h.inc (j + d) hd
      have e : j + (d + 1) = j + d + 1 := rfl
      rw [e]; omega
  have := key (o.length - 1 - j) (by omega)
  rwa [show j + (o.length - 1 - j) = o.length - 1 by omega] at this
theorem Greedy.big {s : SSequence} {f0 i : Nat} {o : List Nat} {z : Nat} (h : Greedy s f0 i o z) : ∀ j, j < o.length → f0 + j ≤ o.getD j 0 := by
  intro j
  induction j with
  | zero => intro _; have := h.hd; omega
  | succ j ih =>
    intro hj
    have := ih (by omega)
    have := h.inc j hj
    omega

def ints (o : List Nat) : List Int := o.map fun x : Nat => (x : Int)
theorem ints_len (o : List Nat) : (ints o).length = o.length := by simp [ints]
theorem ints_getD (o : List Nat) (j : Nat) : (ints o).getD j 0 = (o.getD j 0 : Int) := by
  by_cases h : j < o.length
  · rw [getD_lt (by rw [ints_len]; exact h), getD_lt h]; simp [ints]
  · simp [ints, List.getD, h]

theorem m39_eq {s : SSequence} (h : Right s) (f0 : Nat) (hf : f0 < 1000) : m39 s (f0 : Int) = some (ints (gre s f0 s.Steps.length).1) := by
  have hn := h.n64
  unfold m39
  rw [iter_fold (fun i : Nat => (ints (gre s f0 i).1, ((gre s f0 i).2 : Int), (i : Int))) s.Steps.length ?hn (ints (gre s f0 s.Steps.length).1) ?h0 ?h ?he]
  case hn => unfold fuel; omega
  case h0 => rfl
  case he =>
    try dsimp only
    rw [cond_f (lt_f (by omega))]
  case h =>
    intro i hi
    try dsimp only
    have g := greedy s f0 i
    have hne := g.ne
    have hle := g.le
    have hsz := g.sz
    rw [cond_t (lt_t (by omega)), ints_len, sub_nat hne (by omega), idx_lt (show (gre s f0 i).1.length - 1 < (ints (gre s f0 i).1).length by rw [ints_len]; omega)]
    simp only [Option.bind_some]
    rw [← getD_lt (d := 0), ints_getD, addI_nat (by omega)]
    obtain ⟨m, e, _⟩ := m44_eq h ((gre s f0 i).1.getD ((gre s f0 i).1.length - 1) 0) ((gre s f0 i).2 + 1) (by omega) (by omega)
    rw [e, addI_eq (by omega) (by omega), gre]
    simp only [Option.bind_some]
    cases ha : alone s ((gre s f0 i).1.getD ((gre s f0 i).1.length - 1) 0) ((gre s f0 i).2 + 1) with
    | true =>
      simp only [Bool.not_true, cond_false, Option.bind_some, if_true]
      rw [addI_nat (by omega), addI_nat (by omega)]
    | false =>
      simp only [Bool.not_false, cond_true, Bool.false_eq_true, if_false]
      rw [appc_eq (by simp only [List.length_singleton, ints_len]; omega) (by simp only [List.length_singleton, ints_len]; omega)]
      simp only [Option.bind_some]
      rw [addI_nat (by omega), show addI .i64 0 1 = (((0 + 1 : Nat)) : Int) from addI_nat (k := 0) (by omega)]
      simp [ints]
  rfl

/-- the fewest division -/
def few (s : SSequence) : List Int := ints (gre s 0 s.Steps.length).1

theorem m16_eq (s : SSequence) : m16 s = some (if chk s = 0 then (few s, 0) else ([], chk s)) := by
  unfold m16
  rw [m35_eq]
  simp only [Option.bind_some]
  by_cases h0 : chk s = 0
  · rw [cond_f (by simpa using h0), if_pos h0, show (0 : Int) = ((0 : Nat) : Int) from rfl, m39_eq (chk_right h0) 0 (by omega)]
    rfl
  · rw [cond_t (by simpa using h0), if_neg h0]

theorem few_ok {s : SSequence} (h : Right s) : ListOk s (few s) true ∧ rightL s (few s) = true := by
  have hn := h.n0
  have g := greedy s 0 s.Steps.length
  have hne := g.ne
  have hsz := g.sz
  have hz := g.zp hn
  have hb := g.big ((gre s 0 s.Steps.length).1.length - 1) (by omega)
  have hlen : (few s).length = (gre s 0 s.Steps.length).1.length := ints_len _
  have hok : ListOk s (few s) true := by
    refine ⟨by omega, by omega, fun _ => ?_, fun k hk => ?_, fun k hk => ?_, fun k hk => ?_⟩
    · have := g.hd
      rw [few, ints_getD]; omega
    · rw [few, ints_getD]; omega
    · have := g.last k (by omega)
      rw [few, ints_getD]; omega
    · have := g.inc k (by omega)
      rw [few, ints_getD, ints_getD]; omega
  refine ⟨hok, ?_⟩
  rw [rightL_iff]
  intro i hi
  have e1 : fst' (few s) i = (gre s 0 s.Steps.length).1.getD i 0 := by
    unfold fst'; rw [few, ints_getD]; rfl
  rw [e1]
  by_cases hc : i + 1 < (few s).length
  · have e2 : siz s (few s) i = (gre s 0 s.Steps.length).1.getD (i + 1) 0 - (gre s 0 s.Steps.length).1.getD i 0 := by
      unfold siz nxt
      have := g.inc i (by omega)
      rw [if_pos hc, few, ints_getD, ints_getD]; omega
    rw [e2]
    exact (g.st i (by omega)).1
  · have ei : i = (gre s 0 s.Steps.length).1.length - 1 := by omega
    have e2 : siz s (few s) i = (gre s 0 s.Steps.length).2 := by
      unfold siz nxt
      have := hok.zero rfl
      rw [if_neg hc, this, few, ints_getD, ei]; omega
    rw [e2, ei]
    exact g.al

/-- the step behind a group moves what has moved in the group -/
theorem few_border {s : SSequence} {i : Nat} (hi : i + 1 < (few s).length) : acc s (fst' (few s) i) (siz s (few s) i) &&& mk s (fst' (few s) (i + 1)) ≠ 0 ∧ fst' (few s) i + siz s (few s) i = fst' (few s) (i + 1) := by
  have g := greedy s 0 s.Steps.length
  have hlen : (few s).length = (gre s 0 s.Steps.length).1.length := ints_len _
  have hinc := g.inc i (by omega)
  have e1 : ∀ j, fst' (few s) j = (gre s 0 s.Steps.length).1.getD j 0 := by
    intro j; unfold fst'; rw [few, ints_getD]; rfl
  have e2 : siz s (few s) i = (gre s 0 s.Steps.length).1.getD (i + 1) 0 - (gre s 0 s.Steps.length).1.getD i 0 := by
    unfold siz nxt
    rw [if_pos hi, few, ints_getD, ints_getD]; omega
  obtain ⟨g1, g2⟩ := g.st i (by omega)
  have hsum : fst' (few s) i + siz s (few s) i = fst' (few s) (i + 1) := by rw [e2, e1, e1]; omega
  refine ⟨fun hc => ?_, hsum⟩
  rw [← e1, ← e1] at g1 g2
  rw [← e1, ← e1] at e2
  rw [← e2] at g1 g2
  rw [← hsum] at hc
  rw [alone_succ.2 ⟨g1, hc⟩] at g2
  simp at g2
end G18

namespace G18
open Go Go.Pl
theorem m21_eq (s : SSequence) (hs : Small s) : ∃ c, m21 s = some c ∧ (c = true → s.Steps.length ≤ 24 ∧ chk s = 0) := by
  unfold m21
  obtain ⟨b, hb⟩ := m11_eq s hs
  rw [hb, m37_eq s hs]
  simp only [Option.bind_some]
  by_cases h : (s.Steps.length : Int) ≤ 24
  · rw [cond_t (by simpa using h)]
    cases b with
    | false => exact ⟨false, rfl, fun h => by simp at h⟩
    | true => exact ⟨chk s == 0, rfl, fun hc => ⟨by omega, by simpa using hc⟩⟩
  · rw [cond_f (by simpa using h)]; exact ⟨false, rfl, fun h => by simp at h⟩
end G18

namespace G18
open Go Go.Pl
/-- what is wrong with the k-th pair -/
def pairG (s : SSequence) (l : List (Int × Int)) (k : Nat) : Option (Int × Int) :=
  if h : k < l.length then
    if h2 : 0 ≤ l[k].1 ∧ l[k].1 < s.Steps.length ∧ 0 ≤ l[k].2 ∧ l[k].2 < s.Steps.length then
      if l[k].2 ≤ l[k].1 ∨ (0 < k ∧ l[k].1 < l[k - 1].2) then some (0, 9)
      else if share s (s.Steps[l[k].1.toNat]'(by omega)) (s.Steps[l[k].2.toNat]'(by omega)) = true then none else some (0, 15)
    else some (0, 2)
  else none

theorem bool_of {p q : Prop} [Decidable p] [Decidable q] (h : p ↔ q) : decide p = decide q := by
  by_cases hp : p
  · simp [hp, h.1 hp]
  · simp [hp, show ¬ q from fun hq => hp (h.2 hq)]

theorem m14_loop (s : SSequence) (h : Right s) (l : List (Int × Int)) (hl : l.length ≤ 64) : m14 s l = (m37 s).bind fun v1 => (bif (v1 != 0) then some (0, v1) else (bif (decide ((l.length : Int) > (s.Steps.length : Int))) then some (0, 5) else
    match first l.length (pairG s l) with | some r => some r | none => some ((addI .i64 (l.length : Int) 1), 0))) := by
  unfold m14
  congr 1
  funext v1
  congr 1
  congr 1
  rw [iter_first (fun k : Nat => (k : Int)) (pairG s l) l.length ?hn () ?h0 ?h ?he]
  case hn => unfold fuel; omega
  case h0 => rfl
  case he =>
    intro _
    try dsimp only
    rw [cond_f (lt_f (by omega))]
  case h =>
    intro k hk _
    try dsimp only
    rw [cond_t (lt_t (by omega)), idx_lt hk]
    simp only [Option.bind_some]
    unfold pairG
    rw [dif_pos hk]
    by_cases h2 : 0 ≤ l[k].1 ∧ l[k].1 < s.Steps.length ∧ 0 ≤ l[k].2 ∧ l[k].2 < s.Steps.length
    · rw [dif_pos h2, cond_f (by simp only [Bool.or_eq_false_iff, decide_eq_false_iff_not]; omega)]
      have e1 : l[k].1 = ((l[k].1.toNat : Nat) : Int) := by omega
      have e2 : l[k].2 = ((l[k].2.toNat : Nat) : Int) := by omega
      have hsh : m38 s l[k].1 l[k].2 = some (share s (s.Steps[l[k].1.toNat]'(by omega)) (s.Steps[l[k].2.toNat]'(by omega))) := by
        conv => lhs; rw [e1, e2]
        exact m38_eq h (by omega) (by omega)
      by_cases h3 : l[k].1 ≥ l[k].2
      · rw [if_pos (.inl (by omega)), cond_t (by simpa using h3)]
        rfl
      · rw [cond_f (by simpa using h3)]
        by_cases hk0 : k = 0
        · subst hk0
          rw [if_neg (by omega), cond_f (by simp)]
          simp only [Option.bind_some, cond_false]
          rw [hsh, addI_nat (by omega)]
          simp only [Option.bind_some]
          cases share s (s.Steps[l[0].1.toNat]'(by omega)) (s.Steps[l[0].2.toNat]'(by omega)) <;> rfl
        · rw [cond_t (by simp; omega), sub_nat (by omega) (by omega), idx_lt (show k - 1 < l.length by omega)]
          simp only [Option.bind_some]
          by_cases h4 : l[k].1 < l[k - 1].2
          · rw [if_pos (.inr ⟨by omega, h4⟩), cond_t (lt_t h4)]
          · rw [if_neg (by omega), cond_f (lt_f h4), hsh, addI_nat (by omega)]
            simp only [Option.bind_some]
            cases share s (s.Steps[l[k].1.toNat]'(by omega)) (s.Steps[l[k].2.toNat]'(by omega)) <;> rfl
    · rw [dif_neg h2, cond_t (by simp only [Bool.or_eq_true, decide_eq_true_eq]; omega)]
  cases first l.length (pairG s l) <;> rfl

theorem m13_loop (s : SSequence) (h : Right s) (l : List (Int × Int)) (hl : l.length ≤ 64) : m13 s l = (m35 s).bind fun v1 => (bif (v1 != 0) then some (0, v1) else (bif (decide ((l.length : Int) > (s.Steps.length : Int))) then some (0, 5) else
    match first l.length (pairG s l) with | some r => some r | none => some ((addI .i64 (l.length : Int) 1), 0))) := by
  unfold m13
  congr 1
  funext v1
  congr 1
  congr 1
  rw [iter_first (fun k : Nat => ((k : Int), if h : 0 < k ∧ k - 1 < l.length then l[k - 1].2 else 0)) (pairG s l) l.length ?hn () ?h0 ?h ?he]
  case hn => unfold fuel; omega
  case h0 => rfl
  case he =>
    intro _
    try dsimp only
    rw [cond_f (lt_f (by omega))]
  case h =>
    intro k hk _
    try dsimp only
    have hnext : ∀ h, (if h : 0 < k + 1 ∧ k + 1 - 1 < l.length then l[k + 1 - 1].2 else 0) = (l[k]'h).2 := by
      intro h; rw [dif_pos ⟨by omega, by omega⟩]; rfl
    rw [cond_t (lt_t (by omega)), idx_lt hk]
    simp only [Option.bind_some]
    unfold pairG
    rw [dif_pos hk]
    by_cases h2 : 0 ≤ l[k].1 ∧ l[k].1 < s.Steps.length ∧ 0 ≤ l[k].2 ∧ l[k].2 < s.Steps.length
    · have hmin : 0 ≤ minI l[k].1 l[k].2 := by unfold minI; split <;> omega
      have hmax : maxI l[k].1 l[k].2 < s.Steps.length := by unfold maxI; split <;> omega
      rw [dif_pos h2, cond_f (by simp only [Bool.or_eq_false_iff, decide_eq_false_iff_not]; omega)]
      have e1 : l[k].1 = ((l[k].1.toNat : Nat) : Int) := by omega
      have e2 : l[k].2 = ((l[k].2.toNat : Nat) : Int) := by omega
      have i1 := h.step l[k].1.toNat (by omega)
      have i2 := h.step l[k].2.toNat (by omega)
      have x1 : idx s.Steps l[k].1 = some (s.Steps[l[k].1.toNat]'(by omega)) := by conv => lhs; rw [e1, idx_lt (show l[k].1.toNat < s.Steps.length by omega)]
      have x2 : idx s.Steps l[k].2 = some (s.Steps[l[k].2.toNat]'(by omega)) := by conv => lhs; rw [e2, idx_lt (show l[k].2.toNat < s.Steps.length by omega)]
      have b1 := mask_lt _ i1.ok.act
      have b2 := mask_lt _ i2.ok.act
      have fin : (((idx s.Steps l[k].1).bind fun v15 => (m36 v15).bind fun v16 => (idx s.Steps l[k].2).bind fun v17 => (m36 v17).bind fun v18 => (bif ((andI .u64 v16 v18) == 0) then some (.inr (.inr (0, 15))) else some (.inl ((addI .i64 (k : Int) 1), l[k].2)))) : Option ((Int × Int) ⊕ ((Unit) ⊕ (Int × Int)))) =
          some (if share s (s.Steps[l[k].1.toNat]'(by omega)) (s.Steps[l[k].2.toNat]'(by omega)) = true then .inl (((k + 1 : Nat) : Int), l[k].2) else .inr (.inr (0, 15))) := by
        rw [x1, x2]
        simp only [Option.bind_some]
        rw [m36_eq i1.ok, m36_eq i2.ok]
        simp only [Option.bind_some]
        rw [andI_nat (by omega) (by omega), addI_nat (by omega), share_mask i1 i2]
        by_cases hz : mask (s.Steps[l[k].1.toNat]'(by omega)).Strokes &&& mask (s.Steps[l[k].2.toNat]'(by omega)).Strokes = 0
        · rw [hz]; rfl
        · rw [cond_f (by simp; omega), if_pos (by simpa using hz)]
      rw [fin, hnext hk]
      by_cases hk0 : k = 0
      · subst hk0
        by_cases h3 : l[0].1 ≥ l[0].2
        · rw [cond_t (by simp; omega), if_pos (.inl (by omega))]
        · rw [if_neg (c := l[0].2 ≤ l[0].1 ∨ (0 < 0 ∧ l[0].1 < l[0 - 1].2)) (by omega), cond_f (by simp; omega)]
          by_cases hs : share s (s.Steps[l[0].1.toNat]'(by omega)) (s.Steps[l[0].2.toNat]'(by omega)) = true
          · rw [if_pos hs, if_pos hs]
          · rw [if_neg hs, if_neg hs]
      · rw [dif_pos ⟨by omega, by omega⟩]
        by_cases h3 : l[k].1 ≥ l[k].2
        · rw [cond_t (by simp; omega), if_pos (.inl (by omega))]
        · by_cases h4 : l[k].1 < l[k - 1].2
          · rw [cond_t (by simp; omega), if_pos (.inr ⟨by omega, h4⟩)]
          · rw [if_neg (c := l[k].2 ≤ l[k].1 ∨ (0 < k ∧ l[k].1 < l[k - 1].2)) (by omega), cond_f (by simp; omega)]
            by_cases hs : share s (s.Steps[l[k].1.toNat]'(by omega)) (s.Steps[l[k].2.toNat]'(by omega)) = true
            · rw [if_pos hs, if_pos hs]
            · rw [if_neg hs, if_neg hs]
    · have hmin : minI l[k].1 l[k].2 < 0 ∨ maxI l[k].1 l[k].2 ≥ s.Steps.length := by
        unfold minI maxI; split <;> split <;> omega
      rw [dif_neg h2, cond_t (by simp only [Bool.or_eq_true, decide_eq_true_eq]; omega)]
  cases first l.length (pairG s l) <;> rfl
end G18

namespace G18
open Go Go.Pl

theorem chk_seq {s : SSequence} (h : chk s = 0) : (∀ k, k < s.Steps.length → seqG s k = none) ∧ ∀ a, a < s.Actuators.toNat → ends s s.Steps.length a = false := by
  unfold chk at h
  split at h
  · omega
  split at h
  · omega
  split at h
  · omega
  split at h
  · rename_i r hr
    exfalso
    subst h
    unfold first at hr
    obtain ⟨k, _, hk⟩ := List.exists_of_findSome?_eq_some hr
    unfold seqG at hk
    split at hk
    · simp at hk
    · split at hk
      · rename_i h; injection hk with hk; exact h hk
      · simp at hk
  · rename_i hf
    rw [first_none_iff] at hf
    refine ⟨hf, fun a ha => ?_⟩
    split at h
    · omega
    · rename_i hn
      cases he : ends s s.Steps.length a with
      | false => rfl
      | true =>
        exfalso
        apply hn
        rw [List.any_eq_true]
        exact ⟨a, List.mem_range.2 ha, he⟩

theorem upd_out (a : Nat) : ∀ (l : List SStroke) (e : Nat → Bool), (∀ y ∈ l, y.Out = true) → upd l e a = (e a || l.any fun y => y.Actuator == (a : Int))
  | [], e, _ => by simp [upd]
  | y :: l, e, h => by
    have e1 : upd (y :: l) e = upd l (fun a : Nat => if y.Actuator = (a : Int) then y.Out else e a) := rfl
    rw [e1, upd_out a l _ (fun z hz => h z (by simp [hz])), List.any_cons, h y (by simp)]
    by_cases hy : y.Actuator = (a : Int)
    · simp [hy]
    · have hb : (y.Actuator == (a : Int)) = false := by simpa using hy
      rw [hb, if_neg hy, Bool.false_or]
theorem upd_not (a : Nat) : ∀ (l : List SStroke) (e : Nat → Bool), (l.any fun y => y.Actuator == (a : Int)) = false → upd l e a = e a
  | [], e, _ => rfl
  | y :: l, e, h => by
    rw [List.any_cons, Bool.or_eq_false_iff] at h
    have e1 : upd (y :: l) e = upd l (fun a : Nat => if y.Actuator = (a : Int) then y.Out else e a) := rfl
    rw [e1, upd_not a l _ h.2, if_neg (by simpa using h.1)]

theorem few_two {s : SSequence} (h0 : chk s = 0) : 2 ≤ (few s).length := by
  have hr := chk_right h0
  have hn := hr.n0
  obtain ⟨hok, _⟩ := few_ok hr
  have hpos := hok.pos
  refine Classical.byContradiction fun hc => ?_
  have hlen : (few s).length = (gre s 0 s.Steps.length).1.length := ints_len _
  have g := greedy s 0 s.Steps.length
  have hsz := g.sz
  have hhd := g.hd
  have hal := g.al
  have e1 : (gre s 0 s.Steps.length).1.length - 1 = 0 := by omega
  rw [e1, hhd] at hsz hal
  have e2 : (gre s 0 s.Steps.length).2 = s.Steps.length := by omega
  rw [e2] at hal
  rw [alone_iff] at hal
  obtain ⟨hseq, hend⟩ := chk_seq h0
  obtain ⟨hin, hcl⟩ := seqG_none hn (hseq 0 hn)
  have hp := hin.ok.pos
  obtain ⟨a0, a6⟩ := hin.ok.act 0 hp
  have hA := hin.far 0 hp
  -- the actuator of the first stroke
  have ha : s.Steps[0].Strokes[0].Actuator = ((s.Steps[0].Strokes[0].Actuator.toNat : Nat) : Int) := by omega
  have hasa : hasA s.Steps[0] ((s.Steps[0].Strokes[0].Actuator.toNat : Nat) : Int) = true := by
    unfold hasA
    rw [List.any_eq_true]
    exact ⟨_, List.getElem_mem hp, by simpa using ha⟩
  have hout : ∀ y ∈ s.Steps[0].Strokes, y.Out = true := by
    intro y hy
    unfold clash at hcl
    rw [List.any_eq_false] at hcl
    have := hcl y hy
    simpa [ends] using this
  have key : ∀ k, k < s.Steps.length → ends s (k + 1) s.Steps[0].Strokes[0].Actuator.toNat = true := by
    intro k
    induction k with
    | zero =>
      intro _
      rw [ends_succ hn, upd_out _ _ _ hout]
      unfold hasA at hasa
      rw [hasa, Bool.or_true]
    | succ k ih =>
      intro hk
      rw [ends_succ hk, upd_not]
      · exact ih (by omega)
      · have hz := hal (k + 1) hk 0 (by omega)
        rw [Nat.zero_add, Nat.zero_add, mask_and_zero] at hz
        have := hz s.Steps[0].Strokes[0].Actuator.toNat
        rw [← mk_hasA hr hk, ← mk_hasA hr hn, hasa] at this
        have h2 : ¬ hasA s.Steps[k + 1] ((s.Steps[0].Strokes[0].Actuator.toNat : Nat) : Int) = true := fun hc => this ⟨hc, rfl⟩
        unfold hasA at h2
        simpa using h2
  have h1 := key (s.Steps.length - 1) (by omega)
  rw [Nat.sub_add_cancel hn, hend _ (by omega)] at h1
  simp at h1

theorem m51_eq {s : SSequence} (hr : Right s) (A : Int) {j k : Nat} (hj : j < s.Steps.length) (hk : k < s.Steps.length) : m51 s.Steps[j] A s.Steps (k : Int) = some (!decide (mk s j &&& mk s k = 0)) := by
  unfold m51
  rw [m36_eq (hr.step j hj).ok, idx_lt hk]
  simp only [Option.bind_some]
  rw [m36_eq (hr.step k hk).ok]
  simp only [Option.bind_some]
  have b1 := mk_lt hr j
  have b2 := mk_lt hr k
  have e1 : mask s.Steps[j].Strokes = mk s j := by unfold mk; rw [stp_lt hj]
  have e2 : mask s.Steps[k].Strokes = mk s k := by unfold mk; rw [stp_lt hk]
  rw [e1, e2, andI_nat (by omega) (by omega)]
  by_cases hz : mk s j &&& mk s k = 0
  · rw [hz]; rfl
  · rw [decide_eq_false hz, bne_iff_ne.2 (by omega)]; rfl

theorem m50_eq {s : SSequence} (hr : Right s) (A : Int) {f k : Nat} (hk : k < s.Steps.length) (hfk : f < k) (hex : ∃ j, j < k - f ∧ mk s (f + j) &&& mk s k ≠ 0) :
    ∃ j : Nat, m50_51 ((s.Steps.drop f).take (k - f)) A s.Steps (k : Int) = some (j : Int) ∧ j < k - f ∧ mk s (f + j) &&& mk s k ≠ 0 := by
  have hn := hr.n64
  have hlen : ((s.Steps.drop f).take (k - f)).length = k - f := by rw [List.length_take, List.length_drop]; omega
  unfold m50_51
  rw [iter_first (fun i : Nat => (i : Int)) (fun i => if mk s (f + i) &&& mk s k = 0 then none else some (i : Int)) (k - f) ?hn () ?h0 ?h ?he]
  case hn => unfold fuel; omega
  case h0 => rfl
  case he =>
    intro _
    try dsimp only
    rw [hlen, cond_f (lt_f (by omega))]
  case h =>
    intro i hi _
    try dsimp only
    have hil : i < ((s.Steps.drop f).take (k - f)).length := by omega
    have he : ((s.Steps.drop f).take (k - f))[i] = s.Steps[f + i]'(by omega) := by simp
    rw [hlen, cond_t (lt_t (by omega)), idx_lt hil, he]
    simp only [Option.bind_some]
    rw [m51_eq hr A (show f + i < s.Steps.length by omega) hk, addI_nat (by omega)]
    simp only [Option.bind_some]
    by_cases hz : mk s (f + i) &&& mk s k = 0
    · rw [if_pos hz, decide_eq_true hz]; rfl
    · rw [if_neg hz, decide_eq_false hz]; rfl
  cases hfi : first (k - f) (fun i => if mk s (f + i) &&& mk s k = 0 then none else some (i : Int)) with
  | none =>
    exfalso
    rw [first_none_iff] at hfi
    obtain ⟨j, hj, hz⟩ := hex
    have := hfi j hj
    rw [if_neg hz] at this
    simp at this
  | some r =>
    unfold first at hfi
    obtain ⟨j, hj, e⟩ := List.exists_of_findSome?_eq_some hfi
    split at e
    · simp at e
    · rename_i hz
      injection e with e
      exact ⟨j, by rw [← e]; rfl, by simpa using hj, hz⟩

/-- the pairs of a proof -/
def prf (l : List Int) (at' : Nat → Nat) (k : Nat) : List (Int × Int) := (List.range k).map fun i => ((at' i : Int), (fst' l (i + 1) : Int))

theorem m27_eq {s : SSequence} (h0 : chk s = 0) : ∃ at' : Nat → Nat, (∀ i, i + 1 < (few s).length → fst' (few s) i ≤ at' i ∧ at' i < fst' (few s) (i + 1) ∧ mk s (at' i) &&& mk s (fst' (few s) (i + 1)) ≠ 0) ∧
    m27 s = some (prf (few s) at' ((few s).length - 1), 0) := by
  have hr := chk_right h0
  have hn := hr.n64
  obtain ⟨hok, hrl⟩ := few_ok hr
  have hle := hok.le
  have hpos := hok.pos
  have key : ∀ i, ∃ j : Nat, i + 1 < (few s).length → m50_51 ((s.Steps.drop (fst' (few s) i)).take (fst' (few s) (i + 1) - fst' (few s) i)) s.Actuators s.Steps ((fst' (few s) (i + 1) : Nat) : Int) = some (j : Int) ∧
      j < fst' (few s) (i + 1) - fst' (few s) i ∧ mk s (fst' (few s) i + j) &&& mk s (fst' (few s) (i + 1)) ≠ 0 := by
    intro i
    by_cases hi : i + 1 < (few s).length
    · obtain ⟨hb, hsum⟩ := few_border (s := s) hi
      have hsz := (hok.siz (show i < (few s).length by omega)).2.2
      obtain ⟨j, e1, e2, e3⟩ := m50_eq hr s.Actuators (f := fst' (few s) i) (k := fst' (few s) (i + 1)) (hok.fst hi).2 (by omega) (by
        refine Classical.byContradiction fun hc => hb ?_
        rw [acc_zero]
        intro i' hi'
        refine Classical.byContradiction fun hc2 => hc ⟨i', by omega, hc2⟩)
      exact ⟨j, fun _ => ⟨e1, e2, e3⟩⟩
    · exact ⟨0, fun h => (hi h).elim⟩
  refine ⟨fun i => fst' (few s) i + Classical.choose (key i), fun i hi => ?_, ?_⟩
  · obtain ⟨_, e2, e3⟩ := Classical.choose_spec (key i) hi
    exact ⟨Nat.le_add_right _ _, show fst' (few s) i + Classical.choose (key i) < fst' (few s) (i + 1) by omega, e3⟩
  · unfold m27
    rw [m16_eq, if_pos h0]
    simp only [Option.bind_some]
    have hz : ((0 : Int) != 0) = false := rfl
    rw [hz]
    have hsl : slcc (few s) (some 1) none = some ((few s).drop 1) := by
      unfold slcc
      rw [if_pos ⟨by simp, by simp; omega, by simp⟩]
      congr 1
      simp only [Option.getD_some, Option.getD_none]
      rw [List.take_of_length_le]
      · rfl
      · rw [List.length_drop]; omega
    rw [cond_false, hsl]
    simp only [Option.bind_some]
    have hdl : ((few s).drop 1).length = (few s).length - 1 := List.length_drop
    rw [iter_fold (fun k : Nat => (prf (few s) (fun i => fst' (few s) i + Classical.choose (key i)) k, (k : Int))) ((few s).length - 1) ?hn (prf (few s) (fun i => fst' (few s) i + Classical.choose (key i)) ((few s).length - 1)) ?h0 ?h ?he]
    case hn => unfold fuel; omega
    case h0 => rfl
    case he =>
      try dsimp only
      rw [hdl, cond_f (lt_f (by omega))]
    case h =>
      intro k hk
      try dsimp only
      have hk1 : k + 1 < (few s).length := by omega
      have hk0 : k < (few s).length := by omega
      have f0 := hok.fst hk0
      have f1 := hok.fst hk1
      obtain ⟨_, hsum⟩ := few_border (s := s) hk1
      obtain ⟨e1, e2, e3⟩ := Classical.choose_spec (key k) hk1
      have hd : ((few s).drop 1)[k]'(by omega) = (few s).getD (k + 1) 0 := by
        rw [getD_lt hk1]; simp
      rw [hdl, cond_t (lt_t (by omega)), idx_lt (show k < ((few s).drop 1).length by omega), hd, idx_lt hk0]
      simp only [Option.bind_some]
      rw [← getD_lt (d := 0) hk0, f0.1, f1.1]
      have hs2 : slcc s.Steps (some ((fst' (few s) k : Nat) : Int)) (some ((fst' (few s) (k + 1) : Nat) : Int)) = some ((s.Steps.drop (fst' (few s) k)).take (fst' (few s) (k + 1) - fst' (few s) k)) := by
        unfold slcc
        rw [if_pos ⟨by simp, by simp; omega, by simp; omega⟩]
        simp
      rw [hs2]
      simp only [Option.bind_some]
      rw [e1]
      simp only [Option.bind_some]
      have hl : (prf (few s) (fun i => fst' (few s) i + Classical.choose (key i)) k).length = k := by simp [prf]
      rw [appc_eq (by rw [hl]; simp only [List.length_singleton]; omega) (by rw [hl]; simp only [List.length_singleton]; omega), addI_nat (by omega), addI_eq (by omega) (by omega)]
      simp only [Option.bind_some]
      unfold prf
      rw [List.range_succ, List.map_append]
      rfl
    rfl

theorem prf_right {s : SSequence} (h0 : chk s = 0) {at' : Nat → Nat} (hat : ∀ i, i + 1 < (few s).length → fst' (few s) i ≤ at' i ∧ at' i < fst' (few s) (i + 1) ∧ mk s (at' i) &&& mk s (fst' (few s) (i + 1)) ≠ 0) :
    first (prf (few s) at' ((few s).length - 1)).length (pairG s (prf (few s) at' ((few s).length - 1))) = none := by
  have hr := chk_right h0
  obtain ⟨hok, hrl⟩ := few_ok hr
  have hl : (prf (few s) at' ((few s).length - 1)).length = (few s).length - 1 := by simp [prf]
  rw [first_none_iff]
  intro k hk
  have hge : ∀ i (hi : i < (prf (few s) at' ((few s).length - 1)).length), (prf (few s) at' ((few s).length - 1))[i] = ((at' i : Int), (fst' (few s) (i + 1) : Int)) := by
    intro i hi; simp [prf]
  obtain ⟨a1, a2, a3⟩ := hat k (by omega)
  have hlt := (hok.fst (show k + 1 < (few s).length by omega)).2
  have hlt2 : at' k < s.Steps.length := by omega
  unfold pairG
  rw [dif_pos hk]
  simp only [hge]
  rw [dif_pos ⟨by omega, by omega, by omega, by omega⟩]
  have hc : ¬(((fst' (few s) (k + 1) : Nat) : Int) ≤ ((at' k : Nat) : Int) ∨ (0 < k ∧ ((at' k : Nat) : Int) < ((prf (few s) at' ((few s).length - 1))[k - 1]'(by omega)).2)) := by
    rintro (h | ⟨h1, h2⟩)
    · omega
    · rw [hge] at h2
      dsimp only at h2
      rw [Nat.sub_add_cancel (by omega)] at h2
      omega
  simp only [hge] at hc
  rw [if_neg hc]
  have hsh := share_mk hr (at' k) (fst' (few s) (k + 1))
  rw [stp_lt hlt2, stp_lt hlt, decide_eq_false a3, Bool.not_false] at hsh
  simp only [Int.toNat_natCast]
  rw [if_pos hsh]

theorem m8_eq (s : SSequence) (hs : Small s) : m8 s = some true := by
  unfold m8
  obtain ⟨c, hc, hright⟩ := m21_eq s hs
  rw [hc]
  simp only [Option.bind_some]
  have fin : ((m12).bind fun v5 => some v5) = some true := by rw [awake_run]; rfl
  cases c with
  | false => rw [cond_t (by rfl)]; exact fin
  | true =>
    obtain ⟨h24, hc0⟩ := hright rfl
    have hr := chk_right hc0
    obtain ⟨hok, hrl⟩ := few_ok hr
    have h0 : chkL s (few s) true = 0 := chkL_of hc0 hok hrl
    have hle := hok.le
    have hpos := hok.pos
    have h2 := few_two hc0
    obtain ⟨at', hat, e27⟩ := m27_eq hc0
    have hpf := prf_right hc0 hat
    have hl : (prf (few s) at' ((few s).length - 1)).length = (few s).length - 1 := by simp [prf]
    rw [cond_f (by rfl), m16_eq, if_pos hc0, e27]
    simp only [Option.bind_some]
    unfold m24 m28
    rw [m46_eq s hs, m47_eq, h0]
    simp only [Option.bind_some]
    have hz : ((addI .i64 (0 : Int) 0) != 0) = false := by decide
    have hz2 : ((0 : Int) != 0) = false := rfl
    rw [hz, hz2, hl, sub_nat hpos (by omega)]
    have hz3 : (((((few s).length - 1 : Nat) : Int)) != (((few s).length - 1 : Nat) : Int)) = false := by simp
    rw [hz3]
    simp only [cond_false, Option.bind_some]
    rw [m13_loop s hr _ (by omega), m14_loop s hr _ (by omega), m35_eq, m37_eq s hs, hc0, hpf, hl]
    have hz4 : decide ((((few s).length - 1 : Nat) : Int) > (s.Steps.length : Int)) = false := by simp; omega
    simp only [Option.bind_some, hz2, cond_false, hz4]
    rw [addI_nat (by omega), Nat.sub_add_cancel hpos]
    have hge : decide (((few s).length : Int) ≥ 2) = true := by simp; omega
    simp only [beq_self_eq_true, cond_true, hge]
    rw [fin]; rfl
end G18
