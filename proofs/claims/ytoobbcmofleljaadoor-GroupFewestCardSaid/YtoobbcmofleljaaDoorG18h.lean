/- Groups and lists of first steps, in plain words. No condition. -/
import Derived.Test.YtoobbcmofleljaaDoorG18d
import Derived.Test.YtoobbcmofleljaaDoorG18w
import Derived.Test.YtoobbcmofleljaaDoorG18a
namespace G18
open Go Go.Pl

theorem getD_lt {α : Type} {l : List α} {i : Nat} {d : α} (h : i < l.length) : l.getD i d = l[i] := by simp [List.getD, h]

/-- the step with a number, around the cycle -/
def stp (s : SSequence) (i : Nat) : SStep := s.Steps.getD (i % s.Steps.length) ⟨[], 0⟩
def mk (s : SSequence) (i : Nat) : Nat := mask (stp s i).Strokes
def alone (s : SSequence) (f k : Nat) : Bool := (List.range k).all fun i => (List.range i).all fun j => decide (mk s (f + i) &&& mk s (f + j) = 0)
def acc (s : SSequence) (f : Nat) : Nat → Nat
  | 0 => 0
  | k + 1 => acc s f k ||| mk s (f + k)

theorem stp_eq {s : SSequence} (h : Right s) (i : Nat) : ∃ hi : i % s.Steps.length < s.Steps.length, stp s i = s.Steps[i % s.Steps.length] := by
  have := h.n0
  have hi := Nat.mod_lt i this
  exact ⟨hi, by unfold stp; rw [getD_lt hi]⟩
theorem stp_in {s : SSequence} (h : Right s) (i : Nat) : StepIn s (stp s i) := by
  obtain ⟨hi, e⟩ := stp_eq h i
  rw [e]; exact h.step _ hi
theorem stp_lt {s : SSequence} {i : Nat} (hi : i < s.Steps.length) : stp s i = s.Steps[i] := by
  unfold stp
  have : i % s.Steps.length < s.Steps.length := by rw [Nat.mod_eq_of_lt hi]; exact hi
  rw [getD_lt this]
  congr 1
  exact Nat.mod_eq_of_lt hi
theorem mk_lt {s : SSequence} (h : Right s) (i : Nat) : mk s i < 64 := mask_lt _ (stp_in h i).ok.act
theorem acc_lt {s : SSequence} (h : Right s) (f : Nat) : ∀ k, acc s f k < 64
  | 0 => by simp [acc]
  | k + 1 => Nat.or_lt_two_pow (n := 6) (acc_lt h f k) (mk_lt h _)
theorem alone_iff {s : SSequence} {f k : Nat} : alone s f k = true ↔ ∀ i, i < k → ∀ j, j < i → mk s (f + i) &&& mk s (f + j) = 0 := by
  simp [alone, List.all_eq_true]
theorem alone_mono {s : SSequence} {f k m : Nat} (h : alone s f k = true) (hm : m ≤ k) : alone s f m = true := by
  rw [alone_iff] at h ⊢
  intro i hi j hj
  exact h i (by omega) j hj
theorem acc_bit (s : SSequence) (f a : Nat) : ∀ k, (acc s f k).testBit a = (List.range k).any fun i => (mk s (f + i)).testBit a
  | 0 => by simp [acc]
  | k + 1 => by rw [acc, Nat.testBit_or, acc_bit s f a k, List.range_succ, List.any_append]; simp
theorem acc_bit_iff {s : SSequence} {f k a : Nat} : (acc s f k).testBit a = true ↔ ∃ i, i < k ∧ (mk s (f + i)).testBit a = true := by
  rw [acc_bit, List.any_eq_true]
  constructor
  · rintro ⟨i, hi, h⟩; exact ⟨i, List.mem_range.1 hi, h⟩
  · rintro ⟨i, hi, h⟩; exact ⟨i, List.mem_range.2 hi, h⟩
theorem acc_zero {s : SSequence} {f k x : Nat} : acc s f k &&& x = 0 ↔ ∀ i, i < k → mk s (f + i) &&& x = 0 := by
  constructor
  · intro h i hi
    rw [mask_and_zero] at h ⊢
    intro a ha
    exact h a ⟨acc_bit_iff.2 ⟨i, hi, ha.1⟩, ha.2⟩
  · intro h
    rw [mask_and_zero]
    intro a ha
    obtain ⟨i, hi, hb⟩ := acc_bit_iff.1 ha.1
    exact (mask_and_zero.1 (h i hi)) a ⟨hb, ha.2⟩
theorem alone_succ {s : SSequence} {f k : Nat} : alone s f (k + 1) = true ↔ alone s f k = true ∧ acc s f k &&& mk s (f + k) = 0 := by
  rw [acc_zero]
  constructor
  · intro h
    refine ⟨alone_mono h (by omega), fun i hi => ?_⟩
    rw [Nat.and_comm]
    exact alone_iff.1 h k (by omega) i hi
  · rintro ⟨h1, h2⟩
    rw [alone_iff] at h1 ⊢
    intro i hi j hj
    by_cases e : i = k
    · subst e; rw [Nat.and_comm]; exact h2 j hj
    · exact h1 i (by omega) j hj

theorem remc_nat {x n : Nat} (h : 0 < n) : remc (x : Int) (n : Int) = some ((x % n : Nat) : Int) := by
  unfold remc
  rw [if_neg (by omega)]
  rfl

def onceG (s : SSequence) (f : Nat) (k : Nat) : Option (Int × Bool) := if acc s f k &&& mk s (f + k) = 0 then none else some ((acc s f k : Int), false)

theorem first_once {s : SSequence} {f : Nat} : ∀ k, (alone s f k = true → first k (onceG s f) = none) ∧ (alone s f k = false → ∃ m, first k (onceG s f) = some (m, false)) := by
  intro k
  constructor
  · intro h
    rw [first_none_iff]
    intro j hj
    unfold onceG
    rw [if_pos (alone_succ.1 (alone_mono h hj)).2]
  · intro h
    cases hf : first k (onceG s f) with
    | none =>
      exfalso
      rw [first_none_iff] at hf
      have : ∀ j, j ≤ k → alone s f j = true := by
        intro j
        induction j with
        | zero => intro _; rfl
        | succ j ih =>
          intro hj
          refine alone_succ.2 ⟨ih (by omega), ?_⟩
          have := hf j (by omega)
          unfold onceG at this
          refine Classical.byContradiction fun hc => ?_
          rw [if_neg hc] at this; simp at this
      rw [this k (Nat.le_refl _)] at h; simp at h
    | some r =>
      unfold first at hf
      obtain ⟨j, _, hj⟩ := List.exists_of_findSome?_eq_some hf
      unfold onceG at hj
      split at hj
      · simp at hj
      · injection hj with hj; exact ⟨_, by rw [← hj]⟩

theorem m44_eq {s : SSequence} (h : Right s) (f k : Nat) (hf : f < 1000000) (hk : k < 1000000) : ∃ m, m44 s (f : Int) (k : Int) = some (m, alone s f k) ∧ (alone s f k = true → m = (acc s f k : Int)) := by
  unfold m44
  have hn := h.n0
  have hn64 := h.n64
  rw [iter_first (fun i : Nat => ((i : Int), (acc s f i : Int))) (onceG s f) k ?hn ((acc s f k : Int)) ?h0 ?h ?he]
  case hn => unfold fuel; omega
  case h0 => rfl
  case he =>
    intro _
    try dsimp only
    rw [cond_f (lt_f (by omega))]
  case h =>
    intro i hi _
    try dsimp only
    have hlt := Nat.mod_lt (f + i) hn
    rw [cond_t (lt_t (by omega)), show addI .i64 (f : Int) (i : Int) = ((f + i : Nat) : Int) by rw [addI_eq (by omega) (by omega)]; omega, remc_nat hn]
    simp only [Option.bind_some]
    rw [idx_lt hlt]
    simp only [Option.bind_some]
    obtain ⟨_, e⟩ := stp_eq h (f + i)
    rw [m36_eq (h.step _ hlt).ok, ← e]
    simp only [Option.bind_some]
    have b1 := acc_lt h f i
    have b2 := mk_lt h (f + i)
    have e2 : mask (stp s (f + i)).Strokes = mk s (f + i) := rfl
    rw [e2, andI_nat (by omega) (by omega), orI_nat (by omega) (by omega), addI_nat (by omega)]
    unfold onceG
    by_cases hz : acc s f i &&& mk s (f + i) = 0
    · rw [if_pos hz, hz]; rfl
    · rw [if_neg hz, cond_t (by simp; omega)]
  obtain ⟨h1, h2⟩ := first_once (s := s) (f := f) k
  cases ha : alone s f k with
  | true => rw [h1 ha]; exact ⟨_, rfl, fun _ => rfl⟩
  | false =>
    obtain ⟨m, hm⟩ := h2 ha
    rw [hm]; exact ⟨_, rfl, fun h => by simp at h⟩

theorem share_mk {s : SSequence} (h : Right s) (i j : Nat) : share s (stp s i) (stp s j) = !decide (mk s i &&& mk s j = 0) := share_mask (stp_in h i) (stp_in h j)

theorem all_any {p : Nat → Bool} (k : Nat) : (List.range k).all p = !(List.range k).any fun i => !p i := by
  rw [List.all_eq_not_any_not]

theorem m78_eq {s : SSequence} (h : Right s) (f k : Nat) (hf : f < 1000000) (hk : k < 1000000) : m78 s (f : Int) (k : Int) = some (alone s f k) := by
  unfold m78
  have hn := h.n0
  have hn64 := h.n64
  rw [iter_list (List.range k) (fun i => bif (List.range i).any fun j => !decide (mk s (f + i) &&& mk s (f + j) = 0) then some false else none) ?hn () ?h0 ?h ?he]
  case hn => unfold fuel; simp; omega
  case h0 => rfl
  case he =>
    try dsimp only
    rw [cond_f (lt_f (by simp))]
  case h =>
    intro i hi
    have hi' : i < k := by simpa using hi
    try dsimp only
    rw [cond_t (lt_t (by omega))]
    rw [iter_list (List.range i) (fun j => bif !decide (mk s (f + i) &&& mk s (f + j) = 0) then some (.inr (.inr false)) else none) ?hn () ?h0 ?h ?he]
    case hn => unfold fuel; simp; omega
    case h0 => rfl
    case he =>
      try dsimp only
      rw [cond_f (lt_f (by simp))]
    case h =>
      intro j hj
      have hj' : j < i := by simpa using hj
      try dsimp only
      rw [cond_t (lt_t (by omega)), show addI .i64 (f : Int) (i : Int) = ((f + i : Nat) : Int) by rw [addI_eq (by omega) (by omega)]; omega,
        show addI .i64 (f : Int) (j : Int) = ((f + j : Nat) : Int) by rw [addI_eq (by omega) (by omega)]; omega, remc_nat hn, remc_nat hn]
      simp only [Option.bind_some, List.getElem_range]
      obtain ⟨l1, e1⟩ := stp_eq h (f + i)
      obtain ⟨l2, e2⟩ := stp_eq h (f + j)
      rw [m38_eq h l1 l2, ← e1, ← e2, share_mk h, addI_nat (by omega)]
      simp only [Option.bind_some]
      cases decide (mk s (f + i) &&& mk s (f + j) = 0) <;> rfl
    rw [findSome_if, List.getElem_range, addI_nat (by omega)]
    cases (List.range i).any fun j => !decide (mk s (f + i) &&& mk s (f + j) = 0) <;> rfl
  rw [findSome_if]
  have : alone s f k = !(List.range k).any fun i => (List.range i).any fun j => !decide (mk s (f + i) &&& mk s (f + j) = 0) := by
    unfold alone
    rw [all_any]
    congr 1
    congr 1
    funext i
    rw [all_any, Bool.not_not]
  rw [this]
  cases (List.range k).any fun i => (List.range i).any fun j => !decide (mk s (f + i) &&& mk s (f + j) = 0) <;> rfl
theorem mk_hasA {s : SSequence} (h : Right s) {i : Nat} (hi : i < s.Steps.length) (a : Nat) : hasA s.Steps[i] (a : Int) = (mk s i).testBit a := by
  rw [hasA_bit (h.step i hi).ok, ← stp_lt hi]; rfl
end G18

namespace G18
open Go Go.Pl

def listG (s : SSequence) (l : List Int) (k : Nat) : Option Int :=
  if l.getD k 0 < 0 ∨ (s.Steps.length : Int) ≤ l.getD k 0 then some 2 else if 0 < k ∧ l.getD k 0 ≤ l.getD (k - 1) 0 then some 9 else none

/-- what is wrong with a list of first steps -/
def listE (s : SSequence) (l : List Int) (b : Bool) : Int :=
  if l.length = 0 then 13 else if s.Steps.length < l.length then 5 else if b = true ∧ l.getD 0 0 ≠ 0 then 3 else
  match first l.length (listG s l) with | some r => r | none => 0

theorem m65_eq (s : SSequence) (hs : s.Steps.length ≤ 64) (l : List Int) (b : Bool) : m65 s l b = some (listE s l b) := by
  unfold m65 listE
  by_cases h1 : l.length = 0
  · rw [cond_t (by simpa using h1), if_pos h1]
  rw [cond_f (by simpa using h1), if_neg h1]
  by_cases h2 : s.Steps.length < l.length
  · rw [cond_t (by simp; omega), if_pos h2]
  rw [cond_f (by simp; omega), if_neg h2]
  have e0 : idx l (0 : Int) = some (l.getD 0 0) := by
    have := idx_lt (l := l) (k := 0) (by omega)
    rw [getD_lt (by omega)]; exact this
  have e1 : ((bif b then (idx l 0).bind fun v5 => some (v5 != 0) else some false) : Option Bool) = some (decide (b = true ∧ l.getD 0 0 ≠ 0)) := by
    cases b with
    | false => simp
    | true =>
      rw [e0]; simp only [Option.bind_some, cond_true, true_and]
      by_cases hz : l.getD 0 0 = 0
      · rw [hz]; rfl
      · rw [decide_eq_true hz, bne_iff_ne.2 hz]
  rw [e1]
  simp only [Option.bind_some]
  by_cases h3 : b = true ∧ l.getD 0 0 ≠ 0
  · rw [if_pos h3, cond_t (decide_eq_true h3)]
  rw [if_neg h3, cond_f (decide_eq_false h3)]
  rw [iter_first (fun k : Nat => (k : Int)) (listG s l) l.length ?hn () ?h0 ?h ?he]
  case hn => unfold fuel; omega
  case h0 => rfl
  case he =>
    intro _
    try dsimp only
    rw [cond_f (lt_f (by omega))]
  case h =>
    intro k hk _
    try dsimp only
    rw [cond_t (lt_t (by omega)), idx_lt hk]
    simp only [Option.bind_some]
    unfold listG
    rw [getD_lt hk]
    by_cases h4 : l[k] < 0
    · rw [cond_t (lt_t h4), if_pos (.inl h4)]; rfl
    rw [cond_f (lt_f h4)]
    simp only [Option.bind_some]
    by_cases h5 : (s.Steps.length : Int) ≤ l[k]
    · rw [if_pos (.inr h5), cond_t (by simpa using h5)]
    rw [cond_f (by simp; omega), if_neg (by omega)]
    by_cases hk0 : k = 0
    · subst hk0
      rw [if_neg (by omega), cond_f (by simp)]
      rfl
    · rw [cond_t (by simp; omega), sub_nat (by omega) (by omega), idx_lt (show k - 1 < l.length by omega), getD_lt (show k - 1 < l.length by omega)]
      simp only [Option.bind_some]
      by_cases h6 : l[k] ≤ l[k - 1]
      · rw [if_pos ⟨by omega, h6⟩, cond_t (by simpa using h6)]
      · rw [if_neg (by omega), cond_f (by simpa using h6), addI_nat (by omega)]
  cases first l.length (listG s l) <;> rfl

/-- a list of first steps that is right -/
structure ListOk (s : SSequence) (l : List Int) (b : Bool) : Prop where
  pos : 0 < l.length
  le : l.length ≤ s.Steps.length
  zero : b = true → l.getD 0 0 = 0
  lo : ∀ k, k < l.length → 0 ≤ l.getD k 0
  hi : ∀ k, k < l.length → l.getD k 0 < s.Steps.length
  inc : ∀ k, k + 1 < l.length → l.getD k 0 < l.getD (k + 1) 0

theorem listE_ok {s : SSequence} {l : List Int} {b : Bool} (h : listE s l b = 0) : ListOk s l b := by
  unfold listE at h
  split at h
  · omega
  split at h
  · omega
  split at h
  · omega
  rename_i h1 h2 h3
  split at h
  · rename_i r hr
    exfalso
    unfold first at hr
    obtain ⟨k, _, hk⟩ := List.exists_of_findSome?_eq_some hr
    subst h
    unfold listG at hk
    split at hk
    · simp at hk
    · split at hk <;> simp at hk
  · rename_i hr
    rw [first_none_iff] at hr
    have hb : ∀ k, k < l.length → ¬(l.getD k 0 < 0 ∨ (s.Steps.length : Int) ≤ l.getD k 0) ∧ ¬(0 < k ∧ l.getD k 0 ≤ l.getD (k - 1) 0) := by
      intro k hk
      have := hr k hk
      unfold listG at this
      split at this
      · simp at this
      · split at this
        · simp at this
        · exact ⟨by assumption, by assumption⟩
    refine ⟨by omega, by omega, fun hb => ?_, fun k hk => ?_, fun k hk => ?_, fun k hk => ?_⟩
    · exact Classical.byContradiction fun hc => h3 ⟨hb, hc⟩
    · have := (hb k hk).1; omega
    · have := (hb k hk).1; omega
    · have := (hb (k + 1) hk).2
      rw [Nat.add_sub_cancel] at this; omega

theorem listE_of {s : SSequence} {l : List Int} {b : Bool} (h : ListOk s l b) : listE s l b = 0 := by
  unfold listE
  have := h.pos
  have := h.le
  rw [if_neg (by omega), if_neg (by omega), if_neg (fun hc => hc.2 (h.zero hc.1)), first_none]
  intro k hk
  unfold listG
  have h1 := h.lo k hk
  have h2 := h.hi k hk
  rw [if_neg (by omega)]
  by_cases hk0 : k = 0
  · rw [if_neg (by omega)]
  · have := h.inc (k - 1) (by omega)
    rw [Nat.sub_add_cancel (by omega)] at this
    rw [if_neg (by omega)]

theorem ListOk.mono {s : SSequence} {l : List Int} {b : Bool} (h : ListOk s l b) {i j : Nat} (hij : i < j) (hj : j < l.length) : l.getD i 0 < l.getD j 0 := by
  induction j with
  | zero => omega
  | succ j ih =>
    have h1 := h.inc j hj
    by_cases e : i = j
    · subst e; exact h1
    · have := ih (by omega) (by omega); omega

/-- where a group ends -/
def nxt (s : SSequence) (l : List Int) (i : Nat) : Int := if i + 1 < l.length then l.getD (i + 1) 0 else s.Steps.length + l.getD 0 0

/-- a group's first step and its size -/
def fst' (l : List Int) (i : Nat) : Nat := (l.getD i 0).toNat
def siz (s : SSequence) (l : List Int) (i : Nat) : Nat := (nxt s l i - l.getD i 0).toNat

theorem ListOk.fst {s : SSequence} {l : List Int} {b : Bool} (h : ListOk s l b) {i : Nat} (hi : i < l.length) : l.getD i 0 = (fst' l i : Int) ∧ fst' l i < s.Steps.length := by
  have h1 := h.lo i hi
  have h2 := h.hi i hi
  unfold fst'; omega
theorem ListOk.nx {s : SSequence} {l : List Int} {b : Bool} (h : ListOk s l b) {i : Nat} (hi : i < l.length) : l.getD i 0 < nxt s l i ∧ nxt s l i < 2 * s.Steps.length := by
  have := h.lo i hi
  have := h.hi i hi
  have := h.lo 0 h.pos
  have := h.hi 0 h.pos
  unfold nxt
  split
  · rename_i hc
    have := h.inc i hc
    have := h.hi (i + 1) hc
    omega
  · omega
theorem ListOk.siz {s : SSequence} {l : List Int} {b : Bool} (h : ListOk s l b) {i : Nat} (hi : i < l.length) : nxt s l i - l.getD i 0 = (siz s l i : Int) ∧ siz s l i < 2 * s.Steps.length ∧ 0 < siz s l i := by
  obtain ⟨h1, h2⟩ := h.nx hi
  have := h.lo i hi
  unfold G18.siz; omega

/-- the first step of a group, or the number of steps -/
def bnd (s : SSequence) (l : List Int) (k : Nat) : Nat := if k < l.length then fst' l k else s.Steps.length

theorem bnd_succ {s : SSequence} {l : List Int} (h : ListOk s l true) {k : Nat} (hk : k < l.length) : bnd s l (k + 1) = fst' l k + siz s l k := by
  have h1 := h.siz hk
  have h2 := h.fst hk
  have hz := h.zero rfl
  unfold bnd
  have e : nxt s l k = ((if k + 1 < l.length then fst' l (k + 1) else s.Steps.length : Nat) : Int) := by
    unfold nxt
    by_cases hc : k + 1 < l.length
    · rw [if_pos hc, if_pos hc]; exact (h.fst hc).1
    · rw [if_neg hc, if_neg hc]; omega
  omega

theorem m52_eq {s : SSequence} {l : List Int} {b : Bool} (h : ListOk s l b) (hs : s.Steps.length ≤ 64) {i : Nat} (hi : i < l.length) : m52 s l (i : Int) = some (nxt s l i) := by
  have := h.le
  unfold m52 nxt
  rw [addI_nat (by omega)]
  by_cases hc : i + 1 < l.length
  · rw [if_pos hc, cond_t (lt_t (by omega)), idx_lt hc, getD_lt hc]; rfl
  · have hp := h.pos
    have h0 := idx_lt (l := l) (k := 0) hp
    have h1 := h.lo 0 hp
    have h2 := h.hi 0 hp
    rw [getD_lt hp] at h1 h2
    rw [if_neg hc, cond_f (lt_f (by omega)), show (0 : Int) = ((0 : Nat) : Int) from rfl, h0, getD_lt hp]
    simp only [Option.bind_some]
    rw [addI_eq (by omega) (by omega)]

/-- has no group an actuator that moves twice? -/
def rightL (s : SSequence) (l : List Int) : Bool := (List.range l.length).all fun i => alone s (fst' l i) (siz s l i)

theorem m66_eq {s : SSequence} (hr : Right s) {l : List Int} {b : Bool} (h : ListOk s l b) : m66 s l = some (rightL s l) := by
  have hs := hr.n64
  have := h.le
  unfold m66
  rw [iter_list (List.range l.length) (fun i => bif !alone s (fst' l i) (siz s l i) then some false else none) ?hn () ?h0 ?h ?he]
  case hn => unfold fuel; simp; omega
  case h0 => rfl
  case he =>
    try dsimp only
    rw [cond_f (lt_f (by simp))]
  case h =>
    intro k hk
    have hk' : k < l.length := by simpa using hk
    try dsimp only
    have hsz := h.siz hk'
    have hf := h.fst hk'
    obtain ⟨hn1, hn2⟩ := h.nx hk'
    have hlo := h.lo k hk'
    have hm := m52_eq h hs hk'
    rw [cond_t (lt_t (by omega)), idx_lt hk']
    simp only [Option.bind_some]
    rw [hm]
    simp only [Option.bind_some, List.getElem_range]
    rw [← getD_lt (d := 0) hk', subI_eq (by omega) (by omega), hsz.1, hf.1, m78_eq hr _ _ (by omega) (by omega), addI_nat (by omega)]
    simp only [Option.bind_some]
    cases alone s (fst' l k) (siz s l k) <;> rfl
  rw [findSome_if]
  unfold rightL
  rw [all_any]
  cases (List.range l.length).any fun i => !alone s (fst' l i) (siz s l i) <;> rfl

theorem rightL_iff {s : SSequence} {l : List Int} : rightL s l = true ↔ ∀ i, i < l.length → alone s (fst' l i) (siz s l i) = true := by
  simp [rightL, List.all_eq_true]
end G18

namespace G18
open Go Go.Pl

/-- groups as long as possible from a step on: their first steps, and the size of the last one -/
def gre (s : SSequence) (f0 : Nat) : Nat → List Nat × Nat
  | 0 => ([f0], 0)
  | i + 1 => if alone s ((gre s f0 i).1.getD ((gre s f0 i).1.length - 1) 0) ((gre s f0 i).2 + 1) = true then ((gre s f0 i).1, (gre s f0 i).2 + 1) else ((gre s f0 i).1 ++ [f0 + i], 1)

structure Greedy (s : SSequence) (f0 i : Nat) (o : List Nat) (z : Nat) : Prop where
  ne : 0 < o.length
  le : o.length ≤ i + 1
  hd : o.getD 0 0 = f0
  sz : o.getD (o.length - 1) 0 + z = f0 + i
  al : alone s (o.getD (o.length - 1) 0) z = true
  zp : 0 < i → 0 < z
  inc : ∀ j, j + 1 < o.length → o.getD j 0 < o.getD (j + 1) 0
  st : ∀ j, j + 1 < o.length → alone s (o.getD j 0) (o.getD (j + 1) 0 - o.getD j 0) = true ∧ alone s (o.getD j 0) (o.getD (j + 1) 0 - o.getD j 0 + 1) = false

theorem alone_one (s : SSequence) (f : Nat) : alone s f 1 = true := by
  rw [alone_iff]; intro i hi j hj; omega

theorem getD_app {o : List Nat} {x j : Nat} (h : j < o.length) : (o ++ [x]).getD j 0 = o.getD j 0 := by
  rw [getD_lt (by simp; omega), getD_lt h, List.getElem_append_left h]
theorem getD_end (o : List Nat) (x : Nat) : (o ++ [x]).getD o.length 0 = x := by
  rw [getD_lt (by simp)]; simp

theorem greedy (s : SSequence) (f0 : Nat) : ∀ i, Greedy s f0 i (gre s f0 i).1 (gre s f0 i).2
  | 0 => ⟨by simp [gre], by simp [gre], rfl, rfl, by rw [alone_iff]; intro i hi; simp [gre] at hi, by omega, fun j hj => by simp [gre] at hj, fun j hj => by simp [gre] at hj⟩
  | i + 1 => by
    have h := greedy s f0 i
    rw [gre]
    by_cases ha : alone s ((gre s f0 i).1.getD ((gre s f0 i).1.length - 1) 0) ((gre s f0 i).2 + 1) = true
    · rw [if_pos ha]
      have := h.le
      have := h.sz
      exact ⟨h.ne, by dsimp only; omega, h.hd, by dsimp only; omega, ha, fun _ => by dsimp only; omega, h.inc, h.st⟩
    · rw [if_neg ha]
      have hne := h.ne
      have hle := h.le
      have hsz := h.sz
      have hi0 : 0 < i := by
        refine Nat.pos_of_ne_zero fun hc => ?_
        subst hc
        exact ha (alone_one _ _)
      have hz := h.zp hi0
      refine ⟨by simp, by simp; omega, ?_, ?_, ?_, fun _ => by simp, ?_, ?_⟩
      · rw [getD_app hne]; exact h.hd
      · simp only [List.length_append, List.length_singleton, Nat.add_sub_cancel]
        rw [getD_end]; omega
      · exact alone_one _ _
      · intro j hj
        simp only [List.length_append, List.length_singleton] at hj
        dsimp only
        rw [getD_app (show j < (gre s f0 i).1.length by omega)]
        by_cases e : j + 1 < (gre s f0 i).1.length
        · rw [getD_app e]; exact h.inc j e
        · have : j + 1 = (gre s f0 i).1.length := by omega
          rw [this, getD_end]
          have e2 : j = (gre s f0 i).1.length - 1 := by omega
          rw [e2]; omega
      · intro j hj
        simp only [List.length_append, List.length_singleton] at hj
        dsimp only
        rw [getD_app (show j < (gre s f0 i).1.length by omega)]
        by_cases e : j + 1 < (gre s f0 i).1.length
        · rw [getD_app e]; exact h.st j e
        · have : j + 1 = (gre s f0 i).1.length := by omega
          rw [this, getD_end]
          have e2 : j = (gre s f0 i).1.length - 1 := by omega
          rw [e2]
          have e3 : f0 + i - (gre s f0 i).1.getD ((gre s f0 i).1.length - 1) 0 = (gre s f0 i).2 := by omega
          rw [e3]
          exact ⟨h.al, by simpa using ha⟩

theorem Greedy.last {s : SSequence} {f0 i : Nat} {o : List Nat} {z : Nat} (h : Greedy s f0 i o z) : ∀ j, j < o.length → o.getD j 0 ≤ o.getD (o.length - 1) 0 := by
  intro j hj
  have key : ∀ d, j + d < o.length → o.getD j 0 ≤ o.getD (j + d) 0 := by
    intro d
    induction d with
    | zero => intro _; exact Nat.le_refl _
    | succ d ih =>
      intro hd
      have := ih (by omega)
      have := h.inc (j + d) hd
      have e : j + (d + 1) = j + d + 1 := rfl
      rw [e]; omega
  have := key (o.length - 1 - j) (by omega)
  rwa [show j + (o.length - 1 - j) = o.length - 1 by omega] at this
theorem Greedy.big {s : SSequence} {f0 i : Nat} {o : List Nat} {z : Nat} (h : Greedy s f0 i o z) : ∀ j, j < o.length → f0 + j ≤ o.getD j 0 := by
  intro j
  induction j with
  | zero => intro _; have := h.hd; omega
  | succ j ih =>
    intro hj
    have := ih (by omega)
    have := h.inc j hj
    omega

def ints (o : List Nat) : List Int := o.map fun x : Nat => (x : Int)
theorem ints_len (o : List Nat) : (ints o).length = o.length := by simp [ints]
theorem ints_getD (o : List Nat) (j : Nat) : (ints o).getD j 0 = (o.getD j 0 : Int) := by
  by_cases h : j < o.length
  · rw [getD_lt (by rw [ints_len]; exact h), getD_lt h]; simp [ints]
  · simp [ints, List.getD, h]

theorem m39_eq {s : SSequence} (h : Right s) (f0 : Nat) (hf : f0 < 1000) : m39 s (f0 : Int) = some (ints (gre s f0 s.Steps.length).1) := by
  have hn := h.n64
  unfold m39
  rw [iter_fold (fun i : Nat => (ints (gre s f0 i).1, ((gre s f0 i).2 : Int), (i : Int))) s.Steps.length ?hn (ints (gre s f0 s.Steps.length).1) ?h0 ?h ?he]
  case hn => unfold fuel; omega
  case h0 => rfl
  case he =>
    try dsimp only
    rw [cond_f (lt_f (by omega))]
  case h =>
    intro i hi
    try dsimp only
    have g := greedy s f0 i
    have hne := g.ne
    have hle := g.le
    have hsz := g.sz
    rw [cond_t (lt_t (by omega)), ints_len, sub_nat hne (by omega), idx_lt (show (gre s f0 i).1.length - 1 < (ints (gre s f0 i).1).length by rw [ints_len]; omega)]
    simp only [Option.bind_some]
    rw [← getD_lt (d := 0), ints_getD, addI_nat (by omega)]
    obtain ⟨m, e, _⟩ := m44_eq h ((gre s f0 i).1.getD ((gre s f0 i).1.length - 1) 0) ((gre s f0 i).2 + 1) (by omega) (by omega)
    rw [e, addI_eq (by omega) (by omega), gre]
    simp only [Option.bind_some]
    cases ha : alone s ((gre s f0 i).1.getD ((gre s f0 i).1.length - 1) 0) ((gre s f0 i).2 + 1) with
    | true =>
      simp only [Bool.not_true, cond_false, Option.bind_some, if_true]
      rw [addI_nat (by omega), addI_nat (by omega)]
    | false =>
      simp only [Bool.not_false, cond_true, Bool.false_eq_true, if_false]
      rw [appc_eq (by simp only [List.length_singleton, ints_len]; omega) (by simp only [List.length_singleton, ints_len]; omega)]
      simp only [Option.bind_some]
      rw [addI_nat (by omega), show addI .i64 0 1 = (((0 + 1 : Nat)) : Int) from addI_nat (k := 0) (by omega)]
      simp [ints]
  rfl

/-- the fewest division -/
def few (s : SSequence) : List Int := ints (gre s 0 s.Steps.length).1

theorem m16_eq (s : SSequence) : m16 s = some (if chk s = 0 then (few s, 0) else ([], chk s)) := by
  unfold m16
  rw [m35_eq]
  simp only [Option.bind_some]
  by_cases h0 : chk s = 0
  · rw [cond_f (by simpa using h0), if_pos h0, show (0 : Int) = ((0 : Nat) : Int) from rfl, m39_eq (chk_right h0) 0 (by omega)]
    rfl
  · rw [cond_t (by simpa using h0), if_neg h0]

theorem few_ok {s : SSequence} (h : Right s) : ListOk s (few s) true ∧ rightL s (few s) = true := by
  have hn := h.n0
  have g := greedy s 0 s.Steps.length
  have hne := g.ne
  have hsz := g.sz
  have hz := g.zp hn
  have hb := g.big ((gre s 0 s.Steps.length).1.length - 1) (by omega)
  have hlen : (few s).length = (gre s 0 s.Steps.length).1.length := ints_len _
  have hok : ListOk s (few s) true := by
    refine ⟨by omega, by omega, fun _ => ?_, fun k hk => ?_, fun k hk => ?_, fun k hk => ?_⟩
    · have := g.hd
      rw [few, ints_getD]; omega
    · rw [few, ints_getD]; omega
    · have := g.last k (by omega)
      rw [few, ints_getD]; omega
    · have := g.inc k (by omega)
      rw [few, ints_getD, ints_getD]; omega
  refine ⟨hok, ?_⟩
  rw [rightL_iff]
  intro i hi
  have e1 : fst' (few s) i = (gre s 0 s.Steps.length).1.getD i 0 := by
    unfold fst'; rw [few, ints_getD]; rfl
  rw [e1]
  by_cases hc : i + 1 < (few s).length
  · have e2 : siz s (few s) i = (gre s 0 s.Steps.length).1.getD (i + 1) 0 - (gre s 0 s.Steps.length).1.getD i 0 := by
      unfold siz nxt
      have := g.inc i (by omega)
      rw [if_pos hc, few, ints_getD, ints_getD]; omega
    rw [e2]
    exact (g.st i (by omega)).1
  · have ei : i = (gre s 0 s.Steps.length).1.length - 1 := by omega
    have e2 : siz s (few s) i = (gre s 0 s.Steps.length).2 := by
      unfold siz nxt
      have := hok.zero rfl
      rw [if_neg hc, this, few, ints_getD, ei]; omega
    rw [e2, ei]
    exact g.al

/-- the step behind a group moves what has moved in the group -/
theorem few_border {s : SSequence} {i : Nat} (hi : i + 1 < (few s).length) : acc s (fst' (few s) i) (siz s (few s) i) &&& mk s (fst' (few s) (i + 1)) ≠ 0 ∧ fst' (few s) i + siz s (few s) i = fst' (few s) (i + 1) := by
  have g := greedy s 0 s.Steps.length
  have hlen : (few s).length = (gre s 0 s.Steps.length).1.length := ints_len _
  have hinc := g.inc i (by omega)
  have e1 : ∀ j, fst' (few s) j = (gre s 0 s.Steps.length).1.getD j 0 := by
    intro j; unfold fst'; rw [few, ints_getD]; rfl
  have e2 : siz s (few s) i = (gre s 0 s.Steps.length).1.getD (i + 1) 0 - (gre s 0 s.Steps.length).1.getD i 0 := by
    unfold siz nxt
    rw [if_pos hi, few, ints_getD, ints_getD]; omega
  obtain ⟨g1, g2⟩ := g.st i (by omega)
  have hsum : fst' (few s) i + siz s (few s) i = fst' (few s) (i + 1) := by rw [e2, e1, e1]; omega
  refine ⟨fun hc => ?_, hsum⟩
  rw [← e1, ← e1] at g1 g2
  rw [← e1, ← e1] at e2
  rw [← e2] at g1 g2
  rw [← hsum] at hc
  rw [alone_succ.2 ⟨g1, hc⟩] at g2
  simp at g2
end G18

namespace G18
open Go Go.Pl

theorem alone_sub {s : SSequence} {f k g m : Nat} (h : alone s f k = true) (h1 : f ≤ g) (h2 : g + m ≤ f + k) : alone s g m = true := by
  rw [alone_iff] at h ⊢
  intro i hi j hj
  have := h (g - f + i) (by omega) (g - f + j) (by omega)
  rwa [show f + (g - f + i) = g + i by omega, show f + (g - f + j) = g + j by omega] at this

/-- a list that could be the best one -/
def Can (s : SSequence) (x : List Int) : Prop := ListOk s x true ∧ rightL s x = true

theorem bnd_le {s : SSequence} {x : List Int} (h : ListOk s x true) (k : Nat) : bnd s x k ≤ s.Steps.length := by
  unfold bnd
  split
  · rename_i hk; have := (h.fst hk).2; omega
  · omega

theorem few_ahead {s : SSequence} (hr : Right s) {x : List Int} (hx : Can s x) : ∀ j, j < (few s).length → bnd s x j ≤ fst' (few s) j := by
  obtain ⟨hok, _⟩ := few_ok hr
  intro j
  induction j with
  | zero =>
    intro _
    unfold bnd
    have := hx.1.pos
    have := hx.1.zero rfl
    rw [if_pos (by omega)]
    unfold fst'; omega
  | succ j ih =>
    intro hj
    have ih := ih (by omega)
    obtain ⟨hb, hsum⟩ := few_border (s := s) hj
    by_cases hjx : j < x.length
    · refine Classical.byContradiction fun hc => hb ?_
      have hal := (rightL_iff.1 hx.2) j hjx
      have e := bnd_succ hx.1 hjx
      have e2 : bnd s x j = fst' x j := by unfold bnd; rw [if_pos hjx]
      have := alone_sub hal (g := fst' (few s) j) (m := siz s (few s) j + 1) (by omega) (by omega)
      have := (alone_succ.1 this).2
      rwa [hsum] at this
    · have : bnd s x j = s.Steps.length := by unfold bnd; rw [if_neg hjx]
      have := (hok.fst (show j < (few s).length by omega)).2
      omega

theorem few_short {s : SSequence} (hr : Right s) {x : List Int} (hx : Can s x) : (few s).length ≤ x.length := by
  refine Classical.byContradiction fun hc => ?_
  obtain ⟨hok, _⟩ := few_ok hr
  have := few_ahead hr hx x.length (by omega)
  have e : bnd s x x.length = s.Steps.length := by unfold bnd; rw [if_neg (by omega)]
  have := (hok.fst (show x.length < (few s).length by omega)).2
  omega

def lessB (a b : List Int) : Bool := (first a.length (fun k => if a.getD k 0 = b.getD k 0 then none else some (decide (a.getD k 0 < b.getD k 0)))).getD false

theorem few_late {s : SSequence} (hr : Right s) {x : List Int} (hx : Can s x) (hl : x.length = (few s).length) : ∀ j, j < x.length → x.getD j 0 ≤ (few s).getD j 0 := by
  obtain ⟨hok, _⟩ := few_ok hr
  intro j hj
  have h1 := few_ahead hr hx j (by omega)
  have e : bnd s x j = fst' x j := by unfold bnd; rw [if_pos hj]
  have h2 := hx.1.fst hj
  have h3 := hok.fst (show j < (few s).length by omega)
  omega

theorem less_few {s : SSequence} (hr : Right s) {x : List Int} (hx : Can s x) (hl : x.length = (few s).length) : lessB (few s) x = false := by
  have h := few_late hr hx hl
  unfold lessB
  cases hf : first (few s).length (fun k => if (few s).getD k 0 = x.getD k 0 then none else some (decide ((few s).getD k 0 < x.getD k 0))) with
  | none => rfl
  | some r =>
    unfold first at hf
    obtain ⟨k, hk, e⟩ := List.exists_of_findSome?_eq_some hf
    have hk' : k < (few s).length := by simpa using hk
    split at e
    · simp at e
    · injection e with e
      have := h k (by omega)
      rw [← e, lt_f (by omega)]; rfl
theorem few_less {s : SSequence} (hr : Right s) {x : List Int} (hx : Can s x) (hl : x.length = (few s).length) (hne : x ≠ few s) : lessB x (few s) = true := by
  have h := few_late hr hx hl
  unfold lessB
  cases hf : first x.length (fun k => if x.getD k 0 = (few s).getD k 0 then none else some (decide (x.getD k 0 < (few s).getD k 0))) with
  | none =>
    exfalso
    rw [first_none_iff] at hf
    apply hne
    apply List.ext_getElem hl
    intro i h1 h2
    have := hf i h1
    rw [← getD_lt (d := 0) h1, ← getD_lt (d := 0) h2]
    refine Classical.byContradiction fun hc => ?_
    rw [if_neg hc] at this
    simp at this
  | some r =>
    unfold first at hf
    obtain ⟨k, hk, e⟩ := List.exists_of_findSome?_eq_some hf
    have hk' : k < x.length := by simpa using hk
    split at e
    · simp at e
    · injection e with e
      rename_i hne2
      have := h k hk'
      rw [← e, lt_t (by omega)]; rfl

theorem m67_eq (a b : List Int) (ha : a.length ≤ 1000) (hl : b.length = a.length) : m67 a b = some (lessB a b) := by
  unfold m67 lessB
  rw [iter_first (fun k : Nat => (k : Int)) (fun k => if a.getD k 0 = b.getD k 0 then none else some (decide (a.getD k 0 < b.getD k 0))) a.length ?hn () ?h0 ?h ?he]
  case hn => unfold fuel; omega
  case h0 => rfl
  case he =>
    intro _
    try dsimp only
    rw [cond_f (lt_f (by omega))]
  case h =>
    intro k hk _
    try dsimp only
    rw [cond_t (lt_t (by omega)), idx_lt hk, idx_lt (show k < b.length by omega), getD_lt hk, getD_lt (show k < b.length by omega)]
    simp only [Option.bind_some]
    by_cases e : a[k] = b[k]
    · rw [if_pos e, cond_f (by simpa using e), addI_nat (by omega)]
    · rw [if_neg e, cond_t (by simpa using e)]
  cases first a.length (fun k => if a.getD k 0 = b.getD k 0 then none else some (decide (a.getD k 0 < b.getD k 0))) <;> rfl

/- all ascending lists -/
def lsts : Nat → List (List Int)
  | 0 => [[]]
  | i + 1 => lsts i ++ (lsts i).map fun x => x ++ [(i : Int)]

theorem lsts_len : ∀ n, (lsts n).length = 2 ^ n
  | 0 => rfl
  | n + 1 => by rw [lsts, List.length_append, List.length_map, lsts_len n, Nat.pow_succ]; omega
theorem lsts_short : ∀ n, ∀ x ∈ lsts n, x.length ≤ n
  | 0, x, h => by simp [lsts] at h; subst h; simp
  | n + 1, x, h => by
    rw [lsts, List.mem_append, List.mem_map] at h
    rcases h with h | ⟨y, hy, rfl⟩
    · have := lsts_short n x h; omega
    · have := lsts_short n y hy; simp; omega
theorem mem_lsts : ∀ (n : Nat) (x : List Int), (∀ k, k < x.length → 0 ≤ x.getD k 0 ∧ x.getD k 0 < n) → (∀ k, k + 1 < x.length → x.getD k 0 < x.getD (k + 1) 0) → x ∈ lsts n
  | 0, x, h, _ => by
    have : x.length = 0 := by
      refine Classical.byContradiction fun hc => ?_
      have := h 0 (by omega); omega
    rw [List.eq_nil_of_length_eq_zero this]; simp [lsts]
  | n + 1, x, h, hi => by
    rw [lsts, List.mem_append, List.mem_map]
    by_cases hx : x.length = 0
    · exact .inl (mem_lsts n x (fun k hk => by omega) (fun k hk => by omega))
    · have hmono : ∀ k, k + 1 < x.length → x.getD k 0 < x.getD (x.length - 1) 0 := by
        intro k hk
        have key : ∀ d, k + 1 + d < x.length → x.getD k 0 < x.getD (k + 1 + d) 0 := by
          intro d
          induction d with
          | zero => intro hd; exact hi k hd
          | succ d ih =>
            intro hd
            have := ih (by omega)
            have h2 := hi (k + 1 + d) (by omega)
            have e : k + 1 + (d + 1) = k + 1 + d + 1 := rfl
            rw [e]; omega
        have := key (x.length - 1 - (k + 1)) (by omega)
        rwa [show k + 1 + (x.length - 1 - (k + 1)) = x.length - 1 by omega] at this
      by_cases hl : x.getD (x.length - 1) 0 = n
      · refine .inr ⟨x.take (x.length - 1), mem_lsts n _ (fun k hk => ?_) (fun k hk => ?_), ?_⟩
        · rw [List.length_take] at hk
          have h1 := h k (by omega)
          have h2 := hmono k (by omega)
          have e : (x.take (x.length - 1)).getD k 0 = x.getD k 0 := by rw [getD_lt (by rw [List.length_take]; omega), getD_lt (by omega)]; simp
          rw [e]; omega
        · rw [List.length_take] at hk
          have e : ∀ k, k < x.length - 1 → (x.take (x.length - 1)).getD k 0 = x.getD k 0 := by
            intro k hk; rw [getD_lt (by rw [List.length_take]; omega), getD_lt (by omega)]; simp
          rw [e _ (by omega), e _ (by omega)]
          exact hi k (by omega)
        · rw [← hl, getD_lt (show x.length - 1 < x.length by omega)]
          have e : x = x.take (x.length - 1 + 1) := by rw [List.take_of_length_le (by omega)]
          conv => rhs; rw [e]
          rw [List.take_add_one, List.getElem?_eq_getElem (show x.length - 1 < x.length by omega)]
          rfl
      · refine .inl (mem_lsts n x (fun k hk => ⟨(h k hk).1, ?_⟩) hi)
        have h1 := h (x.length - 1) (by omega)
        by_cases hk2 : k + 1 < x.length
        · have := hmono k hk2; omega
        · have : k = x.length - 1 := by omega
          subst this; omega

theorem m64_eq (n : Nat) (hn : n ≤ 8) : m64 (n : Int) = some (lsts n) := by
  unfold m64
  rw [iter_fold (fun i : Nat => (lsts i, (i : Int))) n ?hn (lsts n) ?h0 ?h ?he]
  case hn => unfold fuel; omega
  case h0 => rfl
  case he =>
    try dsimp only
    rw [cond_f (lt_f (by omega))]
  case h =>
    intro i hi
    try dsimp only
    have hpow : 2 ^ i ≤ 2 ^ 8 := Nat.pow_le_pow_right (by omega) (by omega)
    have hll := lsts_len i
    rw [cond_t (lt_t (by omega))]
    rw [iter_fold (fun k : Nat => (lsts i ++ ((lsts i).take k).map (fun x => x ++ [(i : Int)]), (k : Int))) (lsts i).length ?hn (lsts (i + 1)) ?h0 ?h ?he]
    case hn => unfold fuel; omega
    case h0 => simp
    case he =>
      try dsimp only
      rw [cond_f (lt_f (by omega)), List.take_of_length_le (Nat.le_refl _)]
      rfl
    case h =>
      intro k hk
      try dsimp only
      have hk2 : k < (lsts i ++ ((lsts i).take k).map (fun x => x ++ [(i : Int)])).length := by rw [List.length_append]; omega
      have he : (lsts i ++ ((lsts i).take k).map (fun x => x ++ [(i : Int)]))[k] = (lsts i)[k] := by rw [List.getElem_append_left hk]
      have hs := lsts_short i _ (List.getElem_mem hk)
      rw [cond_t (lt_t (by omega)), idx_lt hk2, he]
      simp only [Option.bind_some]
      rw [appc_eq (by simp only [List.length_nil]; omega) (by simp only [List.length_nil]; omega)]
      simp only [Option.bind_some, List.nil_append]
      rw [appc_eq (by simp only [List.length_singleton]; omega) (by simp only [List.length_singleton]; omega)]
      simp only [Option.bind_some]
      rw [appc_eq (by simp; omega) (by simp; omega), addI_nat (by omega), List.take_add_one, List.getElem?_eq_getElem hk, List.map_append, List.append_assoc]
      rfl
    simp only [Option.bind_some]
    rw [addI_nat (by omega)]
  rfl

def stepB (s : SSequence) (b : Option (List Int)) (x : List Int) : Option (List Int) :=
  if listE s x true = 0 ∧ rightL s x = true then
    match b with
    | none => some x
    | some y => if x.length < y.length ∨ (x.length = y.length ∧ lessB y x = true) then some x else some y
  else b

theorem fold_can {s : SSequence} : ∀ (L : List (List Int)) (b : Option (List Int)), (∀ y, b = some y → Can s y) → ∀ y, L.foldl (stepB s) b = some y → Can s y
  | [], _, hb, y, h => hb y h
  | x :: L, b, hb, y, h => by
    rw [List.foldl_cons] at h
    refine fold_can L _ (fun z hz => ?_) y h
    unfold stepB at hz
    split at hz
    · rename_i hc
      have hx : Can s x := ⟨listE_ok hc.1, hc.2⟩
      split at hz
      · injection hz with hz; subst hz; exact hx
      · split at hz
        · injection hz with hz; subst hz; exact hx
        · injection hz with hz; subst hz; exact hb _ rfl
    · exact hb z hz

theorem fold_few {s : SSequence} (hr : Right s) : ∀ (L : List (List Int)) (b : Option (List Int)), (∀ y, b = some y → Can s y) → (few s ∈ L ∨ b = some (few s)) → L.foldl (stepB s) b = some (few s)
  | [], b, _, h => by
    rcases h with h | h
    · simp at h
    · exact h
  | x :: L, b, hb, h => by
    rw [List.foldl_cons]
    obtain ⟨hok, hrl⟩ := few_ok hr
    refine fold_few hr L _ (fun y hy => fold_can [x] b hb y hy) ?_
    by_cases hbf : b = some (few s)
    · refine .inr ?_
      subst hbf
      unfold stepB
      split
      · rename_i hc
        have hx : Can s x := ⟨listE_ok hc.1, hc.2⟩
        have := few_short hr hx
        dsimp only
        rw [if_neg]
        rintro (h | ⟨h1, h2⟩)
        · omega
        · rw [less_few hr hx h1] at h2; simp at h2
      · rfl
    · have hm : few s ∈ x :: L := by
        rcases h with h | h
        · exact h
        · exact (hbf h).elim
      rw [List.mem_cons] at hm
      rcases hm with rfl | hm
      · refine .inr ?_
        unfold stepB
        rw [if_pos ⟨listE_of hok, hrl⟩]
        cases b with
        | none => rfl
        | some y =>
          have hy : Can s y := hb y rfl
          have hne : y ≠ few s := fun hc => hbf (by rw [hc])
          have h1 := few_short hr hy
          dsimp only
          rw [if_pos]
          by_cases hl : y.length = (few s).length
          · exact .inr ⟨hl.symm, few_less hr hy hl hne⟩
          · exact .inl (by omega)
      · exact .inl hm

theorem m40_eq {s : SSequence} (hr : Right s) (h8 : s.Steps.length ≤ 8) : m40 s = some (few s) := by
  obtain ⟨hok, hrl⟩ := few_ok hr
  unfold m40
  rw [m64_eq _ h8]
  simp only [Option.bind_some]
  have hll := lsts_len s.Steps.length
  have hpow : 2 ^ s.Steps.length ≤ 2 ^ 8 := Nat.pow_le_pow_right (by omega) h8
  rw [iter_fold (fun k : Nat => (((lsts s.Steps.length).take k).foldl (stepB s) none, (k : Int))) (lsts s.Steps.length).length ?hn ((lsts s.Steps.length).foldl (stepB s) none) ?h0 ?h ?he]
  case hn => unfold fuel; omega
  case h0 => rfl
  case he =>
    try dsimp only
    rw [cond_f (lt_f (by omega)), List.take_of_length_le (Nat.le_refl _)]
  case h =>
    intro k hk
    try dsimp only
    have hcan := fold_can (s := s) ((lsts s.Steps.length).take k) none (fun y h => by simp at h)
    rw [cond_t (lt_t (by omega)), idx_lt hk]
    simp only [Option.bind_some]
    rw [m65_eq s (by omega), addI_nat (by omega), List.take_add_one, List.getElem?_eq_getElem hk, List.foldl_append]
    simp only [Option.bind_some, Option.toList_some, List.foldl_cons, List.foldl_nil]
    have hxs := lsts_short s.Steps.length _ (List.getElem_mem hk)
    generalize (lsts s.Steps.length)[k] = x at hxs ⊢
    generalize ((lsts s.Steps.length).take k).foldl (stepB s) none = b at hcan ⊢
    by_cases h0 : listE s x true = 0
    · have hx := listE_ok h0
      rw [h0, m66_eq hr hx]
      have hz : ((0 : Int) != 0) = false := rfl
      rw [hz]
      simp only [cond_false, Option.bind_some]
      cases hrx : rightL s x with
      | false =>
        have : stepB s b x = b := by unfold stepB; rw [if_neg (by rw [hrx]; simp)]
        rw [this]; rfl
      | true =>
        simp only [Bool.not_true, cond_false]
        cases b with
        | none =>
          have : stepB s none x = some x := by unfold stepB; rw [if_pos ⟨h0, hrx⟩]
          rw [this]; rfl
        | some y =>
          have hy := hcan y rfl
          have hyp := hy.1.pos
          have hyl := hy.1.le
          have hnil : nilQ (some y) = some false := by
            cases y with
            | nil => simp at hyp
            | cons => rfl
          rw [hnil]
          simp only [Option.bind_some, bne_self_eq_false, cond_false, Option.getD_some]
          by_cases h1 : x.length < y.length
          · have : stepB s (some y) x = some x := by unfold stepB; rw [if_pos ⟨h0, hrx⟩]; dsimp only; rw [if_pos (.inl h1)]
            rw [this, cond_t (lt_t (by omega))]; rfl
          · rw [cond_f (lt_f (by omega))]
            by_cases h2 : x.length = y.length
            · rw [cond_t (by rw [h2]; simp), m67_eq y x (by omega) h2]
              simp only [Option.bind_some]
              cases hl : lessB y x with
              | true =>
                have : stepB s (some y) x = some x := by unfold stepB; rw [if_pos ⟨h0, hrx⟩]; dsimp only; rw [if_pos (.inr ⟨h2, hl⟩)]
                rw [this]; rfl
              | false =>
                have : stepB s (some y) x = some y := by unfold stepB; rw [if_pos ⟨h0, hrx⟩]; dsimp only; rw [if_neg (by rw [hl]; simp; exact Nat.not_lt.1 h1)]
                rw [this]; rfl
            · have : stepB s (some y) x = some y := by unfold stepB; rw [if_pos ⟨h0, hrx⟩]; dsimp only; rw [if_neg (by omega)]
              rw [this, cond_f (by simp; omega)]; rfl
    · have : stepB s b x = b := by unfold stepB; rw [if_neg (fun h => h0 h.1)]
      rw [this, cond_t (by simpa using h0)]; rfl
  have hmem : few s ∈ lsts s.Steps.length := mem_lsts _ _ (fun k hk => ⟨hok.lo k hk, hok.hi k hk⟩) hok.inc
  rw [fold_few hr _ none (fun y h => by simp at h) (.inl hmem)]
  rfl

theorem m18_refl (l : List Int) (h : l.length ≤ 1000000) : m18 l l = some true := by
  unfold m18
  rw [cond_f (by simp)]
  rw [iter_list l (fun _ => (none : Option Bool)) ?hn () ?h0 ?h ?he]
  case hn => unfold fuel; omega
  case h0 => rfl
  case he =>
    try dsimp only
    rw [cond_f (lt_f (by omega))]
  case h =>
    intro k hk
    try dsimp only
    rw [cond_t (lt_t (by omega)), idx_lt hk]
    simp only [Option.bind_some]
    rw [cond_f (by simp), addI_nat (by omega)]
  have : l.findSome? (fun _ => (none : Option Bool)) = none := by simp [List.findSome?_eq_none_iff]
  rw [this]; rfl

theorem m15_eq (s : SSequence) (hs : Small s) : ∃ c, m15 s = some c ∧ (c = true → s.Steps.length ≤ 8 ∨ chk s ≠ 0) := by
  unfold m15
  obtain ⟨b, hb⟩ := m11_eq s hs
  rw [hb, m37_eq s hs]
  simp only [Option.bind_some]
  cases b with
  | false => exact ⟨false, rfl, fun h => by simp at h⟩
  | true =>
    rw [cond_true]
    by_cases h : (s.Steps.length : Int) ≤ 8
    · rw [cond_t (by simpa using h)]; exact ⟨true, rfl, fun _ => .inl (by omega)⟩
    · rw [cond_f (by simpa using h)]; exact ⟨chk s != 0, rfl, fun hc => .inr (by simpa using hc)⟩

theorem m4_eq (s : SSequence) (hs : Small s) : m4 s = some true := by
  unfold m4
  obtain ⟨c, hc, hf⟩ := m15_eq s hs
  rw [hc]
  simp only [Option.bind_some]
  have fin : ((m12).bind fun v5 => some v5) = some true := by rw [awake_run]; rfl
  cases c with
  | false => rw [cond_t (by rfl)]; exact fin
  | true =>
    have hf := hf rfl
    rw [cond_f (by rfl), m16_eq]
    unfold m17
    rw [m37_eq s hs]
    simp only [Option.bind_some]
    by_cases h0 : chk s = 0
    · have hr := chk_right h0
      obtain ⟨hok, _⟩ := few_ok hr
      have := hok.le
      have := hr.n64
      rw [if_pos h0, cond_f (by simpa using h0), m40_eq hr (by omega)]
      simp only [Option.bind_some]
      rw [m18_refl _ (by omega)]
      simp only [Option.bind_some, cond_true, beq_self_eq_true]
      rw [fin]; rfl
    · rw [if_neg h0, cond_t (by simpa using h0)]
      simp only [Option.bind_some]
      rw [m18_refl _ (by simp)]
      simp only [Option.bind_some, cond_true, beq_self_eq_true]
      rw [fin]; rfl
end G18
