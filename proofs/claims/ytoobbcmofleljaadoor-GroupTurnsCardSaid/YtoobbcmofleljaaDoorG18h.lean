/- Groups, lists of first steps, and rings, in plain words. No condition. -/
import Derived.Test.YtoobbcmofleljaaDoorG18b
import Derived.Test.YtoobbcmofleljaaDoorG18u
import Derived.Test.YtoobbcmofleljaaDoorG18a
namespace G18
open Go Go.Pl

theorem getD_lt {α : Type} {l : List α} {i : Nat} {d : α} (h : i < l.length) : l.getD i d = l[i] := by simp [List.getD, h]

/-- the step with a number, around the cycle -/
def stp (s : SSequence) (i : Nat) : SStep := s.Steps.getD (i % s.Steps.length) ⟨[], 0⟩
def mk (s : SSequence) (i : Nat) : Nat := mask (stp s i).Strokes
def alone (s : SSequence) (f k : Nat) : Bool := (List.range k).all fun i => (List.range i).all fun j => decide (mk s (f + i) &&& mk s (f + j) = 0)
def acc (s : SSequence) (f : Nat) : Nat → Nat
  | 0 => 0
  | k + 1 => acc s f k ||| mk s (f + k)

theorem stp_eq {s : SSequence} (h : Right s) (i : Nat) : ∃ hi : i % s.Steps.length < s.Steps.length, stp s i = s.Steps[i % s.Steps.length] := by
  have := h.n0
  have hi := Nat.mod_lt i this
  exact ⟨hi, by unfold stp; rw [getD_lt hi]⟩
theorem stp_in {s : SSequence} (h : Right s) (i : Nat) : StepIn s (stp s i) := by
  obtain ⟨hi, e⟩ := stp_eq h i
  rw [e]; exact h.step _ hi
theorem stp_lt {s : SSequence} {i : Nat} (hi : i < s.Steps.length) : stp s i = s.Steps[i] := by
  unfold stp
  have : i % s.Steps.length < s.Steps.length := by rw [Nat.mod_eq_of_lt hi]; exact hi
  rw [getD_lt this]
  congr 1
  exact Nat.mod_eq_of_lt hi
theorem mk_lt {s : SSequence} (h : Right s) (i : Nat) : mk s i < 64 := mask_lt _ (stp_in h i).ok.act
theorem acc_lt {s : SSequence} (h : Right s) (f : Nat) : ∀ k, acc s f k < 64
  | 0 => by simp [acc]
  | k + 1 => Nat.or_lt_two_pow (n := 6) (acc_lt h f k) (mk_lt h _)
theorem alone_iff {s : SSequence} {f k : Nat} : alone s f k = true ↔ ∀ i, i < k → ∀ j, j < i → mk s (f + i) &&& mk s (f + j) = 0 := by
  simp [alone, List.all_eq_true]
theorem alone_mono {s : SSequence} {f k m : Nat} (h : alone s f k = true) (hm : m ≤ k) : alone s f m = true := by
  rw [alone_iff] at h ⊢
  intro i hi j hj
  exact h i (by omega) j hj
theorem acc_bit (s : SSequence) (f a : Nat) : ∀ k, (acc s f k).testBit a = (List.range k).any fun i => (mk s (f + i)).testBit a
  | 0 => by simp [acc]
  | k + 1 => by rw [acc, Nat.testBit_or, acc_bit s f a k, List.range_succ, List.any_append]; simp
theorem acc_bit_iff {s : SSequence} {f k a : Nat} : (acc s f k).testBit a = true ↔ ∃ i, i < k ∧ (mk s (f + i)).testBit a = true := by
  rw [acc_bit, List.any_eq_true]
  constructor
  · rintro ⟨i, hi, h⟩; exact ⟨i, List.mem_range.1 hi, h⟩
  · rintro ⟨i, hi, h⟩; exact ⟨i, List.mem_range.2 hi, h⟩
theorem acc_zero {s : SSequence} {f k x : Nat} : acc s f k &&& x = 0 ↔ ∀ i, i < k → mk s (f + i) &&& x = 0 := by
  constructor
  · intro h i hi
    rw [mask_and_zero] at h ⊢
    intro a ha
    exact h a ⟨acc_bit_iff.2 ⟨i, hi, ha.1⟩, ha.2⟩
  · intro h
    rw [mask_and_zero]
    intro a ha
    obtain ⟨i, hi, hb⟩ := acc_bit_iff.1 ha.1
    exact (mask_and_zero.1 (h i hi)) a ⟨hb, ha.2⟩
theorem alone_succ {s : SSequence} {f k : Nat} : alone s f (k + 1) = true ↔ alone s f k = true ∧ acc s f k &&& mk s (f + k) = 0 := by
  rw [acc_zero]
  constructor
  · intro h
    refine ⟨alone_mono h (by omega), fun i hi => ?_⟩
    rw [Nat.and_comm]
    exact alone_iff.1 h k (by omega) i hi
  · rintro ⟨h1, h2⟩
    rw [alone_iff] at h1 ⊢
    intro i hi j hj
    by_cases e : i = k
    · subst e; rw [Nat.and_comm]; exact h2 j hj
    · exact h1 i (by omega) j hj

theorem remc_nat {x n : Nat} (h : 0 < n) : remc (x : Int) (n : Int) = some ((x % n : Nat) : Int) := by
  unfold remc
  rw [if_neg (by omega)]
  rfl

def onceG (s : SSequence) (f : Nat) (k : Nat) : Option (Int × Bool) := if acc s f k &&& mk s (f + k) = 0 then none else some ((acc s f k : Int), false)

theorem first_once {s : SSequence} {f : Nat} : ∀ k, (alone s f k = true → first k (onceG s f) = none) ∧ (alone s f k = false → ∃ m, first k (onceG s f) = some (m, false)) := by
  intro k
  constructor
  · intro h
    rw [first_none_iff]
    intro j hj
    unfold onceG
    rw [if_pos (alone_succ.1 (alone_mono h hj)).2]
  · intro h
    cases hf : first k (onceG s f) with
    | none =>
      exfalso
      rw [first_none_iff] at hf
      have : ∀ j, j ≤ k → alone s f j = true := by
        intro j
        induction j with
        | zero => intro _; rfl
        | succ j ih =>
          intro hj
          refine alone_succ.2 ⟨ih (by omega), ?_⟩
          have := hf j (by omega)
          unfold onceG at this
          refine Classical.byContradiction fun hc => ?_
          rw [if_neg hc] at this; simp at this
      rw [this k (Nat.le_refl _)] at h; simp at h
    | some r =>
      unfold first at hf
      obtain ⟨j, _, hj⟩ := List.exists_of_findSome?_eq_some hf
      unfold onceG at hj
      split at hj
      · simp at hj
      · injection hj with hj; exact ⟨_, by rw [← hj]⟩

theorem m44_eq {s : SSequence} (h : Right s) (f k : Nat) (hf : f < 1000000) (hk : k < 1000000) : ∃ m, m44 s (f : Int) (k : Int) = some (m, alone s f k) ∧ (alone s f k = true → m = (acc s f k : Int)) := by
  unfold m44
  have hn := h.n0
  have hn64 := h.n64
  rw [iter_first (fun i : Nat => ((i : Int), (acc s f i : Int))) (onceG s f) k ?hn ((acc s f k : Int)) ?h0 ?h ?he]
  case hn => unfold fuel; omega
  case h0 => rfl
  case he =>
    intro _
    try dsimp only
    rw [cond_f (lt_f (by omega))]
  case h =>
    intro i hi _
    try dsimp only
    have hlt := Nat.mod_lt (f + i) hn
    rw [cond_t (lt_t (by omega)), show addI .i64 (f : Int) (i : Int) = ((f + i : Nat) : Int) by rw [addI_eq (by omega) (by omega)]; omega, remc_nat hn]
    simp only [Option.bind_some]
    rw [idx_lt hlt]
    simp only [Option.bind_some]
    obtain ⟨_, e⟩ := stp_eq h (f + i)
    rw [m36_eq (h.step _ hlt).ok, ← e]
    simp only [Option.bind_some]
    have b1 := acc_lt h f i
    have b2 := mk_lt h (f + i)
    have e2 : mask (stp s (f + i)).Strokes = mk s (f + i) := rfl
    rw [e2, andI_nat (by omega) (by omega), orI_nat (by omega) (by omega), addI_nat (by omega)]
    unfold onceG
    by_cases hz : acc s f i &&& mk s (f + i) = 0
    · rw [if_pos hz, hz]; rfl
    · rw [if_neg hz, cond_t (by simp; omega)]
  obtain ⟨h1, h2⟩ := first_once (s := s) (f := f) k
  cases ha : alone s f k with
  | true => rw [h1 ha]; exact ⟨_, rfl, fun _ => rfl⟩
  | false =>
    obtain ⟨m, hm⟩ := h2 ha
    rw [hm]; exact ⟨_, rfl, fun h => by simp at h⟩

theorem share_mk {s : SSequence} (h : Right s) (i j : Nat) : share s (stp s i) (stp s j) = !decide (mk s i &&& mk s j = 0) := share_mask (stp_in h i) (stp_in h j)

theorem all_any {p : Nat → Bool} (k : Nat) : (List.range k).all p = !(List.range k).any fun i => !p i := by
  rw [List.all_eq_not_any_not]

theorem m78_eq {s : SSequence} (h : Right s) (f k : Nat) (hf : f < 1000000) (hk : k < 1000000) : m78 s (f : Int) (k : Int) = some (alone s f k) := by
  unfold m78
  have hn := h.n0
  have hn64 := h.n64
  rw [iter_list (List.range k) (fun i => bif (List.range i).any fun j => !decide (mk s (f + i) &&& mk s (f + j) = 0) then some false else none) ?hn () ?h0 ?h ?he]
  case hn => unfold fuel; simp; omega
  case h0 => rfl
  case he =>
    try dsimp only
    rw [cond_f (lt_f (by simp))]
  case h =>
    intro i hi
    have hi' : i < k := by simpa using hi
    try dsimp only
    rw [cond_t (lt_t (by omega))]
    rw [iter_list (List.range i) (fun j => bif !decide (mk s (f + i) &&& mk s (f + j) = 0) then some (.inr (.inr false)) else none) ?hn () ?h0 ?h ?he]
    case hn => unfold fuel; simp; omega
    case h0 => rfl
    case he =>
      try dsimp only
      rw [cond_f (lt_f (by simp))]
    case h =>
      intro j hj
      have hj' : j < i := by simpa using hj
      try dsimp only
      rw [cond_t (lt_t (by omega)), show addI .i64 (f : Int) (i : Int) = ((f + i : Nat) : Int) by rw [addI_eq (by omega) (by omega)]; omega,
        show addI .i64 (f : Int) (j : Int) = ((f + j : Nat) : Int) by rw [addI_eq (by omega) (by omega)]; omega, remc_nat hn, remc_nat hn]
      simp only [Option.bind_some, List.getElem_range]
      obtain ⟨l1, e1⟩ := stp_eq h (f + i)
      obtain ⟨l2, e2⟩ := stp_eq h (f + j)
      rw [m38_eq h l1 l2, ← e1, ← e2, share_mk h, addI_nat (by omega)]
      simp only [Option.bind_some]
      cases decide (mk s (f + i) &&& mk s (f + j) = 0) <;> rfl
    rw [findSome_if, List.getElem_range, addI_nat (by omega)]
    cases (List.range i).any fun j => !decide (mk s (f + i) &&& mk s (f + j) = 0) <;> rfl
  rw [findSome_if]
  have : alone s f k = !(List.range k).any fun i => (List.range i).any fun j => !decide (mk s (f + i) &&& mk s (f + j) = 0) := by
    unfold alone
    rw [all_any]
    congr 1
    congr 1
    funext i
    rw [all_any, Bool.not_not]
  rw [this]
  cases (List.range k).any fun i => (List.range i).any fun j => !decide (mk s (f + i) &&& mk s (f + j) = 0) <;> rfl
theorem mk_hasA {s : SSequence} (h : Right s) {i : Nat} (hi : i < s.Steps.length) (a : Nat) : hasA s.Steps[i] (a : Int) = (mk s i).testBit a := by
  rw [hasA_bit (h.step i hi).ok, ← stp_lt hi]; rfl
end G18

namespace G18
open Go Go.Pl

def listG (s : SSequence) (l : List Int) (k : Nat) : Option Int :=
  if l.getD k 0 < 0 ∨ (s.Steps.length : Int) ≤ l.getD k 0 then some 2 else if 0 < k ∧ l.getD k 0 ≤ l.getD (k - 1) 0 then some 9 else none

/-- what is wrong with a list of first steps -/
def listE (s : SSequence) (l : List Int) (b : Bool) : Int :=
  if l.length = 0 then 13 else if s.Steps.length < l.length then 5 else if b = true ∧ l.getD 0 0 ≠ 0 then 3 else
  match first l.length (listG s l) with | some r => r | none => 0

theorem m65_eq (s : SSequence) (hs : s.Steps.length ≤ 64) (l : List Int) (b : Bool) : m65 s l b = some (listE s l b) := by
  unfold m65 listE
  by_cases h1 : l.length = 0
  · rw [cond_t (by simpa using h1), if_pos h1]
  rw [cond_f (by simpa using h1), if_neg h1]
  by_cases h2 : s.Steps.length < l.length
  · rw [cond_t (by simp; omega), if_pos h2]
  rw [cond_f (by simp; omega), if_neg h2]
  have e0 : idx l (0 : Int) = some (l.getD 0 0) := by
    have := idx_lt (l := l) (k := 0) (by omega)
    rw [getD_lt (by omega)]; exact this
  have e1 : ((bif b then (idx l 0).bind fun v5 => some (v5 != 0) else some false) : Option Bool) = some (decide (b = true ∧ l.getD 0 0 ≠ 0)) := by
    cases b with
    | false => simp
    | true =>
      rw [e0]; simp only [Option.bind_some, cond_true, true_and]
      by_cases hz : l.getD 0 0 = 0
      · rw [hz]; rfl
      · rw [decide_eq_true hz, bne_iff_ne.2 hz]
  rw [e1]
  simp only [Option.bind_some]
  by_cases h3 : b = true ∧ l.getD 0 0 ≠ 0
  · rw [if_pos h3, cond_t (decide_eq_true h3)]
  rw [if_neg h3, cond_f (decide_eq_false h3)]
  rw [iter_first (fun k : Nat => (k : Int)) (listG s l) l.length ?hn () ?h0 ?h ?he]
  case hn => unfold fuel; omega
  case h0 => rfl
  case he =>
    intro _
    try dsimp only
    rw [cond_f (lt_f (by omega))]
  case h =>
    intro k hk _
    try dsimp only
    rw [cond_t (lt_t (by omega)), idx_lt hk]
    simp only [Option.bind_some]
    unfold listG
    rw [getD_lt hk]
    by_cases h4 : l[k] < 0
    · rw [cond_t (lt_t h4), if_pos (.inl h4)]; rfl
    rw [cond_f (lt_f h4)]
    simp only [Option.bind_some]
    by_cases h5 : (s.Steps.length : Int) ≤ l[k]
    · rw [if_pos (.inr h5), cond_t (by simpa using h5)]
    rw [cond_f (by simp; omega), if_neg (by omega)]
    by_cases hk0 : k = 0
    · subst hk0
      rw [if_neg (by omega), cond_f (by simp)]
      rfl
    · rw [cond_t (by simp; omega), sub_nat (by omega) (by omega), idx_lt (show k - 1 < l.length by omega), getD_lt (show k - 1 < l.length by omega)]
      simp only [Option.bind_some]
      by_cases h6 : l[k] ≤ l[k - 1]
      · rw [if_pos ⟨by omega, h6⟩, cond_t (by simpa using h6)]
      · rw [if_neg (by omega), cond_f (by simpa using h6), addI_nat (by omega)]
  cases first l.length (listG s l) <;> rfl

/-- a list of first steps that is right -/
structure ListOk (s : SSequence) (l : List Int) (b : Bool) : Prop where
  pos : 0 < l.length
  le : l.length ≤ s.Steps.length
  zero : b = true → l.getD 0 0 = 0
  lo : ∀ k, k < l.length → 0 ≤ l.getD k 0
  hi : ∀ k, k < l.length → l.getD k 0 < s.Steps.length
  inc : ∀ k, k + 1 < l.length → l.getD k 0 < l.getD (k + 1) 0

theorem listE_ok {s : SSequence} {l : List Int} {b : Bool} (h : listE s l b = 0) : ListOk s l b := by
  unfold listE at h
  split at h
  · omega
  split at h
  · omega
  split at h
  · omega
  rename_i h1 h2 h3
  split at h
  · rename_i r hr
    exfalso
    unfold first at hr
    obtain ⟨k, _, hk⟩ := List.exists_of_findSome?_eq_some hr
    subst h
    unfold listG at hk
    split at hk
    · simp at hk
    · split at hk <;> simp at hk
  · rename_i hr
    rw [first_none_iff] at hr
    have hb : ∀ k, k < l.length → ¬(l.getD k 0 < 0 ∨ (s.Steps.length : Int) ≤ l.getD k 0) ∧ ¬(0 < k ∧ l.getD k 0 ≤ l.getD (k - 1) 0) := by
      intro k hk
      have := hr k hk
      unfold listG at this
      split at this
      · simp at this
      · split at this
        · simp at this
        · exact ⟨by assumption, by assumption⟩
    refine ⟨by omega, by omega, fun hb => ?_, fun k hk => ?_, fun k hk => ?_, fun k hk => ?_⟩
    · exact Classical.byContradiction fun hc => h3 ⟨hb, hc⟩
    · have := (hb k hk).1; omega
    · have := (hb k hk).1; omega
    · have := (hb (k + 1) hk).2
      rw [Nat.add_sub_cancel] at this; omega

theorem listE_of {s : SSequence} {l : List Int} {b : Bool} (h : ListOk s l b) : listE s l b = 0 := by
  unfold listE
  have := h.pos
  have := h.le
  rw [if_neg (by omega), if_neg (by omega), if_neg (fun hc => hc.2 (h.zero hc.1)), first_none]
  intro k hk
  unfold listG
  have h1 := h.lo k hk
  have h2 := h.hi k hk
  rw [if_neg (by omega)]
  by_cases hk0 : k = 0
  · rw [if_neg (by omega)]
  · have := h.inc (k - 1) (by omega)
    rw [Nat.sub_add_cancel (by omega)] at this
    rw [if_neg (by omega)]

theorem ListOk.mono {s : SSequence} {l : List Int} {b : Bool} (h : ListOk s l b) {i j : Nat} (hij : i < j) (hj : j < l.length) : l.getD i 0 < l.getD j 0 := by
  induction j with
  | zero => omega
  | succ j ih =>
    have h1 := h.inc j hj
    by_cases e : i = j
    · subst e; exact h1
    · have := ih (by omega) (by omega); omega

/-- where a group ends -/
def nxt (s : SSequence) (l : List Int) (i : Nat) : Int := if i + 1 < l.length then l.getD (i + 1) 0 else s.Steps.length + l.getD 0 0

/-- a group's first step and its size -/
def fst' (l : List Int) (i : Nat) : Nat := (l.getD i 0).toNat
def siz (s : SSequence) (l : List Int) (i : Nat) : Nat := (nxt s l i - l.getD i 0).toNat

theorem ListOk.fst {s : SSequence} {l : List Int} {b : Bool} (h : ListOk s l b) {i : Nat} (hi : i < l.length) : l.getD i 0 = (fst' l i : Int) ∧ fst' l i < s.Steps.length := by
  have h1 := h.lo i hi
  have h2 := h.hi i hi
  unfold fst'; omega
theorem ListOk.nx {s : SSequence} {l : List Int} {b : Bool} (h : ListOk s l b) {i : Nat} (hi : i < l.length) : l.getD i 0 < nxt s l i ∧ nxt s l i < 2 * s.Steps.length := by
  have := h.lo i hi
  have := h.hi i hi
  have := h.lo 0 h.pos
  have := h.hi 0 h.pos
  unfold nxt
  split
  · rename_i hc
    have := h.inc i hc
    have := h.hi (i + 1) hc
    omega
  · omega
theorem ListOk.siz {s : SSequence} {l : List Int} {b : Bool} (h : ListOk s l b) {i : Nat} (hi : i < l.length) : nxt s l i - l.getD i 0 = (siz s l i : Int) ∧ siz s l i < 2 * s.Steps.length ∧ 0 < siz s l i := by
  obtain ⟨h1, h2⟩ := h.nx hi
  have := h.lo i hi
  unfold G18.siz; omega

/-- the first step of a group, or the number of steps -/
def bnd (s : SSequence) (l : List Int) (k : Nat) : Nat := if k < l.length then fst' l k else s.Steps.length

theorem bnd_succ {s : SSequence} {l : List Int} (h : ListOk s l true) {k : Nat} (hk : k < l.length) : bnd s l (k + 1) = fst' l k + siz s l k := by
  have h1 := h.siz hk
  have h2 := h.fst hk
  have hz := h.zero rfl
  unfold bnd
  have e : nxt s l k = ((if k + 1 < l.length then fst' l (k + 1) else s.Steps.length : Nat) : Int) := by
    unfold nxt
    by_cases hc : k + 1 < l.length
    · rw [if_pos hc, if_pos hc]; exact (h.fst hc).1
    · rw [if_neg hc, if_neg hc]; omega
  omega

theorem m52_eq {s : SSequence} {l : List Int} {b : Bool} (h : ListOk s l b) (hs : s.Steps.length ≤ 64) {i : Nat} (hi : i < l.length) : m52 s l (i : Int) = some (nxt s l i) := by
  have := h.le
  unfold m52 nxt
  rw [addI_nat (by omega)]
  by_cases hc : i + 1 < l.length
  · rw [if_pos hc, cond_t (lt_t (by omega)), idx_lt hc, getD_lt hc]; rfl
  · have hp := h.pos
    have h0 := idx_lt (l := l) (k := 0) hp
    have h1 := h.lo 0 hp
    have h2 := h.hi 0 hp
    rw [getD_lt hp] at h1 h2
    rw [if_neg hc, cond_f (lt_f (by omega)), show (0 : Int) = ((0 : Nat) : Int) from rfl, h0, getD_lt hp]
    simp only [Option.bind_some]
    rw [addI_eq (by omega) (by omega)]

/-- has no group an actuator that moves twice? -/
def rightL (s : SSequence) (l : List Int) : Bool := (List.range l.length).all fun i => alone s (fst' l i) (siz s l i)

theorem m66_eq {s : SSequence} (hr : Right s) {l : List Int} {b : Bool} (h : ListOk s l b) : m66 s l = some (rightL s l) := by
  have hs := hr.n64
  have := h.le
  unfold m66
  rw [iter_list (List.range l.length) (fun i => bif !alone s (fst' l i) (siz s l i) then some false else none) ?hn () ?h0 ?h ?he]
  case hn => unfold fuel; simp; omega
  case h0 => rfl
  case he =>
    try dsimp only
    rw [cond_f (lt_f (by simp))]
  case h =>
    intro k hk
    have hk' : k < l.length := by simpa using hk
    try dsimp only
    have hsz := h.siz hk'
    have hf := h.fst hk'
    obtain ⟨hn1, hn2⟩ := h.nx hk'
    have hlo := h.lo k hk'
    have hm := m52_eq h hs hk'
    rw [cond_t (lt_t (by omega)), idx_lt hk']
    simp only [Option.bind_some]
    rw [hm]
    simp only [Option.bind_some, List.getElem_range]
    rw [← getD_lt (d := 0) hk', subI_eq (by omega) (by omega), hsz.1, hf.1, m78_eq hr _ _ (by omega) (by omega), addI_nat (by omega)]
    simp only [Option.bind_some]
    cases alone s (fst' l k) (siz s l k) <;> rfl
  rw [findSome_if]
  unfold rightL
  rw [all_any]
  cases (List.range l.length).any fun i => !alone s (fst' l i) (siz s l i) <;> rfl

theorem rightL_iff {s : SSequence} {l : List Int} : rightL s l = true ↔ ∀ i, i < l.length → alone s (fst' l i) (siz s l i) = true := by
  simp [rightL, List.all_eq_true]
end G18

namespace G18
open Go Go.Pl
theorem m68_eq (s : SSequence) (l : List Int) (b : Bool) : m68 s l b = m65 s l b := by
  unfold m68 m65
  congr 1
  congr 1
  congr 1
  funext w3
  congr 1
  congr 1
  congr 1
  funext s7
  congr 1
  cases idx l s7 with
  | none => rfl
  | some v =>
    simp only [Option.bind_some]
    cases decide (v < 0) <;> cases decide (v ≥ (s.Steps.length : Int)) <;> rfl

theorem m48_eq {s : SSequence} {l : List Int} {b : Bool} (h : ListOk s l b) (hs : s.Steps.length ≤ 64) : m48 s l = some ((List.range l.length).map fun i => (siz s l i : Int)) := by
  have := h.le
  unfold m48
  rw [iter_fold (fun k : Nat => ((List.range k).map (fun i => (siz s l i : Int)), (k : Int))) l.length ?hn ((List.range l.length).map fun i => (siz s l i : Int)) ?h0 ?h ?he]
  case hn => unfold fuel; omega
  case h0 => rfl
  case he =>
    try dsimp only
    rw [cond_f (lt_f (by omega))]
  case h =>
    intro k hk
    try dsimp only
    have hp := h.pos
    have h0 := idx_lt (l := l) (k := 0) hp
    have h1 := h.lo 0 hp
    have h2 := h.hi 0 hp
    have hm := m52_eq h hs hk
    have hsz := h.siz hk
    have hlo := h.lo k hk
    obtain ⟨hn1, hn2⟩ := h.nx hk
    rw [getD_lt hk] at hsz hlo hn1
    rw [cond_t (lt_t (by omega)), idx_lt hk, show idx l (0 : Int) = some l[0] from h0]
    simp only [Option.bind_some]
    have e : ((bif (decide ((addI .i64 (k : Int) 1) < (l.length : Int))) then (idx l (addI .i64 (k : Int) 1)).bind fun v8 => some v8 else some (addI .i64 l[0] (s.Steps.length : Int))) : Option (Int)) = some (nxt s l k) := by
      rw [getD_lt hp] at h1 h2
      rw [← hm]
      unfold m52
      rw [show idx l (0 : Int) = some l[0] from h0]
      simp only [Option.bind_some]
      rw [addI_eq (x := l[0]) (by omega) (by omega), addI_eq (x := (s.Steps.length : Int)) (by omega) (by omega), Int.add_comm]
    rw [e]
    simp only [Option.bind_some]
    rw [appc_eq (by simp; omega) (by simp; omega), subI_eq (by omega) (by omega), hsz.1, addI_nat (by omega)]
    simp only [Option.bind_some]
    rw [List.range_succ, List.map_append]
    rfl
  rfl

def chkL (s : SSequence) (l : List Int) (b : Bool) : Int := if chk s ≠ 0 then chk s else if listE s l b ≠ 0 then listE s l b else if rightL s l = true then 0 else 7

theorem m46_eq (s : SSequence) (hs : Small s) (l : List Int) (b : Bool) : m46 s l b = some (chkL s l b) := by
  unfold m46 chkL
  rw [m37_eq s hs]
  simp only [Option.bind_some]
  by_cases h0 : chk s = 0
  · have hr := chk_right h0
    rw [cond_f (by simpa using h0), if_neg (by simpa using h0), m65_eq s hr.n64]
    simp only [Option.bind_some]
    by_cases h1 : listE s l b = 0
    · rw [cond_f (by simpa using h1), if_neg (by simpa using h1), m66_eq hr (listE_ok h1)]
      cases rightL s l <;> rfl
    · rw [cond_t (by simpa using h1), if_pos h1]
  · rw [cond_t (by simpa using h0), if_pos h0]

theorem m47_eq (s : SSequence) (l : List Int) (b : Bool) : m47 s l b = some (chkL s l b) := by
  unfold m47 chkL
  rw [m35_eq s]
  simp only [Option.bind_some]
  by_cases h0 : chk s = 0
  · have hr := chk_right h0
    have hs := hr.n64
    rw [cond_f (by simpa using h0), if_neg (by simpa using h0), m68_eq, m65_eq s hr.n64]
    simp only [Option.bind_some]
    by_cases h1 : listE s l b = 0
    · have h := listE_ok h1
      have hle := h.le
      rw [cond_f (by simpa using h1), if_neg (by simpa using h1), m48_eq h hs]
      simp only [Option.bind_some, List.length_map, List.length_range]
      rw [iter_list (List.range l.length) (fun i => bif !alone s (fst' l i) (siz s l i) then some 7 else none) ?hn () ?h0 ?h ?he]
      case hn => unfold fuel; simp; omega
      case h0 => rfl
      case he =>
        try dsimp only
        rw [cond_f (lt_f (by simp))]
      case h =>
        intro k hk
        have hk' : k < l.length := by simpa using hk
        try dsimp only
        have hsz := h.siz hk'
        have hf := h.fst hk'
        rw [cond_t (lt_t (by omega)), idx_lt (show k < ((List.range l.length).map fun i => (siz s l i : Int)).length by simpa using hk), idx_lt hk']
        simp only [Option.bind_some, List.getElem_map, List.getElem_range]
        rw [← getD_lt (d := 0) hk', hf.1]
        obtain ⟨m, e, _⟩ := m44_eq hr (fst' l k) (siz s l k) (by omega) (by omega)
        rw [e, addI_nat (by omega)]
        simp only [Option.bind_some]
        cases alone s (fst' l k) (siz s l k) <;> rfl
      rw [findSome_if]
      unfold rightL
      rw [all_any]
      cases (List.range l.length).any fun i => !alone s (fst' l i) (siz s l i) <;> rfl
    · rw [cond_t (by simpa using h1), if_pos h1]
  · rw [cond_t (by simpa using h0), if_pos h0]

theorem chkL_ok {s : SSequence} {l : List Int} {b : Bool} (h : chkL s l b = 0) : chk s = 0 ∧ ListOk s l b ∧ rightL s l = true := by
  unfold chkL at h
  split at h
  · rename_i h0; exact (h0 h).elim
  split at h
  · rename_i h0; exact (h0 h).elim
  rename_i h0 h1
  split at h
  · exact ⟨by simpa using h0, listE_ok (by simpa using h1), by assumption⟩
  · omega
theorem chkL_of {s : SSequence} {l : List Int} {b : Bool} (h0 : chk s = 0) (h1 : ListOk s l b) (h2 : rightL s l = true) : chkL s l b = 0 := by
  unfold chkL
  rw [if_neg (by simpa using h0), if_neg (by simpa using listE_of h1), if_pos h2]
end G18

namespace G18
open Go Go.Pl

/-- groups as long as possible from a step on: their first steps, and the size of the last one -/
def gre (s : SSequence) (f0 : Nat) : Nat → List Nat × Nat
  | 0 => ([f0], 0)
  | i + 1 => if alone s ((gre s f0 i).1.getD ((gre s f0 i).1.length - 1) 0) ((gre s f0 i).2 + 1) = true then ((gre s f0 i).1, (gre s f0 i).2 + 1) else ((gre s f0 i).1 ++ [f0 + i], 1)

structure Greedy (s : SSequence) (f0 i : Nat) (o : List Nat) (z : Nat) : Prop where
  ne : 0 < o.length
  le : o.length ≤ i + 1
  hd : o.getD 0 0 = f0
  sz : o.getD (o.length - 1) 0 + z = f0 + i
  al : alone s (o.getD (o.length - 1) 0) z = true
  zp : 0 < i → 0 < z
  inc : ∀ j, j + 1 < o.length → o.getD j 0 < o.getD (j + 1) 0
  st : ∀ j, j + 1 < o.length → alone s (o.getD j 0) (o.getD (j + 1) 0 - o.getD j 0) = true ∧ alone s (o.getD j 0) (o.getD (j + 1) 0 - o.getD j 0 + 1) = false

theorem alone_one (s : SSequence) (f : Nat) : alone s f 1 = true := by
  rw [alone_iff]; intro i hi j hj; omega

theorem getD_app {o : List Nat} {x j : Nat} (h : j < o.length) : (o ++ [x]).getD j 0 = o.getD j 0 := by
  rw [getD_lt (by simp; omega), getD_lt h, List.getElem_append_left h]
theorem getD_end (o : List Nat) (x : Nat) : (o ++ [x]).getD o.length 0 = x := by
  rw [getD_lt (by simp)]; simp

theorem greedy (s : SSequence) (f0 : Nat) : ∀ i, Greedy s f0 i (gre s f0 i).1 (gre s f0 i).2
  | 0 => ⟨by simp [gre], by simp [gre], rfl, rfl, by rw [alone_iff]; intro i hi; simp [gre] at hi, by omega, fun j hj => by simp [gre] at hj, fun j hj => by simp [gre] at hj⟩
  | i + 1 => by
    have h := greedy s f0 i
    rw [gre]
    by_cases ha : alone s ((gre s f0 i).1.getD ((gre s f0 i).1.length - 1) 0) ((gre s f0 i).2 + 1) = true
    · rw [if_pos ha]
      have := h.le
      have := h.sz
      exact ⟨h.ne, by dsimp only; omega, h.hd, by dsimp only; omega, ha, fun _ => by dsimp only; omega, h.inc, h.st⟩
    · rw [if_neg ha]
      have hne := h.ne
      have hle := h.le
      have hsz := h.sz
      have hi0 : 0 < i := by
        refine Nat.pos_of_ne_zero fun hc => ?_
        subst hc
        exact ha (alone_one _ _)
      have hz := h.zp hi0
      refine ⟨by simp, by simp; omega, ?_, ?_, ?_, fun _ => by simp, ?_, ?_⟩
      · rw [getD_app hne]; exact h.hd
      · simp only [List.length_append, List.length_singleton, Nat.add_sub_cancel]
        rw [getD_end]; omega
      · exact alone_one _ _
      · intro j hj
        simp only [List.length_append, List.length_singleton] at hj
        dsimp only
        rw [getD_app (show j < (gre s f0 i).1.length by omega)]
        by_cases e : j + 1 < (gre s f0 i).1.length
        · rw [getD_app e]; exact h.inc j e
        · have : j + 1 = (gre s f0 i).1.length := by omega
          rw [this, getD_end]
          have e2 : j = (gre s f0 i).1.length - 1 := by omega
          rw [e2]; omega
      · intro j hj
        simp only [List.length_append, List.length_singleton] at hj
        dsimp only
        rw [getD_app (show j < (gre s f0 i).1.length by omega)]
        by_cases e : j + 1 < (gre s f0 i).1.length
        · rw [getD_app e]; exact h.st j e
        · have : j + 1 = (gre s f0 i).1.length := by omega
          rw [this, getD_end]
          have e2 : j = (gre s f0 i).1.length - 1 := by omega
          rw [e2]
          have e3 : f0 + i - (gre s f0 i).1.getD ((gre s f0 i).1.length - 1) 0 = (gre s f0 i).2 := by omega
          rw [e3]
          exact ⟨h.al, by simpa using ha⟩

theorem Greedy.last {s : SSequence} {f0 i : Nat} {o : List Nat} {z : Nat} (h : Greedy s f0 i o z) : ∀ j, j < o.length → o.getD j 0 ≤ o.getD (o.length - 1) 0 := by
  intro j hj
  have key : ∀ d, j + d < o.length → o.getD j 0 ≤ o.getD (j + d) 0 := by
    intro d
    induction d with
    | zero => intro _; exact Nat.le_refl _
    | succ d ih =>
      intro hd
      have := ih (by omega)
      have := h.inc (j + d) hd
      have e : j + (d + 1) = j + d + 1 := rfl
      rw [e]; omega
  have := key (o.length - 1 - j) (by omega)
  rwa [show j + (o.length - 1 - j) = o.length - 1 by omega] at this
theorem Greedy.big {s : SSequence} {f0 i : Nat} {o : List Nat} {z : Nat} (h : Greedy s f0 i o z) : ∀ j, j < o.length → f0 + j ≤ o.getD j 0 := by
  intro j
  induction j with
  | zero => intro _; have := h.hd; omega
  | succ j ih =>
    intro hj
    have := ih (by omega)
    have := h.inc j hj
    omega

def ints (o : List Nat) : List Int := o.map fun x : Nat => (x : Int)
theorem ints_len (o : List Nat) : (ints o).length = o.length := by simp [ints]
theorem ints_getD (o : List Nat) (j : Nat) : (ints o).getD j 0 = (o.getD j 0 : Int) := by
  by_cases h : j < o.length
  · rw [getD_lt (by rw [ints_len]; exact h), getD_lt h]; simp [ints]
  · simp [ints, List.getD, h]

theorem m39_eq {s : SSequence} (h : Right s) (f0 : Nat) (hf : f0 < 1000) : m39 s (f0 : Int) = some (ints (gre s f0 s.Steps.length).1) := by
  have hn := h.n64
  unfold m39
  rw [iter_fold (fun i : Nat => (ints (gre s f0 i).1, ((gre s f0 i).2 : Int), (i : Int))) s.Steps.length ?hn (ints (gre s f0 s.Steps.length).1) ?h0 ?h ?he]
  case hn => unfold fuel; omega
  case h0 => rfl
  case he =>
    try dsimp only
    rw [cond_f (lt_f (by omega))]
  case h =>
    intro i hi
    try dsimp only
    have g := greedy s f0 i
    have hne := g.ne
    have hle := g.le
    have hsz := g.sz
    rw [cond_t (lt_t (by omega)), ints_len, sub_nat hne (by omega), idx_lt (show (gre s f0 i).1.length - 1 < (ints (gre s f0 i).1).length by rw [ints_len]; omega)]
    simp only [Option.bind_some]
    rw [← getD_lt (d := 0), ints_getD, addI_nat (by omega)]
    obtain ⟨m, e, _⟩ := m44_eq h ((gre s f0 i).1.getD ((gre s f0 i).1.length - 1) 0) ((gre s f0 i).2 + 1) (by omega) (by omega)
    rw [e, addI_eq (by omega) (by omega), gre]
    simp only [Option.bind_some]
    cases ha : alone s ((gre s f0 i).1.getD ((gre s f0 i).1.length - 1) 0) ((gre s f0 i).2 + 1) with
    | true =>
      simp only [Bool.not_true, cond_false, Option.bind_some, if_true]
      rw [addI_nat (by omega), addI_nat (by omega)]
    | false =>
      simp only [Bool.not_false, cond_true, Bool.false_eq_true, if_false]
      rw [appc_eq (by simp only [List.length_singleton, ints_len]; omega) (by simp only [List.length_singleton, ints_len]; omega)]
      simp only [Option.bind_some]
      rw [addI_nat (by omega), show addI .i64 0 1 = (((0 + 1 : Nat)) : Int) from addI_nat (k := 0) (by omega)]
      simp [ints]
  rfl

/-- the fewest division -/
def few (s : SSequence) : List Int := ints (gre s 0 s.Steps.length).1

theorem m16_eq (s : SSequence) : m16 s = some (if chk s = 0 then (few s, 0) else ([], chk s)) := by
  unfold m16
  rw [m35_eq]
  simp only [Option.bind_some]
  by_cases h0 : chk s = 0
  · rw [cond_f (by simpa using h0), if_pos h0, show (0 : Int) = ((0 : Nat) : Int) from rfl, m39_eq (chk_right h0) 0 (by omega)]
    rfl
  · rw [cond_t (by simpa using h0), if_neg h0]

theorem few_ok {s : SSequence} (h : Right s) : ListOk s (few s) true ∧ rightL s (few s) = true := by
  have hn := h.n0
  have g := greedy s 0 s.Steps.length
  have hne := g.ne
  have hsz := g.sz
  have hz := g.zp hn
  have hb := g.big ((gre s 0 s.Steps.length).1.length - 1) (by omega)
  have hlen : (few s).length = (gre s 0 s.Steps.length).1.length := ints_len _
  have hok : ListOk s (few s) true := by
    refine ⟨by omega, by omega, fun _ => ?_, fun k hk => ?_, fun k hk => ?_, fun k hk => ?_⟩
    · have := g.hd
      rw [few, ints_getD]; omega
    · rw [few, ints_getD]; omega
    · have := g.last k (by omega)
      rw [few, ints_getD]; omega
    · have := g.inc k (by omega)
      rw [few, ints_getD, ints_getD]; omega
  refine ⟨hok, ?_⟩
  rw [rightL_iff]
  intro i hi
  have e1 : fst' (few s) i = (gre s 0 s.Steps.length).1.getD i 0 := by
    unfold fst'; rw [few, ints_getD]; rfl
  rw [e1]
  by_cases hc : i + 1 < (few s).length
  · have e2 : siz s (few s) i = (gre s 0 s.Steps.length).1.getD (i + 1) 0 - (gre s 0 s.Steps.length).1.getD i 0 := by
      unfold siz nxt
      have := g.inc i (by omega)
      rw [if_pos hc, few, ints_getD, ints_getD]; omega
    rw [e2]
    exact (g.st i (by omega)).1
  · have ei : i = (gre s 0 s.Steps.length).1.length - 1 := by omega
    have e2 : siz s (few s) i = (gre s 0 s.Steps.length).2 := by
      unfold siz nxt
      have := hok.zero rfl
      rw [if_neg hc, this, few, ints_getD, ei]; omega
    rw [e2, ei]
    exact g.al

/-- the step behind a group moves what has moved in the group -/
theorem few_border {s : SSequence} {i : Nat} (hi : i + 1 < (few s).length) : acc s (fst' (few s) i) (siz s (few s) i) &&& mk s (fst' (few s) (i + 1)) ≠ 0 ∧ fst' (few s) i + siz s (few s) i = fst' (few s) (i + 1) := by
  have g := greedy s 0 s.Steps.length
  have hlen : (few s).length = (gre s 0 s.Steps.length).1.length := ints_len _
  have hinc := g.inc i (by omega)
  have e1 : ∀ j, fst' (few s) j = (gre s 0 s.Steps.length).1.getD j 0 := by
    intro j; unfold fst'; rw [few, ints_getD]; rfl
  have e2 : siz s (few s) i = (gre s 0 s.Steps.length).1.getD (i + 1) 0 - (gre s 0 s.Steps.length).1.getD i 0 := by
    unfold siz nxt
    rw [if_pos hi, few, ints_getD, ints_getD]; omega
  obtain ⟨g1, g2⟩ := g.st i (by omega)
  have hsum : fst' (few s) i + siz s (few s) i = fst' (few s) (i + 1) := by rw [e2, e1, e1]; omega
  refine ⟨fun hc => ?_, hsum⟩
  rw [← e1, ← e1] at g1 g2
  rw [← e1, ← e1] at e2
  rw [← e2] at g1 g2
  rw [← hsum] at hc
  rw [alone_succ.2 ⟨g1, hc⟩] at g2
  simp at g2
end G18

namespace G18
open Go Go.Pl
theorem m21_eq (s : SSequence) (hs : Small s) : ∃ c, m21 s = some c ∧ (c = true → s.Steps.length ≤ 24 ∧ chk s = 0) := by
  unfold m21
  obtain ⟨b, hb⟩ := m11_eq s hs
  rw [hb, m37_eq s hs]
  simp only [Option.bind_some]
  by_cases h : (s.Steps.length : Int) ≤ 24
  · rw [cond_t (by simpa using h)]
    cases b with
    | false => exact ⟨false, rfl, fun h => by simp at h⟩
    | true => exact ⟨chk s == 0, rfl, fun hc => ⟨by omega, by simpa using hc⟩⟩
  · rw [cond_f (by simpa using h)]; exact ⟨false, rfl, fun h => by simp at h⟩
end G18

namespace G18
open Go Go.Pl

def lessB (a b : List Int) : Bool := (first a.length (fun k => if a.getD k 0 = b.getD k 0 then none else some (decide (a.getD k 0 < b.getD k 0)))).getD false

def lsts : Nat → List (List Int)
  | 0 => [[]]
  | i + 1 => lsts i ++ (lsts i).map fun x => x ++ [(i : Int)]

theorem lsts_len : ∀ n, (lsts n).length = 2 ^ n
  | 0 => rfl
  | n + 1 => by rw [lsts, List.length_append, List.length_map, lsts_len n, Nat.pow_succ]; omega
theorem lsts_short : ∀ n, ∀ x ∈ lsts n, x.length ≤ n
  | 0, x, h => by simp [lsts] at h; subst h; simp
  | n + 1, x, h => by
    rw [lsts, List.mem_append, List.mem_map] at h
    rcases h with h | ⟨y, hy, rfl⟩
    · have := lsts_short n x h; omega
    · have := lsts_short n y hy; simp; omega
theorem mem_lsts : ∀ (n : Nat) (x : List Int), (∀ k, k < x.length → 0 ≤ x.getD k 0 ∧ x.getD k 0 < n) → (∀ k, k + 1 < x.length → x.getD k 0 < x.getD (k + 1) 0) → x ∈ lsts n
  | 0, x, h, _ => by
    have : x.length = 0 := by
      refine Classical.byContradiction fun hc => ?_
      have := h 0 (by omega); omega
    rw [List.eq_nil_of_length_eq_zero this]; simp [lsts]
  | n + 1, x, h, hi => by
    rw [lsts, List.mem_append, List.mem_map]
    by_cases hx : x.length = 0
    · exact .inl (mem_lsts n x (fun k hk => by omega) (fun k hk => by omega))
    · have hmono : ∀ k, k + 1 < x.length → x.getD k 0 < x.getD (x.length - 1) 0 := by
        intro k hk
        have key : ∀ d, k + 1 + d < x.length → x.getD k 0 < x.getD (k + 1 + d) 0 := by
          intro d
          induction d with
          | zero => intro hd; exact hi k hd
          | succ d ih =>
            intro hd
            have := ih (by omega)
            have h2 := hi (k + 1 + d) (by omega)
            have e : k + 1 + (d + 1) = k + 1 + d + 1 := rfl
            rw [e]; omega
        have := key (x.length - 1 - (k + 1)) (by omega)
        rwa [show k + 1 + (x.length - 1 - (k + 1)) = x.length - 1 by omega] at this
      by_cases hl : x.getD (x.length - 1) 0 = n
      · refine .inr ⟨x.take (x.length - 1), mem_lsts n _ (fun k hk => ?_) (fun k hk => ?_), ?_⟩
        · rw [List.length_take] at hk
          have h1 := h k (by omega)
          have h2 := hmono k (by omega)
          have e : (x.take (x.length - 1)).getD k 0 = x.getD k 0 := by rw [getD_lt (by rw [List.length_take]; omega), getD_lt (by omega)]; simp
          rw [e]; omega
        · rw [List.length_take] at hk
          have e : ∀ k, k < x.length - 1 → (x.take (x.length - 1)).getD k 0 = x.getD k 0 := by
            intro k hk; rw [getD_lt (by rw [List.length_take]; omega), getD_lt (by omega)]; simp
          rw [e _ (by omega), e _ (by omega)]
          exact hi k (by omega)
        · rw [← hl, getD_lt (show x.length - 1 < x.length by omega)]
          have e : x = x.take (x.length - 1 + 1) := by rw [List.take_of_length_le (by omega)]
          conv => rhs; rw [e]
          rw [List.take_add_one, List.getElem?_eq_getElem (show x.length - 1 < x.length by omega)]
          rfl
      · refine .inl (mem_lsts n x (fun k hk => ⟨(h k hk).1, ?_⟩) hi)
        have h1 := h (x.length - 1) (by omega)
        by_cases hk2 : k + 1 < x.length
        · have := hmono k hk2; omega
        · have : k = x.length - 1 := by omega
          subst this; omega

theorem m18_refl (l : List Int) (h : l.length ≤ 1000000) : m18 l l = some true := by
  unfold m18
  rw [cond_f (by simp)]
  rw [iter_list l (fun _ => (none : Option Bool)) ?hn () ?h0 ?h ?he]
  case hn => unfold fuel; omega
  case h0 => rfl
  case he =>
    try dsimp only
    rw [cond_f (lt_f (by omega))]
  case h =>
    intro k hk
    try dsimp only
    rw [cond_t (lt_t (by omega)), idx_lt hk]
    simp only [Option.bind_some]
    rw [cond_f (by simp), addI_nat (by omega)]
  have : l.findSome? (fun _ => (none : Option Bool)) = none := by simp [List.findSome?_eq_none_iff]
  rw [this]; rfl

end G18

namespace G18
open Go Go.Pl
set_option linter.unusedVariables false

theorem alone_in {s : SSequence} {f k g m : Nat} (h : alone s f k = true) (h1 : f ≤ g) (h2 : g + m ≤ f + k) : alone s g m = true := by
  rw [alone_iff] at h ⊢
  intro i hi j hj
  have := h (g - f + i) (by omega) (g - f + j) (by omega)
  rw [show f + (g - f + i) = g + i by omega, show f + (g - f + j) = g + j by omega] at this
  exact this
theorem alone_zero (s : SSequence) (f : Nat) : alone s f 0 = true := by
  rw [alone_iff]; intro i hi; omega
theorem alone_one' (s : SSequence) (f : Nat) : alone s f 1 = true := by
  rw [alone_iff]; intro i hi j hj; omega

/-- the greatest group from a step on, of at most m steps -/
def big (s : SSequence) (a : Nat) : Nat → Nat
  | 0 => 0
  | m + 1 => if alone s a (m + 1) = true then m + 1 else big s a m
theorem big_le (s : SSequence) (a : Nat) : ∀ m, big s a m ≤ m
  | 0 => Nat.le_refl _
  | m + 1 => by
    unfold big; split
    · exact Nat.le_refl _
    · have := big_le s a m; omega
theorem big_al (s : SSequence) (a : Nat) : ∀ m, alone s a (big s a m) = true
  | 0 => alone_zero s a
  | m + 1 => by
    unfold big; split
    · assumption
    · exact big_al s a m
theorem big_max {s : SSequence} {a z : Nat} : ∀ m, z ≤ m → alone s a z = true → z ≤ big s a m
  | 0, h, _ => h
  | m + 1, h, ha => by
    unfold big; split
    · exact h
    · rename_i hn
      by_cases e : z = m + 1
      · subst e; exact (hn ha).elim
      · exact big_max m (by omega) ha
theorem big_pos {s : SSequence} {a m : Nat} (h : 0 < m) : 0 < big s a m := big_max m h (alone_one' s a)

/-- how many groups some steps need at least -/
def need (s : SSequence) : Nat → Nat → Nat → Nat
  | 0, _, _ => 0
  | f + 1, a, b => if a < b then need s f (a + big s a (b - a)) b + 1 else 0

/-- some steps in m groups -/
inductive Cov (s : SSequence) : Nat → Nat → Nat → Prop where
  | nil (a : Nat) : Cov s a a 0
  | cons {a c b m : Nat} (h1 : a < c) (h2 : alone s a (c - a) = true) (h3 : Cov s c b m) : Cov s a b (m + 1)

theorem Cov.le {s : SSequence} {a b m : Nat} (h : Cov s a b m) : a ≤ b := by
  induction h with
  | nil a => exact Nat.le_refl _
  | cons h1 h2 h3 ih => omega

theorem need_zero (s : SSequence) (f : Nat) {a b : Nat} (h : ¬ a < b) : need s f a b = 0 := by
  cases f with
  | zero => rfl
  | succ f => unfold need; rw [if_neg h]

theorem need_le {s : SSequence} {a b m : Nat} (h : Cov s a b m) : ∀ (f a' : Nat), a ≤ a' → b - a' ≤ f → need s f a' b ≤ m := by
  induction h with
  | nil a => intro f a' h1 h2; rw [need_zero s f (by omega)]; exact Nat.le_refl _
  | cons h1 h2 h3 ih =>
    rename_i a c b m
    intro f a' h4 h5
    by_cases hc : c ≤ a'
    · exact Nat.le_succ_of_le (ih f a' hc h5)
    · have hcb := h3.le
      cases f with
      | zero => omega
      | succ f =>
        unfold need
        rw [if_pos (by omega)]
        have hb : c - a' ≤ big s a' (b - a') := big_max _ (by omega) (alone_in h2 h4 (by omega))
        have := ih f (a' + big s a' (b - a')) (by omega) (by omega)
        omega

theorem need_cov (s : SSequence) : ∀ (f a b : Nat), a ≤ b → b - a ≤ f → Cov s a b (need s f a b)
  | 0, a, b, h, hf => by
    have : a = b := by omega
    subst this; exact .nil a
  | f + 1, a, b, h, hf => by
    unfold need
    by_cases hab : a < b
    · rw [if_pos hab]
      have hp := big_pos (s := s) (a := a) (m := b - a) (by omega)
      have hl := big_le s a (b - a)
      refine .cons (c := a + big s a (b - a)) (by omega) ?_ (need_cov s f _ b (by omega) (by omega))
      rw [Nat.add_sub_cancel_left]
      exact big_al s a (b - a)
    · rw [if_neg hab]
      have : a = b := by omega
      subst this; exact .nil a

theorem need_one {s : SSequence} {f a b : Nat} (hab : a < b) (hf : b - a ≤ f) (h : need s f a b ≤ 1) : alone s a (b - a) = true := by
  have hc := need_cov s f a b (by omega) hf
  generalize need s f a b = m at h hc
  cases hc with
  | nil => omega
  | cons h1 h2 h3 =>
    cases h3 with
    | nil => exact h2
    | cons _ _ h6 => omega

/- lists of first steps -/
def hd (l : List Nat) : Nat := l.headD 0
def lst (l : List Nat) : Nat := l.getLastD 0

/-- the first steps of some groups, one behind the other -/
structure Pre (s : SSequence) (l : List Nat) : Prop where
  ne : l ≠ []
  lt : ∀ x ∈ l, x < s.Steps.length
  inc : ∀ i (h : i + 1 < l.length), l[i] < l[i + 1]
  al : ∀ i (h : i + 1 < l.length), alone s l[i] (l[i + 1] - l[i]) = true

/-- a ring -/
structure Rng (s : SSequence) (l : List Nat) : Prop where
  pre : Pre s l
  cl : alone s (lst l) (hd l + s.Steps.length - lst l) = true

def lexlt (a b : List Nat) : Prop := ∃ j, ∃ h1 : j < a.length, ∃ h2 : j < b.length, a.take j = b.take j ∧ a[j] < b[j]

/-- the first steps that may be next -/
def nexts (s : SSequence) (a : Nat) : List Nat := (List.range' (a + 1) (s.Steps.length - (a + 1))).takeWhile fun k => alone s a (k - a)

def walkP (s : SSequence) (fw : Nat) : Nat → List Nat → Option (List Nat)
  | d, l => if l.length - 1 + need s s.Steps.length (lst l) (hd l + s.Steps.length) > fw then none else if l.length = fw then some l else match d with
    | 0 => none
    | d + 1 => (nexts s (lst l)).findSome? fun k => walkP s fw d (l ++ [k])

theorem lst_app (l : List Nat) (k : Nat) : lst (l ++ [k]) = k := by simp [lst]
theorem hd_app {l : List Nat} (h : l ≠ []) (k : Nat) : hd (l ++ [k]) = hd l := by
  cases l with
  | nil => exact (h rfl).elim
  | cons x l => rfl
theorem lst_get {l : List Nat} (h : l ≠ []) : lst l = l[l.length - 1]'(by cases l with | nil => exact (h rfl).elim | cons x l => simp) := by
  unfold lst
  rw [List.getLastD_eq_getLast?, List.getLast?_eq_getElem?, List.getElem?_eq_getElem (by cases l with | nil => exact (h rfl).elim | cons x l => simp), Option.getD_some]
theorem hd_get {l : List Nat} (h : l ≠ []) : hd l = l[0]'(by cases l with | nil => exact (h rfl).elim | cons x l => simp) := by
  cases l with
  | nil => exact (h rfl).elim
  | cons x l => rfl

theorem Pre.mono {s : SSequence} {l : List Nat} (h : Pre s l) : ∀ (j i : Nat) (hij : i ≤ j) (hj : j < l.length), l[i]'(by omega) ≤ l[j]
  | 0, i, hij, hj => by have : i = 0 := by omega
                        subst this; exact Nat.le_refl _
  | j + 1, i, hij, hj => by
    by_cases e : i = j + 1
    · subst e; exact Nat.le_refl _
    · have := h.mono j i (by omega) (by omega)
      have := h.inc j hj
      omega

theorem Pre.app {s : SSequence} {l : List Nat} (h : Pre s l) {k : Nat} (h1 : lst l < k) (h2 : k < s.Steps.length) (h3 : alone s (lst l) (k - lst l) = true) : Pre s (l ++ [k]) := by
  have hl := lst_get h.ne
  have hpos : 0 < l.length := List.length_pos_iff.2 h.ne
  refine ⟨by simp, fun x hx => ?_, fun i hi => ?_, fun i hi => ?_⟩
  · simp only [List.mem_append, List.mem_singleton] at hx
    rcases hx with hx | rfl
    · exact h.lt x hx
    · exact h2
  · simp only [List.length_append, List.length_singleton] at hi
    by_cases e : i + 1 < l.length
    · rw [List.getElem_append_left (by omega), List.getElem_append_left e]; exact h.inc i e
    · have : i = l.length - 1 := by omega
      subst this
      rw [List.getElem_append_left (by omega), List.getElem_append_right (by omega)]
      simp only [show l.length - 1 + 1 - l.length = 0 by omega, List.getElem_cons_zero]
      rw [← hl]; exact h1
  · simp only [List.length_append, List.length_singleton] at hi
    by_cases e : i + 1 < l.length
    · have := h.al i e
      simp only [List.getElem_append_left e, List.getElem_append_left (show i < l.length by omega)]; exact this
    · have : i = l.length - 1 := by omega
      subst this
      simp only [List.getElem_append_left (show l.length - 1 < l.length by omega), List.getElem_append_right (show l.length ≤ l.length - 1 + 1 by omega), show l.length - 1 + 1 - l.length = 0 by omega, List.getElem_cons_zero]
      rw [← hl]; exact h3

/-- what is behind a place of a ring, in groups -/
theorem Rng.cov {s : SSequence} {x : List Nat} (h : Rng s x) : ∀ (d j : Nat) (hj : j < x.length), x.length - 1 - j = d → Cov s x[j] (hd x + s.Steps.length) (x.length - j)
  | 0, j, hj, hd0 => by
    have e : j = x.length - 1 := by omega
    have hl := lst_get h.pre.ne
    subst e
    have hlt := h.pre.lt _ (List.getElem_mem hj)
    rw [show x.length - (x.length - 1) = 0 + 1 by omega]
    refine .cons (c := hd x + s.Steps.length) (by omega) ?_ (.nil _)
    rw [← hl]; exact h.cl
  | d + 1, j, hj, hd1 => by
    have hj1 : j + 1 < x.length := by omega
    have := h.cov d (j + 1) hj1 (by omega)
    rw [show x.length - j = (x.length - (j + 1)) + 1 by omega]
    exact .cons (h.pre.inc j hj1) (h.pre.al j hj1) this

theorem mem_nexts {s : SSequence} {a k : Nat} (h1 : a < k) (h2 : k < s.Steps.length) (h3 : alone s a (k - a) = true) : ∃ i, ∃ hi : i < (nexts s a).length, (nexts s a)[i] = k ∧ ∀ j (hj : j < i), (nexts s a)[j]'(by omega) < k := by
  have key : ∀ (m b : Nat), b ≤ k → k < b + m → a < b → ∃ i, ∃ hi : i < ((List.range' b m).takeWhile fun k => alone s a (k - a)).length, ((List.range' b m).takeWhile fun k => alone s a (k - a))[i] = k ∧
      ∀ j (hj : j < i), ((List.range' b m).takeWhile fun k => alone s a (k - a))[j]'(by omega) < k := by
    intro m
    induction m with
    | zero => intro b hb hk; omega
    | succ m ih =>
      intro b hb hk hab
      have hal : alone s a (b - a) = true := alone_in h3 (Nat.le_refl _) (by omega)
      have e : ((List.range' b (m + 1)).takeWhile fun k => alone s a (k - a)) = b :: ((List.range' (b + 1) m).takeWhile fun k => alone s a (k - a)) := by
        rw [List.range'_succ, List.takeWhile_cons, if_pos hal]
      by_cases hbk : b = k
      · refine ⟨0, by rw [e]; simp, ?_, fun j hj => by omega⟩
        simp only [e, List.getElem_cons_zero]; exact hbk
      · obtain ⟨i, hi, q1, q2⟩ := ih (b + 1) (by omega) (by omega) (by omega)
        refine ⟨i + 1, by rw [e]; simpa using hi, ?_, fun j hj => ?_⟩
        · simp only [e, List.getElem_cons_succ]; exact q1
        · cases j with
          | zero => simp only [e, List.getElem_cons_zero]; omega
          | succ j => simp only [e, List.getElem_cons_succ]; exact q2 j (by omega)
  exact key _ (a + 1) (by omega) (by omega) (by omega)

theorem nexts_ok {s : SSequence} {a k : Nat} (h : k ∈ nexts s a) : a < k ∧ k < s.Steps.length ∧ alone s a (k - a) = true := by
  unfold nexts at h
  have h1 := (List.takeWhile_sublist _).subset h
  have key : ∀ l : List Nat, k ∈ l.takeWhile (fun k => alone s a (k - a)) → alone s a (k - a) = true := by
    intro l
    induction l with
    | nil => intro h; simp at h
    | cons x l ih =>
      intro h
      rw [List.takeWhile_cons] at h
      split at h
      · rename_i hx
        rw [List.mem_cons] at h
        rcases h with rfl | h
        · exact hx
        · exact ih h
      · simp at h
  have h2 := key _ h
  rw [List.mem_range'_1] at h1
  exact ⟨by omega, by omega, h2⟩

theorem find_first {α β : Type} (f : α → Option β) : ∀ (l : List α) (i : Nat) (hi : i < l.length) (y : β), f l[i] = some y → ∃ j, ∃ hj : j ≤ i, ∃ y', f (l[j]'(by omega)) = some y' ∧ l.findSome? f = some y'
  | x :: l, i, hi, y, h => by
    cases e : f x with
    | some v => exact ⟨0, Nat.zero_le _, v, e, by rw [List.findSome?_cons, e]⟩
    | none =>
      cases i with
      | zero => simp only [List.getElem_cons_zero] at h; rw [e] at h; simp at h
      | succ i =>
        obtain ⟨j, hj, y', h1, h2⟩ := find_first f l i (by simpa using hi) y (by simpa using h)
        exact ⟨j + 1, by omega, y', by simpa using h1, by rw [List.findSome?_cons, e]; exact h2⟩

theorem walkP_eq (s : SSequence) (fw d : Nat) (l : List Nat) : walkP s fw d l = if l.length - 1 + need s s.Steps.length (lst l) (hd l + s.Steps.length) > fw then none else if l.length = fw then some l else match d with
    | 0 => none
    | d + 1 => (nexts s (lst l)).findSome? fun k => walkP s fw d (l ++ [k]) := by
  cases d <;> rfl

/-- what is found is a ring -/
theorem walk_ok {s : SSequence} {fw : Nat} : ∀ (d : Nat) (l y : List Nat), Pre s l → hd l ≤ lst l → walkP s fw d l = some y → Rng s y ∧ y.length = fw ∧ ∃ r, y = l ++ r := by
  intro d
  induction d with
  | zero =>
    intro l y hp hle h
    rw [walkP_eq] at h
    split at h
    · simp at h
    rename_i hn
    split at h
    · rename_i hfw
      injection h with h; subst h
      have hlt := hp.lt _ (List.getElem_mem (show l.length - 1 < l.length by have := List.length_pos_iff.2 hp.ne; omega))
      rw [← lst_get hp.ne] at hlt
      have hpos : 0 < l.length := List.length_pos_iff.2 hp.ne
      exact ⟨⟨hp, need_one (f := s.Steps.length) (by omega) (by omega) (by omega)⟩, hfw, [], by simp⟩
    · simp at h
  | succ d ih =>
    intro l y hp hle h
    rw [walkP_eq] at h
    split at h
    · simp at h
    rename_i hn
    split at h
    · rename_i hfw
      injection h with h; subst h
      have hlt := hp.lt _ (List.getElem_mem (show l.length - 1 < l.length by have := List.length_pos_iff.2 hp.ne; omega))
      rw [← lst_get hp.ne] at hlt
      have hpos : 0 < l.length := List.length_pos_iff.2 hp.ne
      exact ⟨⟨hp, need_one (f := s.Steps.length) (by omega) (by omega) (by omega)⟩, hfw, [], by simp⟩
    · obtain ⟨k, hk, hw⟩ := List.exists_of_findSome?_eq_some h
      obtain ⟨k1, k2, k3⟩ := nexts_ok hk
      obtain ⟨q1, q2, r, q3⟩ := ih (l ++ [k]) y (hp.app k1 k2 k3) (by rw [lst_app, hd_app hp.ne]; omega) hw
      exact ⟨q1, q2, k :: r, by rw [q3]; simp⟩

/-- a ring is found, and none that is greater -/
theorem walk_finds {s : SSequence} {fw : Nat} : ∀ (d : Nat) (l x : List Nat), Pre s l → hd l ≤ lst l → Rng s x → x.length = fw → l.length + d = fw → (∃ r, x = l ++ r) → ∃ y, walkP s fw d l = some y ∧ (y = x ∨ lexlt y x) := by
  intro d
  induction d with
  | zero =>
    intro l x hp hle hx hxl hd0 ⟨r, hr⟩
    have hr0 : r = [] := by
      have := congrArg List.length hr
      simp at this
      exact List.length_eq_zero_iff.1 (by omega)
    subst hr0
    simp only [List.append_nil] at hr
    subst hr
    refine ⟨x, ?_, .inl rfl⟩
    have hpos : 0 < x.length := List.length_pos_iff.2 hp.ne
    have hcov := hx.cov 0 (x.length - 1) (by omega) (by omega)
    rw [← lst_get hp.ne] at hcov
    have hlt := hp.lt _ (List.getElem_mem (show x.length - 1 < x.length by omega))
    rw [← lst_get hp.ne] at hlt
    have := need_le hcov s.Steps.length (lst x) (Nat.le_refl _) (by omega)
    rw [walkP_eq, if_neg (by omega), if_pos hxl]
  | succ d ih =>
    intro l x hp hle hx hxl hd1 ⟨r, hr⟩
    have hpos : 0 < l.length := List.length_pos_iff.2 hp.ne
    have hlx : l.length < x.length := by omega
    have hxl' : ∀ i (hi : i < l.length), x[i]'(by omega) = l[i] := by
      intro i hi; subst hr; rw [List.getElem_append_left hi]
    have hhd : hd x = hd l := by
      rw [hd_get hx.pre.ne, hd_get hp.ne, hxl' 0 hpos]
    have hcov := hx.cov (x.length - 1 - (l.length - 1)) (l.length - 1) (by omega) rfl
    have hxe : x[l.length - 1]'(by omega) = lst l := by rw [hxl' _ (by omega), lst_get hp.ne]
    rw [hxe, hhd] at hcov
    have hneed := need_le hcov s.Steps.length (lst l) (Nat.le_refl _) (by omega)
    rw [walkP_eq, if_neg (by omega), if_neg (by omega)]
    -- the next one
    have hinc := hx.pre.inc (l.length - 1) (by omega)
    have hal := hx.pre.al (l.length - 1) (by omega)
    have hk : x[l.length - 1 + 1]'(by omega) = x[l.length]'hlx := by congr 1; omega
    simp only [hxe, hk] at hinc hal
    have hklt := hx.pre.lt _ (List.getElem_mem hlx)
    obtain ⟨i, hi, q1, q2⟩ := mem_nexts hinc hklt hal
    have hext : ∃ r', x = l ++ [x[l.length]'hlx] ++ r' := by
      cases r with
      | nil => simp at hr; have := congrArg List.length hr; omega
      | cons k r =>
        refine ⟨r, ?_⟩
        have : x[l.length]'hlx = k := by
          have e : x[l.length]? = some k := by rw [hr]; simp
          rw [List.getElem?_eq_getElem hlx] at e
          exact Option.some.inj e
        rw [this, hr]; simp
    obtain ⟨y0, hy0, _⟩ := ih (l ++ [x[l.length]'hlx]) x (hp.app hinc hklt hal) (by rw [lst_app, hd_app hp.ne]; omega) hx hxl (by simp; omega) hext
    obtain ⟨j, hj, y', hy', hfind⟩ := find_first (fun k => walkP s fw d (l ++ [k])) (nexts s (lst l)) i hi y0 (by rw [q1]; exact hy0)
    refine ⟨y', hfind, ?_⟩
    by_cases hji : j = i
    · subst hji
      rw [q1] at hy'
      obtain ⟨y1, hy1, hor⟩ := ih (l ++ [x[l.length]'hlx]) x (hp.app hinc hklt hal) (by rw [lst_app, hd_app hp.ne]; omega) hx hxl (by simp; omega) hext
      rw [hy1] at hy'
      injection hy' with hy'
      subst hy'
      exact hor
    · have hlt := q2 j (by omega)
      obtain ⟨k1, k2, k3⟩ := nexts_ok (List.getElem_mem (show j < (nexts s (lst l)).length by omega))
      obtain ⟨_, hyl, r2, hr2⟩ := walk_ok d _ y' (hp.app k1 k2 k3) (by rw [lst_app, hd_app hp.ne]; omega) hy'
      right
      refine ⟨l.length, by rw [hr2]; simp, hlx, ?_, ?_⟩
      · have e1 : y'.take l.length = l := by rw [hr2, List.append_assoc, List.take_left]
        have e2 : x.take l.length = l := by
          have := congrArg (List.take l.length) hr
          rwa [List.take_left] at this
        exact e1.trans e2.symm
      · have : y'[l.length]'(by rw [hr2]; simp) = (nexts s (lst l))[j]'(by omega) := by
          simp only [hr2, List.append_assoc]
          rw [List.getElem_append_right (Nat.le_refl _)]
          simp
        rw [this]; exact hlt
end G18

namespace G18
open Go Go.Pl
set_option linter.unusedVariables false

/-- groups one behind the other, up to an end -/
def Ch (s : SSequence) : Nat → List Nat → Nat → Prop
  | a, [], b => a < b ∧ alone s a (b - a) = true
  | a, k :: l, b => a < k ∧ alone s a (k - a) = true ∧ Ch s k l b

theorem Ch.app {s : SSequence} {k b : Nat} {r : List Nat} : ∀ (l : List Nat) (a : Nat), Ch s a l k → Ch s k r b → Ch s a (l ++ k :: r) b
  | [], a, h, h2 => ⟨h.1, h.2, h2⟩
  | x :: l, a, h, h2 => ⟨h.1, h.2.1, Ch.app l x h.2.2 h2⟩
theorem Ch.split {s : SSequence} {k b : Nat} {r : List Nat} : ∀ (l : List Nat) (a : Nat), Ch s a (l ++ k :: r) b → Ch s a l k ∧ Ch s k r b
  | [], a, h => ⟨⟨h.1, h.2.1⟩, h.2.2⟩
  | x :: l, a, h => by
    obtain ⟨h1, h2⟩ := Ch.split l x h.2.2
    exact ⟨⟨h.1, h.2.1, h1⟩, h2⟩
theorem mk_per (s : SSequence) (i : Nat) : mk s (i + s.Steps.length) = mk s i := by
  unfold mk stp; rw [Nat.add_mod_right]
theorem alone_per (s : SSequence) (f k : Nat) : alone s (f + s.Steps.length) k = alone s f k := by
  rw [Bool.eq_iff_iff, alone_iff, alone_iff]
  have e : ∀ i, mk s (f + s.Steps.length + i) = mk s (f + i) := fun i => by rw [show f + s.Steps.length + i = f + i + s.Steps.length by omega, mk_per]
  simp only [e]
theorem Ch.back {s : SSequence} : ∀ (l : List Nat) (a b : Nat), s.Steps.length ≤ a → Ch s a l b → Ch s (a - s.Steps.length) (l.map fun x => x - s.Steps.length) (b - s.Steps.length)
  | [], a, b, ha, h => by
    refine ⟨by have := h.1; omega, ?_⟩
    have h2 := h.2
    rw [show b - s.Steps.length - (a - s.Steps.length) = b - a by omega, ← alone_per, Nat.sub_add_cancel ha]; exact h2
  | x :: l, a, b, ha, h => by
    have h1 := h.1
    have h2 := h.2.1
    show a - s.Steps.length < x - s.Steps.length ∧ alone s (a - s.Steps.length) (x - s.Steps.length - (a - s.Steps.length)) = true ∧ _
    refine ⟨by omega, ?_, Ch.back l x b (by omega) h.2.2⟩
    rw [show x - s.Steps.length - (a - s.Steps.length) = x - a by omega, ← alone_per, Nat.sub_add_cancel ha]; exact h2
theorem Ch.gt {s : SSequence} {b : Nat} : ∀ (l : List Nat) (a : Nat), Ch s a l b → a < b ∧ ∀ x ∈ l, a < x ∧ x < b
  | [], a, h => ⟨h.1, fun x hx => by simp at hx⟩
  | k :: l, a, h => by
    obtain ⟨h1, h2⟩ := Ch.gt l k h.2.2
    have := h.1
    refine ⟨by omega, fun x hx => ?_⟩
    rw [List.mem_cons] at hx
    rcases hx with rfl | hx
    · exact ⟨h.1, h1⟩
    · have := h2 x hx; omega

/-- where the first step behind n is -/
theorem Ch.cut {s : SSequence} {b n : Nat} : ∀ (l : List Nat) (a : Nat), Ch s a l b → (∀ x ∈ l, x < n) ∨ ∃ u k w, l = u ++ k :: w ∧ (∀ x ∈ u, x < n) ∧ n ≤ k
  | [], a, h => .inl (fun x hx => by simp at hx)
  | k :: l, a, h => by
    by_cases hk : k < n
    · rcases Ch.cut (n := n) l k h.2.2 with h1 | ⟨u, k2, w, e, h1, h2⟩
      · exact .inl fun x hx => by
          rw [List.mem_cons] at hx
          rcases hx with rfl | hx
          · exact hk
          · exact h1 x hx
      · refine .inr ⟨k :: u, k2, w, by rw [e]; rfl, fun x hx => ?_, h2⟩
        rw [List.mem_cons] at hx
        rcases hx with rfl | hx
        · exact hk
        · exact h1 x hx
    · exact .inr ⟨[], k, l, rfl, fun x hx => by simp at hx, by omega⟩

theorem Ch.rng {s : SSequence} {b : Nat} : ∀ (l : List Nat) (p : List Nat), Pre s p → Ch s (lst p) l b → (∀ x ∈ l, x < s.Steps.length) → Pre s (p ++ l) ∧ alone s (lst (p ++ l)) (b - lst (p ++ l)) = true
  | [], p, hp, h, _ => by rw [List.append_nil]; exact ⟨hp, h.2⟩
  | k :: l, p, hp, h, hl => by
    have h1 := hp.app h.1 (hl k (by simp)) h.2.1
    have := Ch.rng l (p ++ [k]) h1 (by rw [lst_app]; exact h.2.2) (fun x hx => hl x (by simp [hx]))
    rwa [List.append_assoc] at this
theorem Pre.one {s : SSequence} {a : Nat} (h : a < s.Steps.length) : Pre s [a] :=
  ⟨by simp, fun x hx => by simp at hx; omega, fun i hi => by simp at hi, fun i hi => by simp at hi⟩
theorem Rng.of_ch {s : SSequence} {a : Nat} {l : List Nat} (ha : a < s.Steps.length) (hl : ∀ x ∈ l, x < s.Steps.length) (h : Ch s a l (a + s.Steps.length)) : Rng s (a :: l) := by
  obtain ⟨h1, h2⟩ := Ch.rng l [a] (.one ha) h hl
  exact ⟨h1, h2⟩

theorem Cov.ch {s : SSequence} {a b m : Nat} (h : Cov s a b m) (hab : a < b) : ∃ l : List Nat, l.length + 1 = m ∧ Ch s a l b := by
  induction h with
  | nil a => omega
  | cons h1 h2 h3 ih =>
    rename_i a c b m
    by_cases hc : c < b
    · obtain ⟨l, e, h4⟩ := ih hc
      exact ⟨c :: l, by simp [e], h1, h2, h4⟩
    · have := h3.le
      have : c = b := by omega
      subst this
      cases h3 with
      | nil => exact ⟨[], rfl, h1, h2⟩
      | cons q1 q2 q3 => have := q3.le; omega

/-- from groups around the cycle, a ring of as many -/
theorem ring_of_cov {s : SSequence} {a m : Nat} (ha : a < s.Steps.length) (h : Cov s a (a + s.Steps.length) m) : ∃ x, Rng s x ∧ x.length = m := by
  obtain ⟨l, e, hc⟩ := h.ch (by omega)
  rcases hc.cut (n := s.Steps.length) with hl | ⟨u, k, w, hl, hu, hk⟩
  · exact ⟨a :: l, .of_ch ha hl hc, by simp [e]⟩
  · subst hl
    obtain ⟨c1, c2⟩ := Ch.split u a hc
    have c3 := Ch.back w k _ hk c2
    have hgw := (Ch.gt w k c2).2
    have hk2 := (Ch.gt w k c2).1
    rw [Nat.add_sub_cancel] at c3
    refine ⟨(k - s.Steps.length) :: ((w.map fun x => x - s.Steps.length) ++ a :: u), .of_ch (by omega) (fun x hx => ?_) ?_, ?_⟩
    · simp only [List.mem_append, List.mem_map, List.mem_cons] at hx
      rcases hx with ⟨y, hy, rfl⟩ | rfl | hx
      · have := hgw y hy; omega
      · exact ha
      · exact hu x hx
    · rw [Nat.sub_add_cancel hk]
      exact Ch.app _ _ c3 c1
    · rw [← e]; simp; omega

/- as long as possible: as few as possible -/
def glen (s : SSequence) (f : Nat) : Nat := (gre s f s.Steps.length).1.length

theorem glen_le {s : SSequence} (hn : 0 < s.Steps.length) {f m : Nat} (h : Cov s f (f + s.Steps.length) m) : glen s f ≤ m := by
  have g := greedy s f s.Steps.length
  unfold glen
  generalize (gre s f s.Steps.length).1 = o at g ⊢
  generalize (gre s f s.Steps.length).2 = z at g
  have hz := g.zp hn
  have hsz := g.sz
  have hne := g.ne
  have key : ∀ {a b m : Nat}, Cov s a b m → b = f + s.Steps.length → ∀ j, j < o.length → a ≤ o.getD j 0 → o.length - j ≤ m := by
    intro a b m h
    induction h with
    | nil a =>
      intro hb j hj ha
      have := g.last j hj
      omega
    | cons h1 h2 h3 ih =>
      rename_i a c b m
      intro hb j hj ha
      by_cases hj1 : j + 1 < o.length
      · by_cases hc : c ≤ o.getD (j + 1) 0
        · have := ih hb (j + 1) hj1 hc; omega
        · exfalso
          have hst := (g.st j hj1).2
          have hinc := g.inc j hj1
          rw [alone_in h2 ha (by omega)] at hst
          simp at hst
      · omega
  have := key h rfl 0 hne (by have := g.hd; omega)
  omega

theorem glen_cov {s : SSequence} (hn : 0 < s.Steps.length) (f : Nat) : Cov s f (f + s.Steps.length) (glen s f) := by
  have g := greedy s f s.Steps.length
  unfold glen
  generalize (gre s f s.Steps.length).1 = o at g ⊢
  generalize (gre s f s.Steps.length).2 = z at g
  have hz := g.zp hn
  have hsz := g.sz
  have hne := g.ne
  have key : ∀ d j, j < o.length → o.length - 1 - j = d → Cov s (o.getD j 0) (f + s.Steps.length) (o.length - j) := by
    intro d
    induction d with
    | zero =>
      intro j hj hd
      have e : j = o.length - 1 := by omega
      subst e
      rw [show o.length - (o.length - 1) = 0 + 1 by omega]
      refine .cons (c := f + s.Steps.length) (by omega) ?_ (.nil _)
      rw [show f + s.Steps.length - o.getD (o.length - 1) 0 = z by omega]
      exact g.al
    | succ d ih =>
      intro j hj hd
      have hj1 : j + 1 < o.length := by omega
      have := ih (j + 1) hj1 (by omega)
      rw [show o.length - j = (o.length - (j + 1)) + 1 by omega]
      exact .cons (g.inc j hj1) (g.st j hj1).1 this
  have := key _ 0 hne rfl
  rwa [g.hd, Nat.sub_zero] at this

theorem cov_ones (s : SSequence) (a : Nat) : ∀ m, Cov s a (a + m) m := by
  intro m
  induction m generalizing a with
  | zero => exact .nil a
  | succ m ih =>
    refine .cons (c := a + 1) (by omega) ?_ ?_
    · rw [Nat.add_sub_cancel_left]; exact alone_one' s a
    · have := ih (a + 1)
      rwa [show a + 1 + m = a + (m + 1) by omega] at this

/-- how many groups the fewest ring has -/
def fwk (s : SSequence) (k : Nat) : Nat := (List.range k).foldl (fun m f => min m (glen s f)) s.Steps.length
def fw (s : SSequence) : Nat := fwk s s.Steps.length
theorem fwk_succ (s : SSequence) (k : Nat) : fwk s (k + 1) = min (fwk s k) (glen s k) := by
  unfold fwk; rw [List.range_succ, List.foldl_append]; rfl
theorem fwk_le {s : SSequence} {f : Nat} : ∀ k, f < k → fwk s k ≤ glen s f
  | 0, h => by omega
  | k + 1, h => by
    rw [fwk_succ]
    by_cases e : f = k
    · subst e; exact Nat.min_le_right _ _
    · exact Nat.le_trans (Nat.min_le_left _ _) (fwk_le k (by omega))
theorem fwk_at (s : SSequence) : ∀ k, fwk s k = s.Steps.length ∨ ∃ f, f < k ∧ fwk s k = glen s f
  | 0 => .inl rfl
  | k + 1 => by
    rw [fwk_succ]
    rcases Nat.le_total (fwk s k) (glen s k) with h | h
    · rw [Nat.min_eq_left h]
      rcases fwk_at s k with h1 | ⟨f, h1, h2⟩
      · exact .inl h1
      · exact .inr ⟨f, by omega, h2⟩
    · rw [Nat.min_eq_right h]; exact .inr ⟨k, by omega, rfl⟩
theorem fwk_n (s : SSequence) : ∀ k, fwk s k ≤ s.Steps.length
  | 0 => Nat.le_refl _
  | k + 1 => by rw [fwk_succ]; exact Nat.le_trans (Nat.min_le_left _ _) (fwk_n s k)
theorem fw_at {s : SSequence} (hn : 0 < s.Steps.length) : ∃ f, f < s.Steps.length ∧ fw s = glen s f := by
  rcases fwk_at s s.Steps.length with h | h
  · have h1 := fwk_le (s := s) (f := 0) s.Steps.length hn
    have h2 := glen_le hn (f := 0) (cov_ones s 0 s.Steps.length)
    exact ⟨0, hn, by unfold fw; omega⟩
  · exact h
theorem fw_pos {s : SSequence} (hn : 0 < s.Steps.length) : 0 < fw s := by
  obtain ⟨f, _, e⟩ := fw_at hn
  rw [e]; exact (greedy s f s.Steps.length).ne

theorem Rng.hd_lt {s : SSequence} {x : List Nat} (h : Rng s x) : hd x < s.Steps.length := by
  rw [hd_get h.pre.ne]; exact h.pre.lt _ (List.getElem_mem _)
theorem Rng.len {s : SSequence} {x : List Nat} (h : Rng s x) : fw s ≤ x.length := by
  have hn : 0 < s.Steps.length := by have := h.hd_lt; omega
  have hpos : 0 < x.length := List.length_pos_iff.2 h.pre.ne
  have hc := h.cov (x.length - 1 - 0) 0 hpos rfl
  rw [← hd_get h.pre.ne] at hc
  exact Nat.le_trans (fwk_le _ h.hd_lt) (glen_le hn hc)
theorem ring_ex {s : SSequence} (hn : 0 < s.Steps.length) : ∃ x, Rng s x ∧ x.length = fw s := by
  obtain ⟨f, hf, e⟩ := fw_at hn
  rw [e]
  exact ring_of_cov hf (glen_cov hn f)

/-- the program's ring -/
def ringP (s : SSequence) : Option (List Nat) := (List.range s.Steps.length).findSome? fun f => walkP s (fw s) (fw s - 1) [f]

theorem ringP_le {s : SSequence} {x : List Nat} (hx : Rng s x) (hl : x.length = fw s) : ∃ y, ringP s = some y ∧ Rng s y ∧ y.length = fw s ∧ (y = x ∨ lexlt y x) := by
  have hn : 0 < s.Steps.length := by have := hx.hd_lt; omega
  have hp := fw_pos hn
  have hlt := hx.hd_lt
  have hext : ∃ r, x = [hd x] ++ r := by
    cases x with
    | nil => simp at hl; omega
    | cons a r => exact ⟨r, rfl⟩
  obtain ⟨y0, hy0, hor⟩ := walk_finds (fw s - 1) [hd x] x (.one hlt) (Nat.le_refl _) hx hl (by simp; omega) hext
  obtain ⟨j, hj, y, hy, hfind⟩ := find_first (fun f => walkP s (fw s) (fw s - 1) [f]) (List.range s.Steps.length) (hd x) (by simpa using hlt) y0 (by simpa using hy0)
  simp only [List.getElem_range] at hy
  obtain ⟨q1, q2, r, q3⟩ := walk_ok _ [j] y (.one (by omega)) (Nat.le_refl _) hy
  refine ⟨y, hfind, q1, q2, ?_⟩
  by_cases hjx : j = hd x
  · subst hjx
    rw [hy0] at hy
    injection hy with hy
    subst hy; exact hor
  · right
    have e1 : y = j :: r := q3
    obtain ⟨r', e2⟩ := hext
    have e3 : x = hd x :: r' := e2
    refine ⟨0, by rw [e1]; simp, by rw [e3]; simp, by simp, ?_⟩
    have a1 : y[0]'(by rw [e1]; simp) = j := by simp only [e1, List.getElem_cons_zero]
    have a2 : x[0]'(by rw [e3]; simp) = hd x := (hd_get hx.pre.ne).symm
    rw [a1, a2]; omega
theorem ringP_ok {s : SSequence} (hn : 0 < s.Steps.length) : ∃ y, ringP s = some y ∧ Rng s y ∧ y.length = fw s := by
  obtain ⟨x, h1, h2⟩ := ring_ex hn
  obtain ⟨y, h3, h4, h5, _⟩ := ringP_le h1 h2
  exact ⟨y, h3, h4, h5⟩

/-- a ring is a division with one group more, at most -/
theorem Rng.div {s : SSequence} {x : List Nat} (h : Rng s x) : ∃ m, m ≤ x.length + 1 ∧ Cov s 0 (0 + s.Steps.length) m := by
  have hpos : 0 < x.length := List.length_pos_iff.2 h.pre.ne
  have hl := lst_get h.pre.ne
  have hlt : lst x < s.Steps.length := by rw [hl]; exact h.pre.lt _ (List.getElem_mem _)
  have hh := hd_get h.pre.ne
  have key : ∀ d j, (hj : j < x.length) → x.length - 1 - j = d → Cov s x[j] (0 + s.Steps.length) (x.length - j) := by
    intro d
    induction d with
    | zero =>
      intro j hj hd
      have e : j = x.length - 1 := by omega
      subst e
      rw [show x.length - (x.length - 1) = 0 + 1 by omega]
      refine .cons (c := 0 + s.Steps.length) (by rw [← hl]; omega) ?_ (.nil _)
      rw [← hl]
      exact alone_in h.cl (Nat.le_refl _) (by omega)
    | succ d ih =>
      intro j hj hd
      have hj1 : j + 1 < x.length := by omega
      have := ih (j + 1) hj1 (by omega)
      rw [show x.length - j = (x.length - (j + 1)) + 1 by omega]
      exact .cons (h.pre.inc j hj1) (h.pre.al j hj1) this
  have hc := key _ 0 hpos rfl
  rw [← hh, Nat.sub_zero] at hc
  by_cases hz : hd x = 0
  · rw [hz] at hc
    exact ⟨_, by omega, hc⟩
  · refine ⟨_, Nat.le_refl _, ?_⟩
    refine .cons (c := hd x) (by omega) ?_ hc
    have hcl := h.cl
    have hx0 : hd x ≤ lst x := by rw [hh, hl]; exact h.pre.mono _ _ (by omega) (by omega)
    have h1 := alone_in hcl (g := s.Steps.length) (m := hd x) (by omega) (by omega)
    have := alone_per s 0 (hd x)
    rw [Nat.zero_add] at this
    rw [this] at h1
    exact h1
end G18

namespace G18
open Go Go.Pl
set_option linter.unusedVariables false

def CanR (s : SSequence) (x : List Int) : Prop := ListOk s x false ∧ rightL s x = true

theorem ints_inj {a b : List Nat} (h : ints a = ints b) : a = b := by
  apply List.ext_getElem
  · have := congrArg List.length h; rwa [ints_len, ints_len] at this
  · intro i h1 h2
    have := congrArg (fun l => l.getD i 0) h
    simp only [ints_getD] at this
    rw [getD_lt h1, getD_lt h2] at this
    omega

theorem ints_fst (o : List Nat) (i : Nat) : fst' (ints o) i = o.getD i 0 := by
  unfold fst'; rw [ints_getD]; rfl

theorem Rng.can {s : SSequence} {x : List Nat} (h : Rng s x) : CanR s (ints x) := by
  have hpos : 0 < x.length := List.length_pos_iff.2 h.pre.ne
  have hbig : ∀ j (hj : j < x.length), j ≤ x[j] := by
    intro j
    induction j with
    | zero => intro _; omega
    | succ j ih => intro hj; have := ih (by omega); have := h.pre.inc j hj; omega
  have hok : ListOk s (ints x) false := by
    refine ⟨by rw [ints_len]; exact hpos, ?_, fun h => by simp at h, fun k hk => ?_, fun k hk => ?_, fun k hk => ?_⟩
    · rw [ints_len]
      have := hbig (x.length - 1) (by omega)
      have := h.pre.lt _ (List.getElem_mem (show x.length - 1 < x.length by omega))
      omega
    · rw [ints_getD]; omega
    · rw [ints_len] at hk
      rw [ints_getD, getD_lt hk]
      have := h.pre.lt _ (List.getElem_mem hk); omega
    · rw [ints_len] at hk
      rw [ints_getD, ints_getD, getD_lt hk, getD_lt (show k < x.length by omega)]
      have := h.pre.inc k hk; omega
  refine ⟨hok, rightL_iff.2 fun i hi => ?_⟩
  rw [ints_len] at hi
  rw [ints_fst, getD_lt hi]
  have hl := lst_get h.pre.ne
  have hh := hd_get h.pre.ne
  by_cases hc : i + 1 < x.length
  · have e : siz s (ints x) i = x[i + 1] - x[i] := by
      unfold siz nxt
      rw [ints_len, if_pos hc, ints_getD, ints_getD, getD_lt hc, getD_lt hi]
      have := h.pre.inc i hc; omega
    rw [e]; exact h.pre.al i hc
  · have ei : i = x.length - 1 := by omega
    subst ei
    have hle : x[0] ≤ x[x.length - 1] := h.pre.mono _ _ (by omega) (by omega)
    have hlt := h.pre.lt _ (List.getElem_mem hi)
    have e : siz s (ints x) (x.length - 1) = hd x + s.Steps.length - lst x := by
      unfold siz nxt
      rw [ints_len, if_neg hc, ints_getD, ints_getD, getD_lt hpos, getD_lt hi, hl, hh]
      omega
    rw [e, ← hl]; exact h.cl

theorem CanR.rng {s : SSequence} {x : List Int} (h : CanR s x) : ∃ y, Rng s y ∧ x = ints y := by
  obtain ⟨hok, hr⟩ := h
  have hpos := hok.pos
  have hg : ∀ i (hi : i < x.length), x[i] = (fst' x i : Int) := by
    intro i hi; rw [← (hok.fst hi).1, getD_lt hi]
  have e : x = ints (x.map Int.toNat) := by
    apply List.ext_getElem
    · rw [ints_len, List.length_map]
    · intro i h1 h2
      have := hok.lo i h1
      rw [getD_lt h1] at this
      simp only [ints, List.getElem_map]; omega
  have hm : ∀ i (hi : i < (x.map Int.toNat).length), (x.map Int.toNat)[i] = fst' x i := by
    intro i hi
    have hi' : i < x.length := by simpa using hi
    unfold fst'; rw [getD_lt hi']; simp
  have hne : x.map Int.toNat ≠ [] := by
    intro hc; have := congrArg List.length hc; rw [List.length_map, List.length_nil] at this; omega
  refine ⟨_, ⟨⟨hne, fun y hy => ?_, fun i hi => ?_, fun i hi => ?_⟩, ?_⟩, e⟩
  · obtain ⟨i, hi, rfl⟩ := List.getElem_of_mem hy
    rw [hm i hi]
    exact (hok.fst (by simpa using hi)).2
  · have hi' : i + 1 < x.length := by simpa using hi
    rw [hm i (by omega), hm (i + 1) hi]
    have := hok.inc i hi'
    have := (hok.fst (show i < x.length by omega)).1
    have := (hok.fst hi').1
    omega
  · have hi' : i + 1 < x.length := by simpa using hi
    rw [hm i (by omega), hm (i + 1) hi]
    have h1 := rightL_iff.1 hr i (by omega)
    have e2 : siz s x i = fst' x (i + 1) - fst' x i := by
      unfold siz nxt
      rw [if_pos hi']
      have := (hok.fst (show i < x.length by omega)).1
      have := (hok.fst hi').1
      omega
    rwa [e2] at h1
  · have hl := lst_get hne
    have hh := hd_get hne
    rw [hm] at hl hh
    rw [List.length_map] at hl
    rw [hl, hh]
    have h1 := rightL_iff.1 hr (x.length - 1) (by omega)
    have e2 : siz s x (x.length - 1) = fst' x 0 + s.Steps.length - fst' x (x.length - 1) := by
      unfold siz nxt
      rw [if_neg (by omega)]
      have := (hok.fst (show x.length - 1 < x.length by omega)).1
      have := (hok.fst hpos).1
      omega
    rwa [e2] at h1

theorem lessB_self (a : List Int) : lessB a a = false := by
  unfold lessB
  rw [first_none]
  · rfl
  · intro k hk; rw [if_pos rfl]

theorem less_lex {a b : List Nat} (h : lexlt a b) (hl : a.length = b.length) : lessB (ints a) (ints b) = true ∧ lessB (ints b) (ints a) = false := by
  obtain ⟨j, h1, h2, ht, hlt⟩ := h
  have heq : ∀ k, k < j → (ints a).getD k 0 = (ints b).getD k 0 := by
    intro k hk
    rw [ints_getD, ints_getD, getD_lt (show k < a.length by omega), getD_lt (show k < b.length by omega)]
    have e : (a.take j)[k]? = (b.take j)[k]? := by rw [ht]
    rw [List.getElem?_take_of_lt hk, List.getElem?_take_of_lt hk, List.getElem?_eq_getElem (show k < a.length by omega), List.getElem?_eq_getElem (show k < b.length by omega)] at e
    rw [Option.some.inj e]
  have g1 : (ints a).getD j 0 = (a[j] : Int) := by rw [ints_getD, getD_lt h1]
  have g2 : (ints b).getD j 0 = (b[j] : Int) := by rw [ints_getD, getD_lt h2]
  unfold lessB
  constructor
  · rw [first_some (k := j) (r := true) (by rw [ints_len]; exact h1) (fun k hk => by rw [if_pos (heq k hk)]) (by rw [g1, g2, if_neg (by omega), decide_eq_true (by omega)])]
    rfl
  · rw [first_some (k := j) (r := false) (by rw [ints_len]; exact h2) (fun k hk => by rw [if_pos (heq k hk).symm]) (by rw [g1, g2, if_neg (by omega), decide_eq_false (by omega)])]
    rfl

def stepR (s : SSequence) (b : Option (List Int)) (x : List Int) : Option (List Int) :=
  if listE s x false = 0 ∧ rightL s x = true then
    match b with
    | none => some x
    | some y => if x.length < y.length ∨ (x.length = y.length ∧ lessB x y = true) then some x else some y
  else b

theorem foldR_can {s : SSequence} : ∀ (L : List (List Int)) (b : Option (List Int)), (∀ y, b = some y → CanR s y) → ∀ y, L.foldl (stepR s) b = some y → CanR s y
  | [], _, hb, y, h => hb y h
  | x :: L, b, hb, y, h => by
    rw [List.foldl_cons] at h
    refine foldR_can L _ (fun z hz => ?_) y h
    unfold stepR at hz
    split at hz
    · rename_i hc
      have hx : CanR s x := ⟨listE_ok hc.1, hc.2⟩
      split at hz
      · injection hz with hz; subst hz; exact hx
      · split at hz
        · injection hz with hz; subst hz; exact hx
        · injection hz with hz; subst hz; exact hb _ rfl
    · exact hb z hz

theorem foldR_best {s : SSequence} {B : List Int} (hB : CanR s B) (h1 : ∀ x, CanR s x → B.length ≤ x.length) (h2 : ∀ x, CanR s x → x.length = B.length → x ≠ B → lessB B x = true ∧ lessB x B = false) :
    ∀ (L : List (List Int)) (b : Option (List Int)), (∀ y, b = some y → CanR s y) → (B ∈ L ∨ b = some B) → L.foldl (stepR s) b = some B
  | [], b, _, h => by
    rcases h with h | h
    · simp at h
    · exact h
  | x :: L, b, hb, h => by
    rw [List.foldl_cons]
    refine foldR_best hB h1 h2 L _ (fun y hy => foldR_can [x] b hb y hy) ?_
    by_cases hbf : b = some B
    · refine .inr ?_
      subst hbf
      unfold stepR
      split
      · rename_i hc
        have hx : CanR s x := ⟨listE_ok hc.1, hc.2⟩
        have := h1 x hx
        dsimp only
        by_cases hxb : x = B
        · rw [hxb, lessB_self, if_neg (by simp)]
        · rw [if_neg]
          rintro (h | ⟨h3, h4⟩)
          · omega
          · rw [(h2 x hx h3 hxb).2] at h4; simp at h4
      · rfl
    · have hm : B ∈ x :: L := by
        rcases h with h | h
        · exact h
        · exact (hbf h).elim
      rw [List.mem_cons] at hm
      rcases hm with rfl | hm
      · refine .inr ?_
        unfold stepR
        rw [if_pos ⟨listE_of hB.1, hB.2⟩]
        cases b with
        | none => rfl
        | some y =>
          have hy : CanR s y := hb y rfl
          have hne : y ≠ B := fun hc => hbf (by rw [hc])
          have h3 := h1 y hy
          dsimp only
          rw [if_pos]
          by_cases hl : y.length = B.length
          · exact .inr ⟨hl.symm, (h2 y hy hl hne).1⟩
          · exact .inl (by omega)
      · exact .inl hm

end G18

namespace G18
open Go Go.Pl
set_option linter.unusedVariables false

/- the search over any relation is the search over this one -/
def shq (s : SSequence) (i j : Nat) : Bool := (s.Steps.getD (i % s.Steps.length) ⟨[], 0⟩).Strokes.any fun x => (s.Steps.getD (j % s.Steps.length) ⟨[], 0⟩).Strokes.any fun y => decide (y.Actuator = x.Actuator)

theorem shq_mk {s : SSequence} (h : Right s) (i j : Nat) : (!shq s i j) = decide (mk s i &&& mk s j = 0) := by
  have e : shq s i j = !decide (mk s i &&& mk s j = 0) := by
    rw [Bool.eq_iff_iff]
    simp only [Bool.not_eq_true', decide_eq_false_iff_not, mask_and_zero, Classical.not_forall, Classical.not_not]
    have hi := stp_in h i
    have hj := stp_in h j
    have h1 : shq s i j = (stp s i).Strokes.any fun x => hasA (stp s j) x.Actuator := by
      unfold shq hasA stp
      congr 1
    rw [h1, List.any_eq_true]
    constructor
    · rintro ⟨x, hx, hb⟩
      obtain ⟨k, hk, rfl⟩ := List.getElem_of_mem hx
      have ha := hi.ok.act k hk
      refine ⟨(stp s i).Strokes[k].Actuator.toNat, ?_, ?_⟩
      · show (mask (stp s i).Strokes).testBit _ = true
        rw [← hasA_bit hi.ok]
        unfold hasA
        rw [List.any_eq_true]
        exact ⟨_, hx, by simp; omega⟩
      · show (mask (stp s j).Strokes).testBit _ = true
        rw [← hasA_bit hj.ok]
        have : (((stp s i).Strokes[k].Actuator.toNat : Nat) : Int) = (stp s i).Strokes[k].Actuator := by omega
        rw [this]; exact hb
    · rintro ⟨a, h1, h2⟩
      have h1 : (mask (stp s i).Strokes).testBit a = true := h1
      have h2 : (mask (stp s j).Strokes).testBit a = true := h2
      rw [← hasA_bit hi.ok] at h1
      rw [← hasA_bit hj.ok] at h2
      unfold hasA at h1
      rw [List.any_eq_true] at h1
      obtain ⟨x, hx, e⟩ := h1
      refine ⟨x, hx, ?_⟩
      have : x.Actuator = (a : Int) := by simpa using e
      rw [this]; exact h2
  rw [e, Bool.not_not]

theorem alG_eq {s : SSequence} (h : Right s) : alG (shq s) = alone s := by
  funext f k
  unfold alG alone
  congr 1
  funext i
  congr 1
  funext j
  exact shq_mk h _ _

theorem bigG_eq (s : SSequence) (a : Nat) : ∀ m, bigG (alone s) a m = big s a m
  | 0 => rfl
  | m + 1 => by
    unfold bigG big
    cases h : alone s a (m + 1) with
    | true => rfl
    | false => rw [cond_false, if_neg (by simp)]; exact bigG_eq s a m
theorem needG_eq (s : SSequence) : ∀ f a b, needG (alone s) f a b = need s f a b
  | 0, a, b => rfl
  | f + 1, a, b => by
    unfold needG need
    by_cases h : a < b
    · rw [if_pos h, show Nat.blt a b = true by rw [Nat.blt_eq]; exact h, cond_true, needG_eq s f, bigG_eq]
    · rw [if_neg h, show Nat.blt a b = false by rw [← Bool.not_eq_true, Nat.blt_eq]; exact h, cond_false]
theorem walkG_eq (s : SSequence) (fw : Nat) : ∀ d l, walkG (alone s) s.Steps.length fw d l = walkP s fw d l := by
  have hb : ∀ a b : Nat, ∀ {α : Type} (x y : α), (bif Nat.blt b a then x else y) = if a > b then x else y := by
    intro a b α x y
    by_cases h : a > b
    · rw [if_pos h, show Nat.blt b a = true by rw [Nat.blt_eq]; exact h, cond_true]
    · rw [if_neg h, show Nat.blt b a = false by rw [← Bool.not_eq_true, Nat.blt_eq]; exact h, cond_false]
  have he : ∀ a b : Nat, ∀ {α : Type} (x y : α), (bif Nat.beq a b then x else y) = if a = b then x else y := by
    intro a b α x y
    by_cases h : a = b
    · rw [if_pos h, show Nat.beq a b = true by rw [Nat.beq_eq]; exact h, cond_true]
    · rw [if_neg h, show Nat.beq a b = false by rw [← Bool.not_eq_true, Nat.beq_eq]; exact h, cond_false]
  intro d
  induction d with
  | zero =>
    intro l
    rw [walkP_eq]
    unfold walkG
    rw [hb, he, needG_eq]; rfl
  | succ d ih =>
    intro l
    rw [walkP_eq]
    unfold walkG
    rw [hb, he, needG_eq]
    have : (fun k => walkG (alone s) s.Steps.length fw d (l ++ [k])) = fun k => walkP s fw d (l ++ [k]) := by funext k; exact ih _
    rw [this]; rfl

theorem glen_need {s : SSequence} (hn : 0 < s.Steps.length) (f : Nat) : glen s f = need s s.Steps.length f (f + s.Steps.length) := by
  have h1 := glen_le hn (need_cov s s.Steps.length f (f + s.Steps.length) (by omega) (by omega))
  have h2 := need_le (glen_cov hn f) s.Steps.length f (Nat.le_refl _) (by omega)
  omega

theorem ringG_eq {s : SSequence} (h : Right s) : ringG (shq s) s.Steps.length = ringP s := by
  unfold ringG ringP
  have hf : fwG (alone s) s.Steps.length = fw s := by
    unfold fwG fw fwk
    congr 1
    funext m f
    rw [needG_eq, glen_need h.n0]
  rw [alG_eq h, hf]
  congr 1
  funext f
  exact walkG_eq s _ _ _

theorem m19_eq (s : SSequence) : ∃ r, m19 s = some r ∧ (chk s ≠ 0 → r = ([], chk s)) ∧ (chk s = 0 → ∃ y, ringP s = some y ∧ r = (ints y, 0)) := by
  unfold m19
  rw [m35_eq]
  simp only [Option.bind_some]
  by_cases h0 : chk s = 0
  · have hr := chk_right h0
    obtain ⟨y, hy, _⟩ := ringP_ok hr.n0
    have he := ringG_eq hr
    rw [hy] at he
    unfold shq at he
    rw [cond_f (by simpa using h0), he]
    exact ⟨_, rfl, fun h => (h h0).elim, fun _ => ⟨y, hy, rfl⟩⟩
  · rw [cond_t (by simpa using h0)]
    exact ⟨_, rfl, fun _ => rfl, fun h => (h0 h).elim⟩

/- the number of groups that are needed -/
def pos (s : SSequence) (b : Nat) : Nat → Nat → Nat
  | a, 0 => a
  | a, i + 1 => pos s b (a + big s a (b - a)) i
theorem pos_succ (s : SSequence) (b : Nat) : ∀ i a, pos s b a (i + 1) = pos s b a i + big s (pos s b a i) (b - pos s b a i)
  | 0, a => rfl
  | i + 1, a => by
    show pos s b (a + big s a (b - a)) (i + 1) = _
    rw [pos_succ s b i]; rfl
theorem pos_lt (s : SSequence) (b : Nat) : ∀ f a i, i < need s f a b → pos s b a i < b
  | 0, a, i, h => by simp [need] at h
  | f + 1, a, i, h => by
    unfold need at h
    split at h
    · rename_i hab
      cases i with
      | zero => exact hab
      | succ i => exact pos_lt s b f _ i (by omega)
    · omega
theorem pos_end (s : SSequence) (b : Nat) : ∀ f a, b - a ≤ f → ¬ pos s b a (need s f a b) < b
  | 0, a, h => by show ¬ a < b; omega
  | f + 1, a, h => by
    unfold need
    split
    · rename_i hab
      have := big_pos (s := s) (a := a) (m := b - a) (by omega)
      exact pos_end s b f (a + big s a (b - a)) (by omega)
    · rename_i hab; exact hab
theorem pos_ge (s : SSequence) (b : Nat) : ∀ i a, a ≤ pos s b a i
  | 0, a => Nat.le_refl _
  | i + 1, a => by
    have := pos_ge s b i (a + big s a (b - a))
    show a ≤ pos s b (a + big s a (b - a)) i
    omega
theorem pos_i (s : SSequence) (b : Nat) : ∀ f a i, i < need s f a b → a + i ≤ pos s b a i
  | 0, a, i, h => by simp [need] at h
  | f + 1, a, i, h => by
    unfold need at h
    split at h
    · rename_i hab
      cases i with
      | zero => exact Nat.le_refl _
      | succ i =>
        have := pos_i s b f _ i (show i < need s f (a + big s a (b - a)) b by omega)
        have hp := big_pos (s := s) (a := a) (m := b - a) (by omega)
        show a + (i + 1) ≤ pos s b (a + big s a (b - a)) i
        omega
    · omega
theorem need_sz (s : SSequence) : ∀ f a b, need s f a b ≤ f
  | 0, a, b => Nat.le_refl _
  | f + 1, a, b => by
    unfold need
    split
    · have := need_sz s f (a + big s a (b - a)) b; omega
    · omega

theorem m42_eq {s : SSequence} (h : Right s) (a b : Nat) (ha : a < 1000) (hb : b < 1000) (hab : b - a ≤ s.Steps.length) : m42 s (a : Int) (b : Int) = some (need s s.Steps.length a b : Int) := by
  have hn := h.n64
  have hsz := need_sz s s.Steps.length a b
  unfold m42
  rw [iter_fold (fun i : Nat => ((pos s b a i : Int), (i : Int))) (need s s.Steps.length a b) ?hn (need s s.Steps.length a b : Int) ?h0 ?h ?he]
  case hn => unfold fuel; omega
  case h0 => rfl
  case he =>
    try dsimp only
    have := pos_end s b s.Steps.length a hab
    rw [cond_f (lt_f (by omega))]
  case h =>
    intro i hi
    try dsimp only
    have hlt := pos_lt s b _ _ _ hi
    have hge := pos_ge s b i a
    rw [cond_t (lt_t (by omega)), pos_succ]
    generalize pos s b a i = p at hlt hge ⊢
    have hl := big_le s p (b - p)
    have hal := big_al s p (b - p)
    have hpos := big_pos (s := s) (a := p) (m := b - p) (by omega)
    have hmax : ∀ z, z ≤ b - p → alone s p z = true → z ≤ big s p (b - p) := fun z h1 h2 => big_max _ h1 h2
    generalize big s p (b - p) = g at hl hal hpos hmax ⊢
    rw [iter_fold (fun k : Nat => ((1 + k : Nat) : Int)) (g - 1) ?hn (g : Int) ?h0 ?h ?he]
    case hn => unfold fuel; omega
    case h0 => rfl
    case he =>
      try dsimp only
      rw [show 1 + (g - 1) = g by omega, addI_eq (by omega) (by omega)]
      by_cases hc : p + g < b
      · rw [cond_t (lt_t (by omega)), addI_nat (by omega)]
        obtain ⟨m, e, _⟩ := m44_eq h p (g + 1) (by omega) (by omega)
        rw [e]
        simp only [Option.bind_some]
        have : alone s p (g + 1) = false := by
          rw [← Bool.not_eq_true]
          intro hc2
          have := hmax (g + 1) (by omega) hc2
          omega
        rw [this]; rfl
      · rw [cond_f (lt_f (by omega))]
    case h =>
      intro k hk
      try dsimp only
      rw [addI_eq (by omega) (by omega), cond_t (lt_t (by omega)), addI_nat (by omega)]
      obtain ⟨m, e, _⟩ := m44_eq h p (1 + k + 1) (by omega) (by omega)
      rw [e]
      simp only [Option.bind_some]
      rw [alone_mono hal (show 1 + k + 1 ≤ g by omega)]
      rfl
    simp only [Option.bind_some]
    rw [addI_eq (by omega) (by omega), addI_nat (by omega)]
    rfl
  rfl
end G18

namespace G18
open Go Go.Pl

theorem few_len (s : SSequence) : (few s).length = glen s 0 := ints_len _

theorem m6_eq (s : SSequence) (hs : Small s) : m6 s = some true := by
  unfold m6
  obtain ⟨c, hc, hf⟩ := m21_eq s hs
  rw [hc]
  simp only [Option.bind_some]
  have fin : ((m12).bind fun v5 => some v5) = some true := by rw [awake_run]; rfl
  cases c with
  | false => rw [cond_t (by rfl)]; simp only [Option.bind_some, cond_true]; exact fin
  | true =>
    have h0 := (hf rfl).2
    have hr := chk_right h0
    have hn := hr.n64
    rw [cond_f (by rfl)]
    simp only [Option.bind_some]
    cases decide ((s.Steps.length : Int) > 12) with
    | true => rw [cond_true]; exact fin
    | false =>
      rw [cond_false]
      obtain ⟨r, e19, _, h2⟩ := m19_eq s
      obtain ⟨y, hy, rfl⟩ := h2 h0
      obtain ⟨y', hy', hyr, hyl⟩ := ringP_ok hr.n0
      rw [hy] at hy'
      injection hy' with hy'
      subst hy'
      obtain ⟨hfo, hfr⟩ := few_ok hr
      have hfle := hfo.le
      have hfpos := hfo.pos
      have hcan := hyr.can
      have hyle := hcan.1.le
      have k1 : chkL s (ints y) false = 0 := chkL_of h0 hcan.1 hcan.2
      have hff : ListOk s (few s) false := ⟨hfo.pos, hfo.le, fun h => by simp at h, hfo.lo, hfo.hi, hfo.inc⟩
      have k2 : chkL s (few s) false = 0 := chkL_of h0 hff hfr
      have l1 : y.length ≤ (few s).length := by
        rw [few_len, hyl]
        exact fwk_le _ hr.n0
      have l2 : (few s).length ≤ y.length + 1 := by
        obtain ⟨m, hm, hcov⟩ := hyr.div
        have := glen_le hr.n0 hcov
        rw [few_len]; omega
      have e23 : ∀ x, m23 s x = some (chkL s x false) := fun x => by unfold m23; rw [m47_eq]; rfl
      have e22 : ∀ x, m22 s x = some (chkL s x false) := fun x => by unfold m22; rw [m46_eq s hs]; rfl
      have hz : addI .i64 (0 : Int) (0 : Int) = 0 := by decide
      rw [m16_eq, if_pos h0, e19]
      simp only [Option.bind_some, hz, e22, e23, k1, k2]
      have b0 : ((0 : Int) != 0) = false := by decide
      have b1 : ((0 : Int) == 0) = true := by decide
      simp only [b0, b1, cond_false, cond_true, Option.bind_some]
      rw [ints_len, cond_t (by simp; omega), sub_nat hfpos (by omega), cond_t (by simp; omega), awake_run]
      rfl
end G18
