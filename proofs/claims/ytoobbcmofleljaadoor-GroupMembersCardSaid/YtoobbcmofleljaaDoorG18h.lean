/- Groups and lists of first steps, in plain words. No condition. -/
import Derived.Test.YtoobbcmofleljaaDoorG18d
import Derived.Test.YtoobbcmofleljaaDoorG18w
import Derived.Test.YtoobbcmofleljaaDoorG18a
namespace G18
open Go Go.Pl

theorem getD_lt {α : Type} {l : List α} {i : Nat} {d : α} (h : i < l.length) : l.getD i d = l[i] := by simp [List.getD, h]

/-- the step with a number, around the cycle -/
def stp (s : SSequence) (i : Nat) : SStep := s.Steps.getD (i % s.Steps.length) ⟨[], 0⟩
def mk (s : SSequence) (i : Nat) : Nat := mask (stp s i).Strokes
def alone (s : SSequence) (f k : Nat) : Bool := (List.range k).all fun i => (List.range i).all fun j => decide (mk s (f + i) &&& mk s (f + j) = 0)
def acc (s : SSequence) (f : Nat) : Nat → Nat
  | 0 => 0
  | k + 1 => acc s f k ||| mk s (f + k)

theorem stp_eq {s : SSequence} (h : Right s) (i : Nat) : ∃ hi : i % s.Steps.length < s.Steps.length, stp s i = s.Steps[i % s.Steps.length] := by
  have := h.n0
  have hi := Nat.mod_lt i this
  exact ⟨hi, by unfold stp; rw [getD_lt hi]⟩
theorem stp_in {s : SSequence} (h : Right s) (i : Nat) : StepIn s (stp s i) := by
  obtain ⟨hi, e⟩ := stp_eq h i
  rw [e]; exact h.step _ hi
theorem stp_lt {s : SSequence} {i : Nat} (hi : i < s.Steps.length) : stp s i = s.Steps[i] := by
  unfold stp
  have : i % s.Steps.length < s.Steps.length := by rw [Nat.mod_eq_of_lt hi]; exact hi
  rw [getD_lt this]
  congr 1
  exact Nat.mod_eq_of_lt hi
theorem mk_lt {s : SSequence} (h : Right s) (i : Nat) : mk s i < 64 := mask_lt _ (stp_in h i).ok.act
theorem acc_lt {s : SSequence} (h : Right s) (f : Nat) : ∀ k, acc s f k < 64
  | 0 => by simp [acc]
  | k + 1 => Nat.or_lt_two_pow (n := 6) (acc_lt h f k) (mk_lt h _)
theorem alone_iff {s : SSequence} {f k : Nat} : alone s f k = true ↔ ∀ i, i < k → ∀ j, j < i → mk s (f + i) &&& mk s (f + j) = 0 := by
  simp [alone, List.all_eq_true]
theorem alone_mono {s : SSequence} {f k m : Nat} (h : alone s f k = true) (hm : m ≤ k) : alone s f m = true := by
  rw [alone_iff] at h ⊢
  intro i hi j hj
  exact h i (by omega) j hj
theorem acc_bit (s : SSequence) (f a : Nat) : ∀ k, (acc s f k).testBit a = (List.range k).any fun i => (mk s (f + i)).testBit a
  | 0 => by simp [acc]
  | k + 1 => by rw [acc, Nat.testBit_or, acc_bit s f a k, List.range_succ, List.any_append]; simp
theorem acc_bit_iff {s : SSequence} {f k a : Nat} : (acc s f k).testBit a = true ↔ ∃ i, i < k ∧ (mk s (f + i)).testBit a = true := by
  rw [acc_bit, List.any_eq_true]
  constructor
  · rintro ⟨i, hi, h⟩; exact ⟨i, List.mem_range.1 hi, h⟩
  · rintro ⟨i, hi, h⟩; exact ⟨i, List.mem_range.2 hi, h⟩
theorem acc_zero {s : SSequence} {f k x : Nat} : acc s f k &&& x = 0 ↔ ∀ i, i < k → mk s (f + i) &&& x = 0 := by
  constructor
  · intro h i hi
    rw [mask_and_zero] at h ⊢
    intro a ha
    exact h a ⟨acc_bit_iff.2 ⟨i, hi, ha.1⟩, ha.2⟩
  · intro h
    rw [mask_and_zero]
    intro a ha
    obtain ⟨i, hi, hb⟩ := acc_bit_iff.1 ha.1
    exact (mask_and_zero.1 (h i hi)) a ⟨hb, ha.2⟩
theorem alone_succ {s : SSequence} {f k : Nat} : alone s f (k + 1) = true ↔ alone s f k = true ∧ acc s f k &&& mk s (f + k) = 0 := by
  rw [acc_zero]
  constructor
  · intro h
    refine ⟨alone_mono h (by omega), fun i hi => ?_⟩
    rw [Nat.and_comm]
    exact alone_iff.1 h k (by omega) i hi
  · rintro ⟨h1, h2⟩
    rw [alone_iff] at h1 ⊢
    intro i hi j hj
    by_cases e : i = k
    · subst e; rw [Nat.and_comm]; exact h2 j hj
    · exact h1 i (by omega) j hj

theorem remc_nat {x n : Nat} (h : 0 < n) : remc (x : Int) (n : Int) = some ((x % n : Nat) : Int) := by
  unfold remc
  rw [if_neg (by omega)]
  rfl

def onceG (s : SSequence) (f : Nat) (k : Nat) : Option (Int × Bool) := if acc s f k &&& mk s (f + k) = 0 then none else some ((acc s f k : Int), false)

theorem first_once {s : SSequence} {f : Nat} : ∀ k, (alone s f k = true → first k (onceG s f) = none) ∧ (alone s f k = false → ∃ m, first k (onceG s f) = some (m, false)) := by
  intro k
  constructor
  · intro h
    rw [first_none_iff]
    intro j hj
    unfold onceG
    rw [if_pos (alone_succ.1 (alone_mono h hj)).2]
  · intro h
    cases hf : first k (onceG s f) with
    | none =>
      exfalso
      rw [first_none_iff] at hf
      have : ∀ j, j ≤ k → alone s f j = true := by
        intro j
        induction j with
        | zero => intro _; rfl
        | succ j ih =>
          intro hj
          refine alone_succ.2 ⟨ih (by omega), ?_⟩
          have := hf j (by omega)
          unfold onceG at this
          refine Classical.byContradiction fun hc => ?_
          rw [if_neg hc] at this; simp at this
      rw [this k (Nat.le_refl _)] at h; simp at h
    | some r =>
      unfold first at hf
      obtain ⟨j, _, hj⟩ := List.exists_of_findSome?_eq_some hf
      unfold onceG at hj
      split at hj
      · simp at hj
      · injection hj with hj; exact ⟨_, by rw [← hj]⟩

theorem m44_eq {s : SSequence} (h : Right s) (f k : Nat) (hf : f < 1000000) (hk : k < 1000000) : ∃ m, m44 s (f : Int) (k : Int) = some (m, alone s f k) ∧ (alone s f k = true → m = (acc s f k : Int)) := by
  unfold m44
  have hn := h.n0
  have hn64 := h.n64
  rw [iter_first (fun i : Nat => ((i : Int), (acc s f i : Int))) (onceG s f) k ?hn ((acc s f k : Int)) ?h0 ?h ?he]
  case hn => unfold fuel; omega
  case h0 => rfl
  case he =>
    intro _
    try dsimp only
    rw [cond_f (lt_f (by omega))]
  case h =>
    intro i hi _
    try dsimp only
    have hlt := Nat.mod_lt (f + i) hn
    rw [cond_t (lt_t (by omega)), show addI .i64 (f : Int) (i : Int) = ((f + i : Nat) : Int) by rw [addI_eq (by omega) (by omega)]; omega, remc_nat hn]
    simp only [Option.bind_some]
    rw [idx_lt hlt]
    simp only [Option.bind_some]
    obtain ⟨_, e⟩ := stp_eq h (f + i)
    rw [m36_eq (h.step _ hlt).ok, ← e]
    simp only [Option.bind_some]
    have b1 := acc_lt h f i
    have b2 := mk_lt h (f + i)
    have e2 : mask (stp s (f + i)).Strokes = mk s (f + i) := rfl
    rw [e2, andI_nat (by omega) (by omega), orI_nat (by omega) (by omega), addI_nat (by omega)]
    unfold onceG
    by_cases hz : acc s f i &&& mk s (f + i) = 0
    · rw [if_pos hz, hz]; rfl
    · rw [if_neg hz, cond_t (by simp; omega)]
  obtain ⟨h1, h2⟩ := first_once (s := s) (f := f) k
  cases ha : alone s f k with
  | true => rw [h1 ha]; exact ⟨_, rfl, fun _ => rfl⟩
  | false =>
    obtain ⟨m, hm⟩ := h2 ha
    rw [hm]; exact ⟨_, rfl, fun h => by simp at h⟩

theorem share_mk {s : SSequence} (h : Right s) (i j : Nat) : share s (stp s i) (stp s j) = !decide (mk s i &&& mk s j = 0) := share_mask (stp_in h i) (stp_in h j)

theorem all_any {p : Nat → Bool} (k : Nat) : (List.range k).all p = !(List.range k).any fun i => !p i := by
  rw [List.all_eq_not_any_not]

theorem m78_eq {s : SSequence} (h : Right s) (f k : Nat) (hf : f < 1000000) (hk : k < 1000000) : m78 s (f : Int) (k : Int) = some (alone s f k) := by
  unfold m78
  have hn := h.n0
  have hn64 := h.n64
  rw [iter_list (List.range k) (fun i => bif (List.range i).any fun j => !decide (mk s (f + i) &&& mk s (f + j) = 0) then some false else none) ?hn () ?h0 ?h ?he]
  case hn => unfold fuel; simp; omega
  case h0 => rfl
  case he =>
    try dsimp only
    rw [cond_f (lt_f (by simp))]
  case h =>
    intro i hi
    have hi' : i < k := by simpa using hi
    try dsimp only
    rw [cond_t (lt_t (by omega))]
    rw [iter_list (List.range i) (fun j => bif !decide (mk s (f + i) &&& mk s (f + j) = 0) then some (.inr (.inr false)) else none) ?hn () ?h0 ?h ?he]
    case hn => unfold fuel; simp; omega
    case h0 => rfl
    case he =>
      try dsimp only
      rw [cond_f (lt_f (by simp))]
    case h =>
      intro j hj
      have hj' : j < i := by simpa using hj
      try dsimp only
      rw [cond_t (lt_t (by omega)), show addI .i64 (f : Int) (i : Int) = ((f + i : Nat) : Int) by rw [addI_eq (by omega) (by omega)]; omega,
        show addI .i64 (f : Int) (j : Int) = ((f + j : Nat) : Int) by rw [addI_eq (by omega) (by omega)]; omega, remc_nat hn, remc_nat hn]
      simp only [Option.bind_some, List.getElem_range]
      obtain ⟨l1, e1⟩ := stp_eq h (f + i)
      obtain ⟨l2, e2⟩ := stp_eq h (f + j)
      rw [m38_eq h l1 l2, ← e1, ← e2, share_mk h, addI_nat (by omega)]
      simp only [Option.bind_some]
      cases decide (mk s (f + i) &&& mk s (f + j) = 0) <;> rfl
    rw [findSome_if, List.getElem_range, addI_nat (by omega)]
    cases (List.range i).any fun j => !decide (mk s (f + i) &&& mk s (f + j) = 0) <;> rfl
  rw [findSome_if]
  have : alone s f k = !(List.range k).any fun i => (List.range i).any fun j => !decide (mk s (f + i) &&& mk s (f + j) = 0) := by
    unfold alone
    rw [all_any]
    congr 1
    congr 1
    funext i
    rw [all_any, Bool.not_not]
  rw [this]
  cases (List.range k).any fun i => (List.range i).any fun j => !decide (mk s (f + i) &&& mk s (f + j) = 0) <;> rfl
end G18

namespace G18
open Go Go.Pl

def listG (s : SSequence) (l : List Int) (k : Nat) : Option Int :=
  if l.getD k 0 < 0 ∨ (s.Steps.length : Int) ≤ l.getD k 0 then some 2 else if 0 < k ∧ l.getD k 0 ≤ l.getD (k - 1) 0 then some 9 else none

/-- what is wrong with a list of first steps -/
def listE (s : SSequence) (l : List Int) (b : Bool) : Int :=
  if l.length = 0 then 13 else if s.Steps.length < l.length then 5 else if b = true ∧ l.getD 0 0 ≠ 0 then 3 else
  match first l.length (listG s l) with | some r => r | none => 0

theorem m65_eq (s : SSequence) (hs : s.Steps.length ≤ 64) (l : List Int) (b : Bool) : m65 s l b = some (listE s l b) := by
  unfold m65 listE
  by_cases h1 : l.length = 0
  · rw [cond_t (by simpa using h1), if_pos h1]
  rw [cond_f (by simpa using h1), if_neg h1]
  by_cases h2 : s.Steps.length < l.length
  · rw [cond_t (by simp; omega), if_pos h2]
  rw [cond_f (by simp; omega), if_neg h2]
  have e0 : idx l (0 : Int) = some (l.getD 0 0) := by
    have := idx_lt (l := l) (k := 0) (by omega)
    rw [getD_lt (by omega)]; exact this
  have e1 : ((bif b then (idx l 0).bind fun v5 => some (v5 != 0) else some false) : Option Bool) = some (decide (b = true ∧ l.getD 0 0 ≠ 0)) := by
    cases b with
    | false => simp
    | true =>
      rw [e0]; simp only [Option.bind_some, cond_true, true_and]
      by_cases hz : l.getD 0 0 = 0
      · rw [hz]; rfl
      · rw [decide_eq_true hz, bne_iff_ne.2 hz]
  rw [e1]
  simp only [Option.bind_some]
  by_cases h3 : b = true ∧ l.getD 0 0 ≠ 0
  · rw [if_pos h3, cond_t (decide_eq_true h3)]
  rw [if_neg h3, cond_f (decide_eq_false h3)]
  rw [iter_first (fun k : Nat => (k : Int)) (listG s l) l.length ?hn () ?h0 ?h ?he]
  case hn => unfold fuel; omega
  case h0 => rfl
  case he =>
    intro _
    try dsimp only
    rw [cond_f (lt_f (by omega))]
  case h =>
    intro k hk _
    try dsimp only
    rw [cond_t (lt_t (by omega)), idx_lt hk]
    simp only [Option.bind_some]
    unfold listG
    rw [getD_lt hk]
    by_cases h4 : l[k] < 0
    · rw [cond_t (lt_t h4), if_pos (.inl h4)]; rfl
    rw [cond_f (lt_f h4)]
    simp only [Option.bind_some]
    by_cases h5 : (s.Steps.length : Int) ≤ l[k]
    · rw [if_pos (.inr h5), cond_t (by simpa using h5)]
    rw [cond_f (by simp; omega), if_neg (by omega)]
    by_cases hk0 : k = 0
    · subst hk0
      rw [if_neg (by omega), cond_f (by simp)]
      rfl
    · rw [cond_t (by simp; omega), sub_nat (by omega) (by omega), idx_lt (show k - 1 < l.length by omega), getD_lt (show k - 1 < l.length by omega)]
      simp only [Option.bind_some]
      by_cases h6 : l[k] ≤ l[k - 1]
      · rw [if_pos ⟨by omega, h6⟩, cond_t (by simpa using h6)]
      · rw [if_neg (by omega), cond_f (by simpa using h6), addI_nat (by omega)]
  cases first l.length (listG s l) <;> rfl

/-- a list of first steps that is right -/
structure ListOk (s : SSequence) (l : List Int) (b : Bool) : Prop where
  pos : 0 < l.length
  le : l.length ≤ s.Steps.length
  zero : b = true → l.getD 0 0 = 0
  lo : ∀ k, k < l.length → 0 ≤ l.getD k 0
  hi : ∀ k, k < l.length → l.getD k 0 < s.Steps.length
  inc : ∀ k, k + 1 < l.length → l.getD k 0 < l.getD (k + 1) 0

theorem listE_ok {s : SSequence} {l : List Int} {b : Bool} (h : listE s l b = 0) : ListOk s l b := by
  unfold listE at h
  split at h
  · omega
  split at h
  · omega
  split at h
  · omega
  rename_i h1 h2 h3
  split at h
  · rename_i r hr
    exfalso
    unfold first at hr
    obtain ⟨k, _, hk⟩ := List.exists_of_findSome?_eq_some hr
    subst h
    unfold listG at hk
    split at hk
    · simp at hk
    · split at hk <;> simp at hk
  · rename_i hr
    rw [first_none_iff] at hr
    have hb : ∀ k, k < l.length → ¬(l.getD k 0 < 0 ∨ (s.Steps.length : Int) ≤ l.getD k 0) ∧ ¬(0 < k ∧ l.getD k 0 ≤ l.getD (k - 1) 0) := by
      intro k hk
      have := hr k hk
      unfold listG at this
      split at this
      · simp at this
      · split at this
        · simp at this
        · exact ⟨by assumption, by assumption⟩
    refine ⟨by omega, by omega, fun hb => ?_, fun k hk => ?_, fun k hk => ?_, fun k hk => ?_⟩
    · exact Classical.byContradiction fun hc => h3 ⟨hb, hc⟩
    · have := (hb k hk).1; omega
    · have := (hb k hk).1; omega
    · have := (hb (k + 1) hk).2
      rw [Nat.add_sub_cancel] at this; omega

theorem listE_of {s : SSequence} {l : List Int} {b : Bool} (h : ListOk s l b) : listE s l b = 0 := by
  unfold listE
  have := h.pos
  have := h.le
  rw [if_neg (by omega), if_neg (by omega), if_neg (fun hc => hc.2 (h.zero hc.1)), first_none]
  intro k hk
  unfold listG
  have h1 := h.lo k hk
  have h2 := h.hi k hk
  rw [if_neg (by omega)]
  by_cases hk0 : k = 0
  · rw [if_neg (by omega)]
  · have := h.inc (k - 1) (by omega)
    rw [Nat.sub_add_cancel (by omega)] at this
    rw [if_neg (by omega)]

theorem ListOk.mono {s : SSequence} {l : List Int} {b : Bool} (h : ListOk s l b) {i j : Nat} (hij : i < j) (hj : j < l.length) : l.getD i 0 < l.getD j 0 := by
  induction j with
  | zero => omega
  | succ j ih =>
    have h1 := h.inc j hj
    by_cases e : i = j
    · subst e; exact h1
    · have := ih (by omega) (by omega); omega

/-- where a group ends -/
def nxt (s : SSequence) (l : List Int) (i : Nat) : Int := if i + 1 < l.length then l.getD (i + 1) 0 else s.Steps.length + l.getD 0 0

/-- a group's first step and its size -/
def fst' (l : List Int) (i : Nat) : Nat := (l.getD i 0).toNat
def siz (s : SSequence) (l : List Int) (i : Nat) : Nat := (nxt s l i - l.getD i 0).toNat

theorem ListOk.fst {s : SSequence} {l : List Int} {b : Bool} (h : ListOk s l b) {i : Nat} (hi : i < l.length) : l.getD i 0 = (fst' l i : Int) ∧ fst' l i < s.Steps.length := by
  have h1 := h.lo i hi
  have h2 := h.hi i hi
  unfold fst'; omega
theorem ListOk.nx {s : SSequence} {l : List Int} {b : Bool} (h : ListOk s l b) {i : Nat} (hi : i < l.length) : l.getD i 0 < nxt s l i ∧ nxt s l i < 2 * s.Steps.length := by
  have := h.lo i hi
  have := h.hi i hi
  have := h.lo 0 h.pos
  have := h.hi 0 h.pos
  unfold nxt
  split
  · rename_i hc
    have := h.inc i hc
    have := h.hi (i + 1) hc
    omega
  · omega
theorem ListOk.siz {s : SSequence} {l : List Int} {b : Bool} (h : ListOk s l b) {i : Nat} (hi : i < l.length) : nxt s l i - l.getD i 0 = (siz s l i : Int) ∧ siz s l i < 2 * s.Steps.length ∧ 0 < siz s l i := by
  obtain ⟨h1, h2⟩ := h.nx hi
  have := h.lo i hi
  unfold G18.siz; omega

theorem m52_eq {s : SSequence} {l : List Int} {b : Bool} (h : ListOk s l b) (hs : s.Steps.length ≤ 64) {i : Nat} (hi : i < l.length) : m52 s l (i : Int) = some (nxt s l i) := by
  have := h.le
  unfold m52 nxt
  rw [addI_nat (by omega)]
  by_cases hc : i + 1 < l.length
  · rw [if_pos hc, cond_t (lt_t (by omega)), idx_lt hc, getD_lt hc]; rfl
  · have hp := h.pos
    have h0 := idx_lt (l := l) (k := 0) hp
    have h1 := h.lo 0 hp
    have h2 := h.hi 0 hp
    rw [getD_lt hp] at h1 h2
    rw [if_neg hc, cond_f (lt_f (by omega)), show (0 : Int) = ((0 : Nat) : Int) from rfl, h0, getD_lt hp]
    simp only [Option.bind_some]
    rw [addI_eq (by omega) (by omega)]

/-- has no group an actuator that moves twice? -/
def rightL (s : SSequence) (l : List Int) : Bool := (List.range l.length).all fun i => alone s (fst' l i) (siz s l i)

theorem m66_eq {s : SSequence} (hr : Right s) {l : List Int} {b : Bool} (h : ListOk s l b) : m66 s l = some (rightL s l) := by
  have hs := hr.n64
  have := h.le
  unfold m66
  rw [iter_list (List.range l.length) (fun i => bif !alone s (fst' l i) (siz s l i) then some false else none) ?hn () ?h0 ?h ?he]
  case hn => unfold fuel; simp; omega
  case h0 => rfl
  case he =>
    try dsimp only
    rw [cond_f (lt_f (by simp))]
  case h =>
    intro k hk
    have hk' : k < l.length := by simpa using hk
    try dsimp only
    have hsz := h.siz hk'
    have hf := h.fst hk'
    obtain ⟨hn1, hn2⟩ := h.nx hk'
    have hlo := h.lo k hk'
    have hm := m52_eq h hs hk'
    rw [cond_t (lt_t (by omega)), idx_lt hk']
    simp only [Option.bind_some]
    rw [hm]
    simp only [Option.bind_some, List.getElem_range]
    rw [← getD_lt (d := 0) hk', subI_eq (by omega) (by omega), hsz.1, hf.1, m78_eq hr _ _ (by omega) (by omega), addI_nat (by omega)]
    simp only [Option.bind_some]
    cases alone s (fst' l k) (siz s l k) <;> rfl
  rw [findSome_if]
  unfold rightL
  rw [all_any]
  cases (List.range l.length).any fun i => !alone s (fst' l i) (siz s l i) <;> rfl

theorem rightL_iff {s : SSequence} {l : List Int} : rightL s l = true ↔ ∀ i, i < l.length → alone s (fst' l i) (siz s l i) = true := by
  simp [rightL, List.all_eq_true]
end G18

namespace G18
open Go Go.Pl
theorem m68_eq (s : SSequence) (l : List Int) (b : Bool) : m68 s l b = m65 s l b := by
  unfold m68 m65
  congr 1
  congr 1
  congr 1
  funext w3
  congr 1
  congr 1
  congr 1
  funext s7
  congr 1
  cases idx l s7 with
  | none => rfl
  | some v =>
    simp only [Option.bind_some]
    cases decide (v < 0) <;> cases decide (v ≥ (s.Steps.length : Int)) <;> rfl

theorem m48_eq {s : SSequence} {l : List Int} {b : Bool} (h : ListOk s l b) (hs : s.Steps.length ≤ 64) : m48 s l = some ((List.range l.length).map fun i => (siz s l i : Int)) := by
  have := h.le
  unfold m48
  rw [iter_fold (fun k : Nat => ((List.range k).map (fun i => (siz s l i : Int)), (k : Int))) l.length ?hn ((List.range l.length).map fun i => (siz s l i : Int)) ?h0 ?h ?he]
  case hn => unfold fuel; omega
  case h0 => rfl
  case he =>
    try dsimp only
    rw [cond_f (lt_f (by omega))]
  case h =>
    intro k hk
    try dsimp only
    have hp := h.pos
    have h0 := idx_lt (l := l) (k := 0) hp
    have h1 := h.lo 0 hp
    have h2 := h.hi 0 hp
    have hm := m52_eq h hs hk
    have hsz := h.siz hk
    have hlo := h.lo k hk
    obtain ⟨hn1, hn2⟩ := h.nx hk
    rw [getD_lt hk] at hsz hlo hn1
    rw [cond_t (lt_t (by omega)), idx_lt hk, show idx l (0 : Int) = some l[0] from h0]
    simp only [Option.bind_some]
    have e : ((bif (decide ((addI .i64 (k : Int) 1) < (l.length : Int))) then (idx l (addI .i64 (k : Int) 1)).bind fun v8 => some v8 else some (addI .i64 l[0] (s.Steps.length : Int))) : Option (Int)) = some (nxt s l k) := by
      rw [getD_lt hp] at h1 h2
      rw [← hm]
      unfold m52
      rw [show idx l (0 : Int) = some l[0] from h0]
      simp only [Option.bind_some]
      rw [addI_eq (x := l[0]) (by omega) (by omega), addI_eq (x := (s.Steps.length : Int)) (by omega) (by omega), Int.add_comm]
    rw [e]
    simp only [Option.bind_some]
    rw [appc_eq (by simp; omega) (by simp; omega), subI_eq (by omega) (by omega), hsz.1, addI_nat (by omega)]
    simp only [Option.bind_some]
    rw [List.range_succ, List.map_append]
    rfl
  rfl

def chkL (s : SSequence) (l : List Int) (b : Bool) : Int := if chk s ≠ 0 then chk s else if listE s l b ≠ 0 then listE s l b else if rightL s l = true then 0 else 7

theorem m46_eq (s : SSequence) (hs : Small s) (l : List Int) (b : Bool) : m46 s l b = some (chkL s l b) := by
  unfold m46 chkL
  rw [m37_eq s hs]
  simp only [Option.bind_some]
  by_cases h0 : chk s = 0
  · have hr := chk_right h0
    rw [cond_f (by simpa using h0), if_neg (by simpa using h0), m65_eq s hr.n64]
    simp only [Option.bind_some]
    by_cases h1 : listE s l b = 0
    · rw [cond_f (by simpa using h1), if_neg (by simpa using h1), m66_eq hr (listE_ok h1)]
      cases rightL s l <;> rfl
    · rw [cond_t (by simpa using h1), if_pos h1]
  · rw [cond_t (by simpa using h0), if_pos h0]

theorem m47_eq (s : SSequence) (l : List Int) (b : Bool) : m47 s l b = some (chkL s l b) := by
  unfold m47 chkL
  rw [m35_eq s]
  simp only [Option.bind_some]
  by_cases h0 : chk s = 0
  · have hr := chk_right h0
    have hs := hr.n64
    rw [cond_f (by simpa using h0), if_neg (by simpa using h0), m68_eq, m65_eq s hr.n64]
    simp only [Option.bind_some]
    by_cases h1 : listE s l b = 0
    · have h := listE_ok h1
      have hle := h.le
      rw [cond_f (by simpa using h1), if_neg (by simpa using h1), m48_eq h hs]
      simp only [Option.bind_some, List.length_map, List.length_range]
      rw [iter_list (List.range l.length) (fun i => bif !alone s (fst' l i) (siz s l i) then some 7 else none) ?hn () ?h0 ?h ?he]
      case hn => unfold fuel; simp; omega
      case h0 => rfl
      case he =>
        try dsimp only
        rw [cond_f (lt_f (by simp))]
      case h =>
        intro k hk
        have hk' : k < l.length := by simpa using hk
        try dsimp only
        have hsz := h.siz hk'
        have hf := h.fst hk'
        rw [cond_t (lt_t (by omega)), idx_lt (show k < ((List.range l.length).map fun i => (siz s l i : Int)).length by simpa using hk), idx_lt hk']
        simp only [Option.bind_some, List.getElem_map, List.getElem_range]
        rw [← getD_lt (d := 0) hk', hf.1]
        obtain ⟨m, e, _⟩ := m44_eq hr (fst' l k) (siz s l k) (by omega) (by omega)
        rw [e, addI_nat (by omega)]
        simp only [Option.bind_some]
        cases alone s (fst' l k) (siz s l k) <;> rfl
      rw [findSome_if]
      unfold rightL
      rw [all_any]
      cases (List.range l.length).any fun i => !alone s (fst' l i) (siz s l i) <;> rfl
    · rw [cond_t (by simpa using h1), if_pos h1]
  · rw [cond_t (by simpa using h0), if_pos h0]

theorem chkL_ok {s : SSequence} {l : List Int} {b : Bool} (h : chkL s l b = 0) : chk s = 0 ∧ ListOk s l b ∧ rightL s l = true := by
  unfold chkL at h
  split at h
  · rename_i h0; exact (h0 h).elim
  split at h
  · rename_i h0; exact (h0 h).elim
  rename_i h0 h1
  split at h
  · exact ⟨by simpa using h0, listE_ok (by simpa using h1), by assumption⟩
  · omega
theorem chkL_of {s : SSequence} {l : List Int} {b : Bool} (h0 : chk s = 0) (h1 : ListOk s l b) (h2 : rightL s l = true) : chkL s l b = 0 := by
  unfold chkL
  rw [if_neg (by simpa using h0), if_neg (by simpa using listE_of h1), if_pos h2]
end G18

namespace G18
open Go Go.Pl

def memb (s : SSequence) (f k : Nat) : List Int := ((List.range 6).filter fun a => (acc s f k).testBit a).map fun a : Nat => (a : Int)
def mems (s : SSequence) (l : List Int) : List (List Int) := (List.range l.length).map fun i => memb s (fst' l i) (siz s l i)

theorem filt_succ (p : Nat → Bool) (a : Nat) : ((List.range (a + 1)).filter p).map (fun a : Nat => (a : Int)) = if p a = true then ((List.range a).filter p).map (fun a : Nat => (a : Int)) ++ [(a : Int)] else ((List.range a).filter p).map (fun a : Nat => (a : Int)) := by
  rw [List.range_succ, List.filter_append, List.map_append]
  by_cases h : p a = true
  · rw [if_pos h]; simp [h]
  · rw [if_neg h]; simp [h]
theorem filt_len (p : Nat → Bool) (a : Nat) : (((List.range a).filter p).map (fun a : Nat => (a : Int))).length ≤ a := by
  rw [List.length_map]
  exact Nat.le_trans (List.length_filter_le _ _) (by simp)

theorem and_bit (x a : Nat) : (((x &&& 2 ^ a : Nat) : Int) != 0) = x.testBit a := by
  have key : x &&& 2 ^ a = 0 ↔ x.testBit a = false := by
    rw [mask_and_zero]
    constructor
    · intro h
      have := h a
      rw [Nat.testBit_two_pow] at this
      simpa using this
    · intro h i hi
      rw [Nat.testBit_two_pow] at hi
      have : a = i := by simpa using hi.2
      subst this
      rw [h] at hi; simp at hi
  cases hb : x.testBit a with
  | false => rw [key.2 hb]; rfl
  | true =>
    rw [bne_iff_ne]
    intro hc
    have := key.1 (by omega)
    rw [hb] at this; simp at this

theorem memb_mem {s : SSequence} {f k a : Nat} (ha : a < 6) : (a : Int) ∈ memb s f k ↔ (acc s f k).testBit a = true := by
  unfold memb
  rw [List.mem_map]
  constructor
  · rintro ⟨b, hb, e⟩
    have : b = a := by omega
    subst this
    exact (List.mem_filter.1 hb).2
  · intro h
    exact ⟨a, List.mem_filter.2 ⟨List.mem_range.2 ha, h⟩, rfl⟩

theorem m25_eq (s : SSequence) (l : List Int) : m25 s l = some (if chkL s l true = 0 then (mems s l, 0) else ([], chkL s l true)) := by
  unfold m25 m28
  rw [m47_eq]
  simp only [Option.bind_some]
  by_cases h0 : chkL s l true = 0
  · obtain ⟨hc, h, hrl⟩ := chkL_ok h0
    have hr := chk_right hc
    have hs := hr.n64
    have hle := h.le
    rw [rightL_iff] at hrl
    rw [if_pos h0, cond_f (by simpa using h0), m48_eq h hs]
    simp only [Option.bind_some, List.length_map, List.length_range]
    rw [iter_fold (fun k : Nat => ((List.range k).map (fun i => memb s (fst' l i) (siz s l i)), (k : Int))) l.length ?hn (mems s l) ?h0 ?h ?he]
    case hn => unfold fuel; omega
    case h0 => rfl
    case he =>
      try dsimp only
      rw [cond_f (lt_f (by omega))]
      rfl
    case h =>
      intro k hk
      try dsimp only
      have hsz := h.siz hk
      have hf := h.fst hk
      rw [cond_t (lt_t (by omega)), idx_lt (show k < ((List.range l.length).map fun i => (siz s l i : Int)).length by simpa using hk), idx_lt hk]
      simp only [Option.bind_some, List.getElem_map, List.getElem_range]
      rw [← getD_lt (d := 0) hk, hf.1]
      obtain ⟨m, e, hm⟩ := m44_eq hr (fst' l k) (siz s l k) (by omega) (by omega)
      rw [e, addI_nat (by omega)]
      simp only [Option.bind_some]
      rw [hm (hrl k hk)]
      rw [iter_fold (fun a : Nat => (((List.range a).filter fun a => (acc s (fst' l k) (siz s l k)).testBit a).map (fun a : Nat => (a : Int)), (a : Int))) 6 ?hn (memb s (fst' l k) (siz s l k)) ?h0 ?h ?he]
      case hn => unfold fuel; omega
      case h0 => rfl
      case he => rfl
      case h =>
        intro a ha
        try dsimp only
        have hb := acc_lt hr (fst' l k) (siz s l k)
        have hai : aidx (⟨[1, 2, 4, 8, 16, 32], rfl⟩ : Arr 6 Int) (a : Int) = some ((2 ^ a : Nat) : Int) := bits_idx (a := (a : Int)) (by omega) (by omega)
        have hp : 2 ^ a < 18446744073709551616 := Nat.pow_lt_pow_right (a := 2) (by omega) (show a < 64 by omega)
        rw [cond_t (lt_t (by omega)), hai]
        simp only [Option.bind_some]
        rw [andI_nat (by omega) hp, and_bit, filt_succ, addI_nat (by omega)]
        cases (acc s (fst' l k) (siz s l k)).testBit a with
        | false => rfl
        | true =>
          have := filt_len (fun a => (acc s (fst' l k) (siz s l k)).testBit a) a
          rw [cond_true, appc_eq (by simp only [List.length_singleton]; omega) (by simp only [List.length_singleton]; omega)]
          rfl
      simp only [Option.bind_some]
      rw [appc_eq (by simp; omega) (by simp; omega), List.range_succ, List.map_append]
      rfl
    rfl
  · rw [if_neg h0, cond_t (by simpa using h0)]

theorem mk_hasA {s : SSequence} (h : Right s) {i : Nat} (hi : i < s.Steps.length) (a : Nat) : hasA s.Steps[i] (a : Int) = (mk s i).testBit a := by
  rw [hasA_bit (h.step i hi).ok, ← stp_lt hi]; rfl
end G18

namespace G18
open Go Go.Pl

theorem half {i j : Nat} (hi : i < 1000000) (hj : j < 1000000) : IntKind.wrap .i64 (shrI .u64 (IntKind.wrap .u64 (addI .i64 (i : Int) (j : Int))) 1) = (((i + j) / 2 : Nat) : Int) := by
  rw [addI_eq (by omega) (by omega), wrap_u64 (by omega) (by omega)]
  have e : shrI .u64 ((i : Int) + (j : Int)) 1 = (((i + j) / 2 : Nat) : Int) := by
    unfold shrI
    rw [show (2 : Int) ^ (min (1 : Int).toNat IntKind.u64.bits) = 2 by decide, Int.fdiv_eq_ediv_of_nonneg _ (by omega)]
    omega
  rw [e]
  exact wrap_i64 (by omega) (by omega)

theorem m57_eq (x y : Int) : m57 x y = some (decide (x < y)) := by
  unfold m57 m70
  simp only [Option.bind_some, bne_self_eq_false, cond_false]

theorem m54_eq (l : List Int) (x : Int) (hl : l.length ≤ 1000) (hinc : ∀ i j, i < j → j < l.length → l.getD i 0 < l.getD j 0) :
    ∃ i, i ≤ l.length ∧ m54 l x = some ((i : Int), decide (i < l.length ∧ l.getD i 0 = x)) ∧ (∀ k, k < i → l.getD k 0 < x) ∧ ∀ k, i ≤ k → k < l.length → x ≤ l.getD k 0 := by
  unfold m54
  have key := iter_rule (body := (fun s1 : Int × Int => ((bif (decide (s1.1 < s1.2)) then (idx l (IntKind.wrap .i64 (shrI .u64 (IntKind.wrap .u64 (addI .i64 s1.1 s1.2)) 1))).bind fun v4 => (m57 v4 x).bind fun v5 => some (.inl ((bif v5 then (addI .i64 (IntKind.wrap .i64 (shrI .u64 (IntKind.wrap .u64 (addI .i64 s1.1 s1.2)) 1)) 1) else s1.1), (bif v5 then s1.2 else (IntKind.wrap .i64 (shrI .u64 (IntKind.wrap .u64 (addI .i64 s1.1 s1.2)) 1))))) else some (.inr s1.1)) : Option ((Int × Int) ⊕ (Int)))))
    (fun s => ∃ i j : Nat, s = ((i : Int), (j : Int)) ∧ i ≤ j ∧ j ≤ l.length ∧ (∀ k, k < i → l.getD k 0 < x) ∧ ∀ k, j ≤ k → k < l.length → x ≤ l.getD k 0)
    (fun s => (s.2 - s.1).toNat)
    (fun r => ∃ i : Nat, r = (i : Int) ∧ i ≤ l.length ∧ (∀ k, k < i → l.getD k 0 < x) ∧ ∀ k, i ≤ k → k < l.length → x ≤ l.getD k 0)
    (s := (0, (l.length : Int))) ⟨0, l.length, rfl, by omega, by omega, fun k hk => by omega, fun k h1 h2 => by omega⟩ (by unfold fuel; simp only; omega) ?_
  · obtain ⟨_, hr, i, rfl, h1, h2, h3⟩ := key
    refine ⟨i, h1, ?_, h2, h3⟩
    rw [hr]
    simp only [Option.bind_some]
    by_cases hi : i < l.length
    · rw [cond_t (lt_t (by omega)), idx_lt hi, getD_lt hi]
      simp only [Option.bind_some]
      by_cases e : l[i] = x
      · rw [cond_t (by simpa using e), decide_eq_true ⟨hi, e⟩]; rfl
      · rw [cond_f (by simpa using e), decide_eq_false (fun h => e h.2)]
        simp only [m69, Option.bind_some, bne_self_eq_false, cond_false]
    · rw [cond_f (lt_f (by omega)), decide_eq_false (fun h => hi h.1)]; rfl
  · rintro _ ⟨i, j, rfl, h1, h2, h3, h4⟩
    by_cases hij : i < j
    · refine .inl ?_
      dsimp only
      have hm : (i + j) / 2 < l.length := by omega
      rw [cond_t (lt_t (by omega)), half (by omega) (by omega), idx_lt hm]
      simp only [Option.bind_some, m57_eq]
      rw [addI_nat (by omega)]
      by_cases hlt : l[(i + j) / 2] < x
      · refine ⟨_, by rw [lt_t hlt]; rfl, ⟨(i + j) / 2 + 1, j, rfl, by omega, h2, fun k hk => ?_, h4⟩, ?_⟩
        · rcases Nat.lt_or_ge k ((i + j) / 2) with e | e
          · have := hinc k ((i + j) / 2) e hm
            rw [getD_lt hm] at this
            omega
          · have : k = (i + j) / 2 := by omega
            subst this
            rw [getD_lt hm]; exact hlt
        · dsimp only; omega
      · refine ⟨_, by rw [lt_f hlt]; rfl, ⟨i, (i + j) / 2, rfl, by omega, by omega, h3, fun k hk hk2 => ?_⟩, ?_⟩
        · rcases Nat.lt_or_ge ((i + j) / 2) k with e | e
          · have := hinc ((i + j) / 2) k e hk2
            rw [getD_lt hm] at this
            omega
          · have : k = (i + j) / 2 := by omega
            subst this
            rw [getD_lt hm]; omega
        · dsimp only; omega
    · refine .inr ⟨_, cond_f (lt_f (by dsimp only; omega)), i, rfl, by omega, h3, ?_⟩
      have : i = j := by omega
      subst this; exact h4

/-- p is the place of a step in a division -/
def Plc (l : List Int) (x : Int) (p : Nat) : Prop := p < l.length ∧ l.getD p 0 ≤ x ∧ ∀ k, p < k → k < l.length → x < l.getD k 0

theorem at30 (s : SSequence) (l : List Int) (x : Int) : ∃ r, m30 s l x = some r ∧ (chkL s l true ≠ 0 → r = (0, chkL s l true)) ∧ (chkL s l true = 0 → x < 0 ∨ x ≥ s.Steps.length → r = (0, 2)) ∧ (chkL s l true = 0 → 0 ≤ x → x < s.Steps.length → ∃ p : Nat, r = ((p : Int), 0) ∧ Plc l x p) := by
  unfold m30 m28
  rw [m47_eq]
  simp only [Option.bind_some]
  by_cases h0 : chkL s l true = 0
  · have c0 : (chkL s l true != 0) = false := by simpa using h0
    rw [c0]
    simp only [cond_false]
    by_cases hx : x < 0 ∨ x ≥ s.Steps.length
    · refine ⟨(0, 2), ?_, fun h => (h h0).elim, fun _ _ => rfl, fun _ h1 h2 => by omega⟩
      rw [cond_t (by simpa using hx)]
    · have cx : (decide (x < 0) || decide (x ≥ (s.Steps.length : Int))) = false := by simp; omega
      rw [cx]
      simp only [cond_false]
      obtain ⟨hc, h, _⟩ := chkL_ok h0
      have hr := chk_right hc
      have hs := hr.n64
      have hle := h.le
      have hinc : ∀ i j, i < j → j < l.length → l.getD i 0 < l.getD j 0 := fun i j a b => h.mono a b
      obtain ⟨i, h1, e, h2, h3⟩ := m54_eq l x (by omega) hinc
      have hz := h.zero rfl
      have hpos := h.pos
      rw [e]
      simp only [Option.bind_some]
      by_cases hf : i < l.length ∧ l.getD i 0 = x
      · have hp : Plc l x i := ⟨hf.1, by omega, fun k hk hk2 => by have := hinc i k hk hk2; omega⟩
        rw [decide_eq_true hf]
        exact ⟨((i : Int), 0), rfl, fun h => (h h0).elim, fun _ h => (hx h).elim, fun _ _ _ => ⟨i, rfl, hp⟩⟩
      · have hi0 : 0 < i := by
          refine Nat.pos_of_ne_zero fun hc => ?_
          subst hc
          have := h3 0 (by omega) hpos
          exact hf ⟨hpos, by omega⟩
        have hp : Plc l x (i - 1) := by
          refine ⟨by omega, by have := h2 (i - 1) (by omega); omega, fun k hk hk2 => ?_⟩
          have h4 := h3 k (by omega) hk2
          rcases Nat.lt_or_ge i k with e | e
          · have := hinc i k e hk2
            have := h3 i (by omega) (by omega)
            omega
          · have : i = k := by omega
            subst this
            have : l.getD i 0 ≠ x := fun hc => hf ⟨hk2, hc⟩
            omega
        rw [decide_eq_false hf]
        refine ⟨(((i - 1 : Nat) : Int), 0), ?_, fun h => (h h0).elim, fun _ h => (hx h).elim, fun _ _ _ => ⟨i - 1, rfl, hp⟩⟩
        simp only [Bool.not_false, cond_true]
        rw [sub_nat hi0 (by omega)]
  · have c0 : (chkL s l true != 0) = true := by simpa using h0
    rw [c0]
    exact ⟨(0, chkL s l true), rfl, fun _ => rfl, fun hc => (h0 hc).elim, fun hc => (h0 hc).elim⟩
end G18

namespace G18
open Go Go.Pl
theorem m26_eq (l : List Int) (x : Int) (hl : l.length ≤ 1000) : m26 l x = some (decide (x ∈ l)) := by
  unfold m26 m49
  rw [iter_first (fun k : Nat => (k : Int)) (fun k => match l[k]? with | some b => bif x == b then some (k : Int) else none | none => none) l.length ?hn () ?h0 ?h ?he]
  case hn => unfold fuel; omega
  case h0 => rfl
  case he =>
    intro _
    try dsimp only
    rw [cond_f (lt_f (by omega))]
  case h =>
    intro k hk _
    try dsimp only
    rw [cond_t (lt_t (by omega)), idx_lt hk, List.getElem?_eq_getElem hk]
    simp only [Option.bind_some]
    rw [addI_nat (by omega)]
    cases x == l[k] <;> rfl
  cases hf : first l.length (fun k => match l[k]? with | some b => bif x == b then some (k : Int) else none | none => none) with
  | none =>
    rw [first_none_iff] at hf
    have : ¬ x ∈ l := by
      intro hb
      obtain ⟨k, hk, e⟩ := List.getElem_of_mem hb
      have := hf k hk
      rw [List.getElem?_eq_getElem hk] at this
      dsimp only at this
      rw [e] at this
      simp at this
    rw [decide_eq_false this]; rfl
  | some r =>
    unfold first at hf
    obtain ⟨k, hk, hr⟩ := List.exists_of_findSome?_eq_some hf
    have hk' : k < l.length := by simpa using hk
    rw [List.getElem?_eq_getElem hk'] at hr
    dsimp only at hr
    cases hb : x == l[k] with
    | false => rw [hb] at hr; simp at hr
    | true =>
      rw [hb] at hr
      simp only [cond_true, Option.some.injEq] at hr
      have e : x = l[k] := by simpa using hb
      have : x ∈ l := by rw [e]; exact List.getElem_mem hk'
      rw [decide_eq_true this]
      subst hr
      simp only [Option.bind_some, Sum.elim_inr]
      simp
end G18

namespace G18
open Go Go.Pl

theorem m33_eq (l : List Int) (hl : l.length ≤ 1000) (h : l.Pairwise (· < ·)) : m33 l = some true := by
  unfold m33
  rw [iter_fold (fun k : Nat => (l.length : Int) - 1 - k) (l.length - 1) ?hn (.inl ()) ?h0 ?h ?he]
  case hn => unfold fuel; omega
  case h0 => rw [subI_eq (by omega) (by omega)]; simp
  case he =>
    try dsimp only
    rw [cond_f (lt_f (by omega))]
  case h =>
    intro k hk
    try dsimp only
    have h1 : l.length - 1 - k < l.length := by omega
    have h2 : l.length - 1 - k - 1 < l.length := by omega
    have e1 : (l.length : Int) - 1 - k = ((l.length - 1 - k : Nat) : Int) := by omega
    have e2 : subI .i64 ((l.length - 1 - k : Nat) : Int) 1 = ((l.length - 1 - k - 1 : Nat) : Int) := sub_nat (by omega) (by omega)
    rw [cond_t (lt_t (by omega)), e1, e2, idx_lt h1, idx_lt h2]
    simp only [Option.bind_some, m57_eq]
    have := List.pairwise_iff_getElem.1 h (l.length - 1 - k - 1) (l.length - 1 - k) h2 h1 (by omega)
    rw [cond_f (lt_f (by omega))]
    congr 2
    omega
  rfl

theorem memb_sorted (s : SSequence) (f k : Nat) : (memb s f k).Pairwise (· < ·) := by
  unfold memb
  rw [List.pairwise_map]
  exact (List.Pairwise.filter _ List.pairwise_lt_range).imp (fun h => by omega)

/- counting strokes -/
def cnt (m : Nat) : Nat := ((List.range 6).filter fun a => m.testBit a).length
theorem filter_or (p q : Nat → Bool) (hd : ∀ a, ¬(p a = true ∧ q a = true)) : ∀ L : List Nat, (L.filter fun a => p a || q a).length = (L.filter p).length + (L.filter q).length
  | [] => rfl
  | a :: L => by
    have ih := filter_or p q hd L
    have := hd a
    cases hp : p a <;> cases hq : q a <;> simp_all
    all_goals omega
theorem cnt_or {x y : Nat} (h : x &&& y = 0) : cnt (x ||| y) = cnt x + cnt y := by
  unfold cnt
  rw [← filter_or _ _ (mask_and_zero.1 h)]
  congr 1
  congr 1
  funext a
  rw [Nat.testBit_or]
theorem cnt_pow {a : Nat} (h : a < 6) : cnt (2 ^ a) = 1 := by
  have : a = 0 ∨ a = 1 ∨ a = 2 ∨ a = 3 ∨ a = 4 ∨ a = 5 := by omega
  rcases this with rfl | rfl | rfl | rfl | rfl | rfl <;> decide

theorem StepOk.mono {x : SStep} (h : StepOk x) {i j : Nat} (hij : i < j) (hj : j < x.Strokes.length) : (x.Strokes[i]'(by omega)).Actuator < x.Strokes[j].Actuator := by
  induction j with
  | zero => omega
  | succ j ih =>
    have h1 := h.inc j hj
    by_cases e : i = j
    · subst e; exact h1
    · have := ih (by omega) (by omega); omega

theorem cnt_mask {x : SStep} (h : StepOk x) : cnt (mask x.Strokes) = x.Strokes.length := by
  have key : ∀ k, k ≤ x.Strokes.length → cnt (mask (x.Strokes.take k)) = k := by
    intro k
    induction k with
    | zero => intro _; rw [List.take_zero]; decide
    | succ k ih =>
      intro hk
      rw [mask_take (show k < x.Strokes.length by omega), cnt_or, ih (by omega), cnt_pow]
      · have := h.act k (by omega); omega
      · rw [mask_and_zero]
        intro i hi
        rw [mask_bit, Nat.testBit_two_pow, List.any_eq_true] at hi
        obtain ⟨⟨y, hy, hyi⟩, hki⟩ := hi
        obtain ⟨j, hj, rfl⟩ := List.getElem_of_mem hy
        rw [List.length_take] at hj
        rw [List.getElem_take] at hyi
        have h1 := h.mono (show j < k by omega) (show k < x.Strokes.length by omega)
        have h2 := h.act j (by omega)
        have h3 : x.Strokes[k].Actuator.toNat = i := by simpa using hki
        have h4 : x.Strokes[j].Actuator.toNat = i := by simpa using hyi
        omega
  have := key _ (Nat.le_refl _)
  rwa [List.take_of_length_le (Nat.le_refl _)] at this

def tot (s : SSequence) : Nat → Nat
  | 0 => 0
  | k + 1 => tot s k + (stp s k).Strokes.length

theorem tot_memb {s : SSequence} (h : Right s) (f : Nat) : ∀ k, alone s f k = true → tot s f + (memb s f k).length = tot s (f + k)
  | 0, _ => by
    have : memb s f 0 = [] := by simp [memb, acc]
    rw [this]; rfl
  | k + 1, ha => by
    obtain ⟨h1, h2⟩ := alone_succ.1 ha
    have ih := tot_memb h f k h1
    have e : ∀ k, (memb s f k).length = cnt (acc s f k) := fun k => by unfold memb cnt; rw [List.length_map]
    have e2 : cnt (mk s (f + k)) = (stp s (f + k)).Strokes.length := cnt_mask (stp_in h _).ok
    rw [e] at ih ⊢
    rw [acc, cnt_or h2, e2, ← Nat.add_assoc, ih, ← Nat.add_assoc, tot]

theorem tot_le {s : SSequence} (h : Right s) : ∀ k, tot s k ≤ 6 * k
  | 0 => by simp [tot]
  | k + 1 => by
    have := tot_le h k
    have := (stp_in h k).ok.le
    rw [tot]; omega

/-- the first step of a group, or the number of steps -/
def bnd (s : SSequence) (l : List Int) (k : Nat) : Nat := if k < l.length then fst' l k else s.Steps.length

theorem bnd_succ {s : SSequence} {l : List Int} (h : ListOk s l true) {k : Nat} (hk : k < l.length) : bnd s l (k + 1) = fst' l k + siz s l k := by
  have h1 := h.siz hk
  have h2 := h.fst hk
  have hz := h.zero rfl
  unfold bnd
  have e : nxt s l k = ((if k + 1 < l.length then fst' l (k + 1) else s.Steps.length : Nat) : Int) := by
    unfold nxt
    by_cases hc : k + 1 < l.length
    · rw [if_pos hc, if_pos hc]; exact (h.fst hc).1
    · rw [if_neg hc, if_neg hc]; omega
  omega

theorem pf_exists (s : SSequence) (l : List Int) (h0 : chkL s l true = 0) : ∃ pf : Nat → Nat, ∀ k, k < s.Steps.length → m30 s l (k : Int) = some ((pf k : Int), 0) ∧ Plc l (k : Int) (pf k) := by
  have key : ∀ k : Nat, ∃ p : Nat, k < s.Steps.length → m30 s l (k : Int) = some ((p : Int), 0) ∧ Plc l (k : Int) p := by
    intro k
    by_cases hk : k < s.Steps.length
    · obtain ⟨r, e1, _, _, h⟩ := at30 s l (k : Int)
      obtain ⟨p, rfl, hp⟩ := h h0 (by omega) (by omega)
      exact ⟨p, fun _ => ⟨e1, hp⟩⟩
    · exact ⟨0, fun h => (hk h).elim⟩
  exact ⟨fun k => Classical.choose (key k), fun k => Classical.choose_spec (key k)⟩

/-- the place of the step before -/
def prev (pf : Nat → Nat) (k : Nat) : Nat := if k = 0 then 0 else pf (k - 1)

theorem m21_eq (s : SSequence) (hs : Small s) : ∃ c, m21 s = some c ∧ (c = true → s.Steps.length ≤ 24 ∧ chk s = 0) := by
  unfold m21
  obtain ⟨b, hb⟩ := m11_eq s hs
  rw [hb, m37_eq s hs]
  simp only [Option.bind_some]
  by_cases h : (s.Steps.length : Int) ≤ 24
  · rw [cond_t (by simpa using h)]
    cases b with
    | false => exact ⟨false, rfl, fun h => by simp at h⟩
    | true => exact ⟨chk s == 0, rfl, fun hc => ⟨by omega, by simpa using hc⟩⟩
  · rw [cond_f (by simpa using h)]; exact ⟨false, rfl, fun h => by simp at h⟩

theorem m10_eq (s : SSequence) (hs : Small s) (l : List Int) : m10 s l = some true := by
  unfold m10
  obtain ⟨c, hc, hright⟩ := m21_eq s hs
  rw [hc]
  simp only [Option.bind_some]
  have fin : ((m12).bind fun v5 => some v5) = some true := by rw [awake_run]; rfl
  unfold m24
  rw [m46_eq s hs]
  simp only [Option.bind_some]
  have e : ((bif (!c) then some true else (bif decide ((l.length : Int) > 40) then some true else some (chkL s l true != 0))) : Option Bool) = some (!c || (decide ((l.length : Int) > 40) || (chkL s l true != 0))) := by
    cases c <;> cases decide ((l.length : Int) > 40) <;> rfl
  rw [e]
  simp only [Option.bind_some]
  cases hg : (!c || (decide ((l.length : Int) > 40) || (chkL s l true != 0))) with
  | true => exact fin
  | false =>
    rw [Bool.or_eq_false_iff, Bool.or_eq_false_iff] at hg
    obtain ⟨g1, _, g3⟩ := hg
    obtain ⟨h24, hc0⟩ := hright (by simpa using g1)
    have h0 : chkL s l true = 0 := by simpa using g3
    obtain ⟨_, h, hrl⟩ := chkL_ok h0
    rw [rightL_iff] at hrl
    have hr := chk_right hc0
    have hle := h.le
    have hn0 := hr.n0
    have hpos := h.pos
    rw [cond_false, m25_eq, if_pos h0]
    simp only [Option.bind_some]
    have hml : (mems s l).length = l.length := by simp [mems]
    rw [hml]
    have hz : (((0 : Int) != 0) || ((l.length : Int) != (l.length : Int))) = false := by simp
    rw [hz]
    simp only [cond_false]
    have hmk : ∀ k (hk : k < (mems s l).length), (mems s l)[k] = memb s (fst' l k) (siz s l k) := by
      intro k hk; simp [mems]
    have hb0 : bnd s l 0 = 0 := by
      unfold bnd
      have := h.zero rfl
      rw [if_pos hpos]; unfold fst'; omega
    rw [iter_fold (fun k : Nat => ((k : Int), (tot s (bnd s l k) : Int))) l.length ?hn (.inl (tot s s.Steps.length : Int)) ?h0 ?h ?he]
    case hn => unfold fuel; omega
    case h0 => rw [hb0]; rfl
    case he =>
      try dsimp only
      rw [cond_f (lt_f (by omega))]
      unfold bnd
      rw [if_neg (by omega)]
    case h =>
      intro k hk
      try dsimp only
      have hk' : k < (mems s l).length := by omega
      rw [cond_t (lt_t (by omega)), idx_lt hk', hmk k hk']
      simp only [Option.bind_some]
      have hl6 := filt_len (fun a => (acc s (fst' l k) (siz s l k)).testBit a) 6
      have hl6' : (memb s (fst' l k) (siz s l k)).length ≤ 6 := hl6
      rw [m33_eq _ (by omega) (memb_sorted s _ _)]
      simp only [Option.bind_some, Bool.not_true, cond_false]
      have e1 := tot_memb hr (fst' l k) (siz s l k) (hrl k hk)
      have e2 : bnd s l k = fst' l k := by unfold bnd; rw [if_pos hk]
      have hfl := (h.fst hk).2
      have := tot_le hr (fst' l k)
      have hn := hr.n64
      rw [e2, addI_nat (by omega), addI_eq (by omega) (by omega), bnd_succ h hk, ← e1]
      rfl
    simp only [Option.bind_some, Sum.elim_inl]
    obtain ⟨pf, hpf⟩ := pf_exists s l h0
    have hmono : ∀ k, k < s.Steps.length → prev pf k ≤ pf k ∧ pf k ≤ prev pf k + 1 := by
      intro k hk
      obtain ⟨p1, p2, p3⟩ := (hpf k hk).2
      unfold prev
      by_cases hk0 : k = 0
      · subst hk0
        rw [if_pos rfl]
        refine ⟨by omega, ?_⟩
        refine Classical.byContradiction fun hc => ?_
        have := h.mono (show 0 < pf 0 by omega) p1
        have := h.lo 0 hpos
        omega
      · rw [if_neg hk0]
        obtain ⟨q1, q2, q3⟩ := (hpf (k - 1) (by omega)).2
        constructor
        · refine Classical.byContradiction fun hc => ?_
          have := p3 (pf (k - 1)) (by omega) q1
          omega
        · refine Classical.byContradiction fun hc => ?_
          have h1 := q3 (pf (k - 1) + 1) (by omega) (by omega)
          have h2 := h.mono (show pf (k - 1) + 1 < pf k by omega) p1
          omega
    have hlast : prev pf s.Steps.length = l.length - 1 := by
      unfold prev
      rw [if_neg (by omega)]
      obtain ⟨q1, q2, q3⟩ := (hpf (s.Steps.length - 1) (by omega)).2
      refine Classical.byContradiction fun hc => ?_
      have h1 := q3 (l.length - 1) (by omega) (by omega)
      have h2 := h.hi (l.length - 1) (by omega)
      omega
    rw [iter_fold (fun k : Nat => ((prev pf k : Int), (k : Int), (tot s k : Int))) s.Steps.length ?hn (.inl (((l.length - 1 : Nat) : Int), (tot s s.Steps.length : Int))) ?h0 ?h ?he]
    case hn => unfold fuel; omega
    case h0 => rfl
    case he =>
      try dsimp only
      rw [cond_f (lt_f (by omega)), hlast]
    case h =>
      intro k hk
      try dsimp only
      obtain ⟨e1, p1, p2, p3⟩ := hpf k hk
      obtain ⟨m1, m2⟩ := hmono k hk
      rw [cond_t (lt_t (by omega)), idx_lt hk]
      simp only [Option.bind_some]
      rw [e1]
      simp only [Option.bind_some]
      have hple : prev pf k < 1000 := by omega
      rw [show addI .i64 ((prev pf k : Nat) : Int) 1 = ((prev pf k + 1 : Nat) : Int) from addI_nat (by omega)]
      rw [cond_f (by simp only [Bool.or_eq_false_iff, decide_eq_false_iff_not]; refine ⟨rfl, ?_, ?_, ?_⟩ <;> omega)]
      have hso := hr.step k hk
      have hsl := hso.ok.le
      rw [iter_list s.Steps[k].Strokes (fun _ => none) ?hn () ?h0 ?h ?he]
      case hn => unfold fuel; omega
      case h0 => rfl
      case he =>
        try dsimp only
        rw [cond_f (lt_f (by omega))]
      case h =>
        intro i hi
        try dsimp only
        have hk' : pf k < (mems s l).length := by omega
        rw [cond_t (lt_t (by omega)), idx_lt hi, idx_lt hk', hmk _ hk']
        simp only [Option.bind_some]
        have hl6 := filt_len (fun a => (acc s (fst' l (pf k)) (siz s l (pf k))).testBit a) 6
        have hl6' : (memb s (fst' l (pf k)) (siz s l (pf k))).length ≤ 6 := hl6
        obtain ⟨a1, a2⟩ := hso.ok.act i hi
        have hin : s.Steps[k].Strokes[i].Actuator ∈ memb s (fst' l (pf k)) (siz s l (pf k)) := by
          have ea : s.Steps[k].Strokes[i].Actuator = ((s.Steps[k].Strokes[i].Actuator.toNat : Nat) : Int) := by omega
          rw [ea, memb_mem (by omega), acc_bit_iff]
          have hfp := h.fst p1
          have hsp := h.siz p1
          have hup : (k : Int) < nxt s l (pf k) := by
            unfold nxt
            by_cases hc : pf k + 1 < l.length
            · rw [if_pos hc]; exact p3 _ (by omega) hc
            · have := h.zero rfl
              rw [if_neg hc]; omega
          refine ⟨k - fst' l (pf k), by omega, ?_⟩
          have : fst' l (pf k) + (k - fst' l (pf k)) = k := by omega
          rw [this, ← mk_hasA hr hk, ← ea]
          unfold hasA
          rw [List.any_eq_true]
          exact ⟨_, List.getElem_mem hi, by simp⟩
        rw [m26_eq _ _ (by omega), decide_eq_true hin]
        simp only [Option.bind_some, Bool.not_true, cond_false]
        rw [addI_nat (by omega)]
      have hnone : s.Steps[k].Strokes.findSome? (fun _ => (none : Option ((Int × Int × Int) ⊕ ((Int × Int) ⊕ Bool)))) = none := by simp [List.findSome?_eq_none_iff]
      rw [hnone]
      simp only [Option.bind_some, Sum.elim_inl]
      have := tot_le hr k
      rw [addI_nat (by omega), addI_eq (by omega) (by omega), tot, stp_lt hk]
      have hpv : prev pf (k + 1) = pf k := by unfold prev; rw [if_neg (by omega), Nat.add_sub_cancel]
      rw [hpv]
      rfl
    simp only [Option.bind_some, Sum.elim_inl]
    rw [sub_nat hpos (by omega)]
    simp only [beq_self_eq_true, cond_true]
    rw [fin]; rfl
end G18
