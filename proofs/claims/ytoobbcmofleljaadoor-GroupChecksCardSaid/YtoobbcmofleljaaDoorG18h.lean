/- Groups and lists of first steps, in plain words. No condition. -/
import Derived.Test.YtoobbcmofleljaaDoorG18d
import Derived.Test.YtoobbcmofleljaaDoorG18w
import Derived.Test.YtoobbcmofleljaaDoorG18a
namespace G18
open Go Go.Pl

theorem getD_lt {α : Type} {l : List α} {i : Nat} {d : α} (h : i < l.length) : l.getD i d = l[i] := by simp [List.getD, h]

/-- the step with a number, around the cycle -/
def stp (s : SSequence) (i : Nat) : SStep := s.Steps.getD (i % s.Steps.length) ⟨[], 0⟩
def mk (s : SSequence) (i : Nat) : Nat := mask (stp s i).Strokes
def alone (s : SSequence) (f k : Nat) : Bool := (List.range k).all fun i => (List.range i).all fun j => decide (mk s (f + i) &&& mk s (f + j) = 0)
def acc (s : SSequence) (f : Nat) : Nat → Nat
  | 0 => 0
  | k + 1 => acc s f k ||| mk s (f + k)

theorem stp_eq {s : SSequence} (h : Right s) (i : Nat) : ∃ hi : i % s.Steps.length < s.Steps.length, stp s i = s.Steps[i % s.Steps.length] := by
  have := h.n0
  have hi := Nat.mod_lt i this
  exact ⟨hi, by unfold stp; rw [getD_lt hi]⟩
theorem stp_in {s : SSequence} (h : Right s) (i : Nat) : StepIn s (stp s i) := by
  obtain ⟨hi, e⟩ := stp_eq h i
  rw [e]; exact h.step _ hi
theorem stp_lt {s : SSequence} {i : Nat} (hi : i < s.Steps.length) : stp s i = s.Steps[i] := by
  unfold stp
  have : i % s.Steps.length < s.Steps.length := by rw [Nat.mod_eq_of_lt hi]; exact hi
  rw [getD_lt this]
  congr 1
  exact Nat.mod_eq_of_lt hi
theorem mk_lt {s : SSequence} (h : Right s) (i : Nat) : mk s i < 64 := mask_lt _ (stp_in h i).ok.act
theorem acc_lt {s : SSequence} (h : Right s) (f : Nat) : ∀ k, acc s f k < 64
  | 0 => by simp [acc]
  | k + 1 => Nat.or_lt_two_pow (n := 6) (acc_lt h f k) (mk_lt h _)
theorem alone_iff {s : SSequence} {f k : Nat} : alone s f k = true ↔ ∀ i, i < k → ∀ j, j < i → mk s (f + i) &&& mk s (f + j) = 0 := by
  simp [alone, List.all_eq_true]
theorem alone_mono {s : SSequence} {f k m : Nat} (h : alone s f k = true) (hm : m ≤ k) : alone s f m = true := by
  rw [alone_iff] at h ⊢
  intro i hi j hj
  exact h i (by omega) j hj
theorem acc_bit (s : SSequence) (f a : Nat) : ∀ k, (acc s f k).testBit a = (List.range k).any fun i => (mk s (f + i)).testBit a
  | 0 => by simp [acc]
  | k + 1 => by rw [acc, Nat.testBit_or, acc_bit s f a k, List.range_succ, List.any_append]; simp
theorem acc_bit_iff {s : SSequence} {f k a : Nat} : (acc s f k).testBit a = true ↔ ∃ i, i < k ∧ (mk s (f + i)).testBit a = true := by
  rw [acc_bit, List.any_eq_true]
  constructor
  · rintro ⟨i, hi, h⟩; exact ⟨i, List.mem_range.1 hi, h⟩
  · rintro ⟨i, hi, h⟩; exact ⟨i, List.mem_range.2 hi, h⟩
theorem acc_zero {s : SSequence} {f k x : Nat} : acc s f k &&& x = 0 ↔ ∀ i, i < k → mk s (f + i) &&& x = 0 := by
  constructor
  · intro h i hi
    rw [mask_and_zero] at h ⊢
    intro a ha
    exact h a ⟨acc_bit_iff.2 ⟨i, hi, ha.1⟩, ha.2⟩
  · intro h
    rw [mask_and_zero]
    intro a ha
    obtain ⟨i, hi, hb⟩ := acc_bit_iff.1 ha.1
    exact (mask_and_zero.1 (h i hi)) a ⟨hb, ha.2⟩
theorem alone_succ {s : SSequence} {f k : Nat} : alone s f (k + 1) = true ↔ alone s f k = true ∧ acc s f k &&& mk s (f + k) = 0 := by
  rw [acc_zero]
  constructor
  · intro h
    refine ⟨alone_mono h (by omega), fun i hi => ?_⟩
    rw [Nat.and_comm]
    exact alone_iff.1 h k (by omega) i hi
  · rintro ⟨h1, h2⟩
    rw [alone_iff] at h1 ⊢
    intro i hi j hj
    by_cases e : i = k
    · subst e; rw [Nat.and_comm]; exact h2 j hj
    · exact h1 i (by omega) j hj

theorem remc_nat {x n : Nat} (h : 0 < n) : remc (x : Int) (n : Int) = some ((x % n : Nat) : Int) := by
  unfold remc
  rw [if_neg (by omega)]
  rfl

def onceG (s : SSequence) (f : Nat) (k : Nat) : Option (Int × Bool) := if acc s f k &&& mk s (f + k) = 0 then none else some ((acc s f k : Int), false)

theorem first_once {s : SSequence} {f : Nat} : ∀ k, (alone s f k = true → first k (onceG s f) = none) ∧ (alone s f k = false → ∃ m, first k (onceG s f) = some (m, false)) := by
  intro k
  constructor
  · intro h
    rw [first_none_iff]
    intro j hj
    unfold onceG
    rw [if_pos (alone_succ.1 (alone_mono h hj)).2]
  · intro h
    cases hf : first k (onceG s f) with
    | none =>
      exfalso
      rw [first_none_iff] at hf
      have : ∀ j, j ≤ k → alone s f j = true := by
        intro j
        induction j with
        | zero => intro _; rfl
        | succ j ih =>
          intro hj
          refine alone_succ.2 ⟨ih (by omega), ?_⟩
          have := hf j (by omega)
          unfold onceG at this
          refine Classical.byContradiction fun hc => ?_
          rw [if_neg hc] at this; simp at this
      rw [this k (Nat.le_refl _)] at h; simp at h
    | some r =>
      unfold first at hf
      obtain ⟨j, _, hj⟩ := List.exists_of_findSome?_eq_some hf
      unfold onceG at hj
      split at hj
      · simp at hj
      · injection hj with hj; exact ⟨_, by rw [← hj]⟩

theorem m44_eq {s : SSequence} (h : Right s) (f k : Nat) (hf : f < 1000000) (hk : k < 1000000) : ∃ m, m44 s (f : Int) (k : Int) = some (m, alone s f k) ∧ (alone s f k = true → m = (acc s f k : Int)) := by
  unfold m44
  have hn := h.n0
  have hn64 := h.n64
  rw [iter_first (fun i : Nat => ((i : Int), (acc s f i : Int))) (onceG s f) k ?hn ((acc s f k : Int)) ?h0 ?h ?he]
  case hn => unfold fuel; omega
  case h0 => rfl
  case he =>
    intro _
    try dsimp only
    rw [cond_f (lt_f (by omega))]
  case h =>
    intro i hi _
    try dsimp only
    have hlt := Nat.mod_lt (f + i) hn
    rw [cond_t (lt_t (by omega)), show addI .i64 (f : Int) (i : Int) = ((f + i : Nat) : Int) by rw [addI_eq (by omega) (by omega)]; omega, remc_nat hn]
    simp only [Option.bind_some]
    rw [idx_lt hlt]
    simp only [Option.bind_some]
    obtain ⟨_, e⟩ := stp_eq h (f + i)
    rw [m36_eq (h.step _ hlt).ok, ← e]
    simp only [Option.bind_some]
    have b1 := acc_lt h f i
    have b2 := mk_lt h (f + i)
    have e2 : mask (stp s (f + i)).Strokes = mk s (f + i) := rfl
    rw [e2, andI_nat (by omega) (by omega), orI_nat (by omega) (by omega), addI_nat (by omega)]
    unfold onceG
    by_cases hz : acc s f i &&& mk s (f + i) = 0
    · rw [if_pos hz, hz]; rfl
    · rw [if_neg hz, cond_t (by simp; omega)]
  obtain ⟨h1, h2⟩ := first_once (s := s) (f := f) k
  cases ha : alone s f k with
  | true => rw [h1 ha]; exact ⟨_, rfl, fun _ => rfl⟩
  | false =>
    obtain ⟨m, hm⟩ := h2 ha
    rw [hm]; exact ⟨_, rfl, fun h => by simp at h⟩

theorem share_mk {s : SSequence} (h : Right s) (i j : Nat) : share s (stp s i) (stp s j) = !decide (mk s i &&& mk s j = 0) := share_mask (stp_in h i) (stp_in h j)

theorem all_any {p : Nat → Bool} (k : Nat) : (List.range k).all p = !(List.range k).any fun i => !p i := by
  rw [List.all_eq_not_any_not]

theorem m78_eq {s : SSequence} (h : Right s) (f k : Nat) (hf : f < 1000000) (hk : k < 1000000) : m78 s (f : Int) (k : Int) = some (alone s f k) := by
  unfold m78
  have hn := h.n0
  have hn64 := h.n64
  rw [iter_list (List.range k) (fun i => bif (List.range i).any fun j => !decide (mk s (f + i) &&& mk s (f + j) = 0) then some false else none) ?hn () ?h0 ?h ?he]
  case hn => unfold fuel; simp; omega
  case h0 => rfl
  case he =>
    try dsimp only
    rw [cond_f (lt_f (by simp))]
  case h =>
    intro i hi
    have hi' : i < k := by simpa using hi
    try dsimp only
    rw [cond_t (lt_t (by omega))]
    rw [iter_list (List.range i) (fun j => bif !decide (mk s (f + i) &&& mk s (f + j) = 0) then some (.inr (.inr false)) else none) ?hn () ?h0 ?h ?he]
    case hn => unfold fuel; simp; omega
    case h0 => rfl
    case he =>
      try dsimp only
      rw [cond_f (lt_f (by simp))]
    case h =>
      intro j hj
      have hj' : j < i := by simpa using hj
      try dsimp only
      rw [cond_t (lt_t (by omega)), show addI .i64 (f : Int) (i : Int) = ((f + i : Nat) : Int) by rw [addI_eq (by omega) (by omega)]; omega,
        show addI .i64 (f : Int) (j : Int) = ((f + j : Nat) : Int) by rw [addI_eq (by omega) (by omega)]; omega, remc_nat hn, remc_nat hn]
      simp only [Option.bind_some, List.getElem_range]
      obtain ⟨l1, e1⟩ := stp_eq h (f + i)
      obtain ⟨l2, e2⟩ := stp_eq h (f + j)
      rw [m38_eq h l1 l2, ← e1, ← e2, share_mk h, addI_nat (by omega)]
      simp only [Option.bind_some]
      cases decide (mk s (f + i) &&& mk s (f + j) = 0) <;> rfl
    rw [findSome_if, List.getElem_range, addI_nat (by omega)]
    cases (List.range i).any fun j => !decide (mk s (f + i) &&& mk s (f + j) = 0) <;> rfl
  rw [findSome_if]
  have : alone s f k = !(List.range k).any fun i => (List.range i).any fun j => !decide (mk s (f + i) &&& mk s (f + j) = 0) := by
    unfold alone
    rw [all_any]
    congr 1
    congr 1
    funext i
    rw [all_any, Bool.not_not]
  rw [this]
  cases (List.range k).any fun i => (List.range i).any fun j => !decide (mk s (f + i) &&& mk s (f + j) = 0) <;> rfl
end G18

namespace G18
open Go Go.Pl

def listG (s : SSequence) (l : List Int) (k : Nat) : Option Int :=
  if l.getD k 0 < 0 ∨ (s.Steps.length : Int) ≤ l.getD k 0 then some 2 else if 0 < k ∧ l.getD k 0 ≤ l.getD (k - 1) 0 then some 9 else none

/-- what is wrong with a list of first steps -/
def listE (s : SSequence) (l : List Int) (b : Bool) : Int :=
  if l.length = 0 then 13 else if s.Steps.length < l.length then 5 else if b = true ∧ l.getD 0 0 ≠ 0 then 3 else
  match first l.length (listG s l) with | some r => r | none => 0

theorem m65_eq (s : SSequence) (hs : s.Steps.length ≤ 64) (l : List Int) (b : Bool) : m65 s l b = some (listE s l b) := by
  unfold m65 listE
  by_cases h1 : l.length = 0
  · rw [cond_t (by simpa using h1), if_pos h1]
  rw [cond_f (by simpa using h1), if_neg h1]
  by_cases h2 : s.Steps.length < l.length
  · rw [cond_t (by simp; omega), if_pos h2]
  rw [cond_f (by simp; omega), if_neg h2]
  have e0 : idx l (0 : Int) = some (l.getD 0 0) := by
    have := idx_lt (l := l) (k := 0) (by omega)
    rw [getD_lt (by omega)]; exact this
  have e1 : ((bif b then (idx l 0).bind fun v5 => some (v5 != 0) else some false) : Option Bool) = some (decide (b = true ∧ l.getD 0 0 ≠ 0)) := by
    cases b with
    | false => simp
    | true =>
      rw [e0]; simp only [Option.bind_some, cond_true, true_and]
      by_cases hz : l.getD 0 0 = 0
      · rw [hz]; rfl
      · rw [decide_eq_true hz, bne_iff_ne.2 hz]
  rw [e1]
  simp only [Option.bind_some]
  by_cases h3 : b = true ∧ l.getD 0 0 ≠ 0
  · rw [if_pos h3, cond_t (decide_eq_true h3)]
  rw [if_neg h3, cond_f (decide_eq_false h3)]
  rw [iter_first (fun k : Nat => (k : Int)) (listG s l) l.length ?hn () ?h0 ?h ?he]
  case hn => unfold fuel; omega
  case h0 => rfl
  case he =>
    intro _
    try dsimp only
    rw [cond_f (lt_f (by omega))]
  case h =>
    intro k hk _
    try dsimp only
    rw [cond_t (lt_t (by omega)), idx_lt hk]
    simp only [Option.bind_some]
    unfold listG
    rw [getD_lt hk]
    by_cases h4 : l[k] < 0
    · rw [cond_t (lt_t h4), if_pos (.inl h4)]; rfl
    rw [cond_f (lt_f h4)]
    simp only [Option.bind_some]
    by_cases h5 : (s.Steps.length : Int) ≤ l[k]
    · rw [if_pos (.inr h5), cond_t (by simpa using h5)]
    rw [cond_f (by simp; omega), if_neg (by omega)]
    by_cases hk0 : k = 0
    · subst hk0
      rw [if_neg (by omega), cond_f (by simp)]
      rfl
    · rw [cond_t (by simp; omega), sub_nat (by omega) (by omega), idx_lt (show k - 1 < l.length by omega), getD_lt (show k - 1 < l.length by omega)]
      simp only [Option.bind_some]
      by_cases h6 : l[k] ≤ l[k - 1]
      · rw [if_pos ⟨by omega, h6⟩, cond_t (by simpa using h6)]
      · rw [if_neg (by omega), cond_f (by simpa using h6), addI_nat (by omega)]
  cases first l.length (listG s l) <;> rfl

theorem m68_eq (s : SSequence) (l : List Int) (b : Bool) : m68 s l b = m65 s l b := by
  unfold m68 m65
  congr 1
  congr 1
  congr 1
  funext w3
  congr 1
  congr 1
  congr 1
  funext s7
  congr 1
  cases idx l s7 with
  | none => rfl
  | some v =>
    simp only [Option.bind_some]
    cases decide (v < 0) <;> cases decide (v ≥ (s.Steps.length : Int)) <;> rfl

/-- a list of first steps that is right -/
structure ListOk (s : SSequence) (l : List Int) (b : Bool) : Prop where
  pos : 0 < l.length
  le : l.length ≤ s.Steps.length
  zero : b = true → l.getD 0 0 = 0
  lo : ∀ k, k < l.length → 0 ≤ l.getD k 0
  hi : ∀ k, k < l.length → l.getD k 0 < s.Steps.length
  inc : ∀ k, k + 1 < l.length → l.getD k 0 < l.getD (k + 1) 0

theorem listE_ok {s : SSequence} {l : List Int} {b : Bool} (h : listE s l b = 0) : ListOk s l b := by
  unfold listE at h
  split at h
  · omega
  split at h
  · omega
  split at h
  · omega
  rename_i h1 h2 h3
  split at h
  · rename_i r hr
    exfalso
    unfold first at hr
    obtain ⟨k, _, hk⟩ := List.exists_of_findSome?_eq_some hr
    subst h
    unfold listG at hk
    split at hk
    · simp at hk
    · split at hk <;> simp at hk
  · rename_i hr
    rw [first_none_iff] at hr
    have hb : ∀ k, k < l.length → ¬(l.getD k 0 < 0 ∨ (s.Steps.length : Int) ≤ l.getD k 0) ∧ ¬(0 < k ∧ l.getD k 0 ≤ l.getD (k - 1) 0) := by
      intro k hk
      have := hr k hk
      unfold listG at this
      split at this
      · simp at this
      · split at this
        · simp at this
        · exact ⟨by assumption, by assumption⟩
    refine ⟨by omega, by omega, fun hb => ?_, fun k hk => ?_, fun k hk => ?_, fun k hk => ?_⟩
    · exact Classical.byContradiction fun hc => h3 ⟨hb, hc⟩
    · have := (hb k hk).1; omega
    · have := (hb k hk).1; omega
    · have := (hb (k + 1) hk).2
      rw [Nat.add_sub_cancel] at this; omega

theorem listE_of {s : SSequence} {l : List Int} {b : Bool} (h : ListOk s l b) : listE s l b = 0 := by
  unfold listE
  have := h.pos
  have := h.le
  rw [if_neg (by omega), if_neg (by omega), if_neg (fun hc => hc.2 (h.zero hc.1)), first_none]
  intro k hk
  unfold listG
  have h1 := h.lo k hk
  have h2 := h.hi k hk
  rw [if_neg (by omega)]
  by_cases hk0 : k = 0
  · rw [if_neg (by omega)]
  · have := h.inc (k - 1) (by omega)
    rw [Nat.sub_add_cancel (by omega)] at this
    rw [if_neg (by omega)]

theorem ListOk.mono {s : SSequence} {l : List Int} {b : Bool} (h : ListOk s l b) {i j : Nat} (hij : i < j) (hj : j < l.length) : l.getD i 0 < l.getD j 0 := by
  induction j with
  | zero => omega
  | succ j ih =>
    have h1 := h.inc j hj
    by_cases e : i = j
    · subst e; exact h1
    · have := ih (by omega) (by omega); omega

/-- where a group ends -/
def nxt (s : SSequence) (l : List Int) (i : Nat) : Int := if i + 1 < l.length then l.getD (i + 1) 0 else s.Steps.length + l.getD 0 0

/-- a group's first step and its size -/
def fst' (l : List Int) (i : Nat) : Nat := (l.getD i 0).toNat
def siz (s : SSequence) (l : List Int) (i : Nat) : Nat := (nxt s l i - l.getD i 0).toNat

theorem ListOk.fst {s : SSequence} {l : List Int} {b : Bool} (h : ListOk s l b) {i : Nat} (hi : i < l.length) : l.getD i 0 = (fst' l i : Int) ∧ fst' l i < s.Steps.length := by
  have h1 := h.lo i hi
  have h2 := h.hi i hi
  unfold fst'; omega
theorem ListOk.nx {s : SSequence} {l : List Int} {b : Bool} (h : ListOk s l b) {i : Nat} (hi : i < l.length) : l.getD i 0 < nxt s l i ∧ nxt s l i < 2 * s.Steps.length := by
  have := h.lo i hi
  have := h.hi i hi
  have := h.lo 0 h.pos
  have := h.hi 0 h.pos
  unfold nxt
  split
  · rename_i hc
    have := h.inc i hc
    have := h.hi (i + 1) hc
    omega
  · omega
theorem ListOk.siz {s : SSequence} {l : List Int} {b : Bool} (h : ListOk s l b) {i : Nat} (hi : i < l.length) : nxt s l i - l.getD i 0 = (siz s l i : Int) ∧ siz s l i < 2 * s.Steps.length ∧ 0 < siz s l i := by
  obtain ⟨h1, h2⟩ := h.nx hi
  have := h.lo i hi
  unfold G18.siz; omega

theorem m52_eq {s : SSequence} {l : List Int} {b : Bool} (h : ListOk s l b) (hs : s.Steps.length ≤ 64) {i : Nat} (hi : i < l.length) : m52 s l (i : Int) = some (nxt s l i) := by
  have := h.le
  unfold m52 nxt
  rw [addI_nat (by omega)]
  by_cases hc : i + 1 < l.length
  · rw [if_pos hc, cond_t (lt_t (by omega)), idx_lt hc, getD_lt hc]; rfl
  · have hp := h.pos
    have h0 := idx_lt (l := l) (k := 0) hp
    have h1 := h.lo 0 hp
    have h2 := h.hi 0 hp
    rw [getD_lt hp] at h1 h2
    rw [if_neg hc, cond_f (lt_f (by omega)), show (0 : Int) = ((0 : Nat) : Int) from rfl, h0, getD_lt hp]
    simp only [Option.bind_some]
    rw [addI_eq (by omega) (by omega)]

theorem m48_eq {s : SSequence} {l : List Int} {b : Bool} (h : ListOk s l b) (hs : s.Steps.length ≤ 64) : m48 s l = some ((List.range l.length).map fun i => (siz s l i : Int)) := by
  have := h.le
  unfold m48
  rw [iter_fold (fun k : Nat => ((List.range k).map (fun i => (siz s l i : Int)), (k : Int))) l.length ?hn ((List.range l.length).map fun i => (siz s l i : Int)) ?h0 ?h ?he]
  case hn => unfold fuel; omega
  case h0 => rfl
  case he =>
    try dsimp only
    rw [cond_f (lt_f (by omega))]
  case h =>
    intro k hk
    try dsimp only
    have hp := h.pos
    have h0 := idx_lt (l := l) (k := 0) hp
    have h1 := h.lo 0 hp
    have h2 := h.hi 0 hp
    have hm := m52_eq h hs hk
    have hsz := h.siz hk
    have hlo := h.lo k hk
    obtain ⟨hn1, hn2⟩ := h.nx hk
    rw [getD_lt hk] at hsz hlo hn1
    rw [cond_t (lt_t (by omega)), idx_lt hk, show idx l (0 : Int) = some l[0] from h0]
    simp only [Option.bind_some]
    have e : ((bif (decide ((addI .i64 (k : Int) 1) < (l.length : Int))) then (idx l (addI .i64 (k : Int) 1)).bind fun v8 => some v8 else some (addI .i64 l[0] (s.Steps.length : Int))) : Option (Int)) = some (nxt s l k) := by
      rw [getD_lt hp] at h1 h2
      rw [← hm]
      unfold m52
      rw [show idx l (0 : Int) = some l[0] from h0]
      simp only [Option.bind_some]
      rw [addI_eq (x := l[0]) (by omega) (by omega), addI_eq (x := (s.Steps.length : Int)) (by omega) (by omega), Int.add_comm]
    rw [e]
    simp only [Option.bind_some]
    rw [appc_eq (by simp; omega) (by simp; omega), subI_eq (by omega) (by omega), hsz.1, addI_nat (by omega)]
    simp only [Option.bind_some]
    rw [List.range_succ, List.map_append]
    rfl
  rfl

/-- has no group an actuator that moves twice? -/
def rightL (s : SSequence) (l : List Int) : Bool := (List.range l.length).all fun i => alone s (fst' l i) (siz s l i)

theorem m66_eq {s : SSequence} (hr : Right s) {l : List Int} {b : Bool} (h : ListOk s l b) : m66 s l = some (rightL s l) := by
  have hs := hr.n64
  have := h.le
  unfold m66
  rw [iter_list (List.range l.length) (fun i => bif !alone s (fst' l i) (siz s l i) then some false else none) ?hn () ?h0 ?h ?he]
  case hn => unfold fuel; simp; omega
  case h0 => rfl
  case he =>
    try dsimp only
    rw [cond_f (lt_f (by simp))]
  case h =>
    intro k hk
    have hk' : k < l.length := by simpa using hk
    try dsimp only
    have hsz := h.siz hk'
    have hf := h.fst hk'
    obtain ⟨hn1, hn2⟩ := h.nx hk'
    have hlo := h.lo k hk'
    have hm := m52_eq h hs hk'
    rw [cond_t (lt_t (by omega)), idx_lt hk']
    simp only [Option.bind_some]
    rw [hm]
    simp only [Option.bind_some, List.getElem_range]
    rw [← getD_lt (d := 0) hk', subI_eq (by omega) (by omega), hsz.1, hf.1, m78_eq hr _ _ (by omega) (by omega), addI_nat (by omega)]
    simp only [Option.bind_some]
    cases alone s (fst' l k) (siz s l k) <;> rfl
  rw [findSome_if]
  unfold rightL
  rw [all_any]
  cases (List.range l.length).any fun i => !alone s (fst' l i) (siz s l i) <;> rfl

def chkL (s : SSequence) (l : List Int) (b : Bool) : Int := if chk s ≠ 0 then chk s else if listE s l b ≠ 0 then listE s l b else if rightL s l = true then 0 else 7

theorem m46_eq (s : SSequence) (hs : Small s) (l : List Int) (b : Bool) : m46 s l b = some (chkL s l b) := by
  unfold m46 chkL
  rw [m37_eq s hs]
  simp only [Option.bind_some]
  by_cases h0 : chk s = 0
  · have hr := chk_right h0
    rw [cond_f (by simpa using h0), if_neg (by simpa using h0), m65_eq s hr.n64]
    simp only [Option.bind_some]
    by_cases h1 : listE s l b = 0
    · rw [cond_f (by simpa using h1), if_neg (by simpa using h1), m66_eq hr (listE_ok h1)]
      cases rightL s l <;> rfl
    · rw [cond_t (by simpa using h1), if_pos h1]
  · rw [cond_t (by simpa using h0), if_pos h0]

theorem m47_eq (s : SSequence) (l : List Int) (b : Bool) : m47 s l b = some (chkL s l b) := by
  unfold m47 chkL
  rw [m35_eq s]
  simp only [Option.bind_some]
  by_cases h0 : chk s = 0
  · have hr := chk_right h0
    have hs := hr.n64
    rw [cond_f (by simpa using h0), if_neg (by simpa using h0), m68_eq, m65_eq s hr.n64]
    simp only [Option.bind_some]
    by_cases h1 : listE s l b = 0
    · have h := listE_ok h1
      have hle := h.le
      rw [cond_f (by simpa using h1), if_neg (by simpa using h1), m48_eq h hs]
      simp only [Option.bind_some, List.length_map, List.length_range]
      rw [iter_list (List.range l.length) (fun i => bif !alone s (fst' l i) (siz s l i) then some 7 else none) ?hn () ?h0 ?h ?he]
      case hn => unfold fuel; simp; omega
      case h0 => rfl
      case he =>
        try dsimp only
        rw [cond_f (lt_f (by simp))]
      case h =>
        intro k hk
        have hk' : k < l.length := by simpa using hk
        try dsimp only
        have hsz := h.siz hk'
        have hf := h.fst hk'
        rw [cond_t (lt_t (by omega)), idx_lt (show k < ((List.range l.length).map fun i => (siz s l i : Int)).length by simpa using hk), idx_lt hk']
        simp only [Option.bind_some, List.getElem_map, List.getElem_range]
        rw [← getD_lt (d := 0) hk', hf.1]
        obtain ⟨m, e, _⟩ := m44_eq hr (fst' l k) (siz s l k) (by omega) (by omega)
        rw [e, addI_nat (by omega)]
        simp only [Option.bind_some]
        cases alone s (fst' l k) (siz s l k) <;> rfl
      rw [findSome_if]
      unfold rightL
      rw [all_any]
      cases (List.range l.length).any fun i => !alone s (fst' l i) (siz s l i) <;> rfl
    · rw [cond_t (by simpa using h1), if_pos h1]
  · rw [cond_t (by simpa using h0), if_pos h0]

theorem chkL_ok {s : SSequence} {l : List Int} {b : Bool} (h : chkL s l b = 0) : chk s = 0 ∧ ListOk s l b ∧ rightL s l = true := by
  unfold chkL at h
  split at h
  · rename_i h0; exact (h0 h).elim
  split at h
  · rename_i h0; exact (h0 h).elim
  rename_i h0 h1
  split at h
  · exact ⟨by simpa using h0, listE_ok (by simpa using h1), by assumption⟩
  · omega
theorem chkL_of {s : SSequence} {l : List Int} {b : Bool} (h0 : chk s = 0) (h1 : ListOk s l b) (h2 : rightL s l = true) : chkL s l b = 0 := by
  unfold chkL
  rw [if_neg (by simpa using h0), if_neg (by simpa using listE_of h1), if_pos h2]
theorem rightL_iff {s : SSequence} {l : List Int} : rightL s l = true ↔ ∀ i, i < l.length → alone s (fst' l i) (siz s l i) = true := by
  simp [rightL, List.all_eq_true]
end G18

namespace G18
open Go Go.Pl

def memb (s : SSequence) (f k : Nat) : List Int := ((List.range 6).filter fun a => (acc s f k).testBit a).map fun a : Nat => (a : Int)
def mems (s : SSequence) (l : List Int) : List (List Int) := (List.range l.length).map fun i => memb s (fst' l i) (siz s l i)

theorem filt_succ (p : Nat → Bool) (a : Nat) : ((List.range (a + 1)).filter p).map (fun a : Nat => (a : Int)) = if p a = true then ((List.range a).filter p).map (fun a : Nat => (a : Int)) ++ [(a : Int)] else ((List.range a).filter p).map (fun a : Nat => (a : Int)) := by
  rw [List.range_succ, List.filter_append, List.map_append]
  by_cases h : p a = true
  · rw [if_pos h]; simp [h]
  · rw [if_neg h]; simp [h]
theorem filt_len (p : Nat → Bool) (a : Nat) : (((List.range a).filter p).map (fun a : Nat => (a : Int))).length ≤ a := by
  rw [List.length_map]
  exact Nat.le_trans (List.length_filter_le _ _) (by simp)

theorem and_bit (x a : Nat) : (((x &&& 2 ^ a : Nat) : Int) != 0) = x.testBit a := by
  have key : x &&& 2 ^ a = 0 ↔ x.testBit a = false := by
    rw [mask_and_zero]
    constructor
    · intro h
      have := h a
      rw [Nat.testBit_two_pow] at this
      simpa using this
    · intro h i hi
      rw [Nat.testBit_two_pow] at hi
      have : a = i := by simpa using hi.2
      subst this
      rw [h] at hi; simp at hi
  cases hb : x.testBit a with
  | false => rw [key.2 hb]; rfl
  | true =>
    rw [bne_iff_ne]
    intro hc
    have := key.1 (by omega)
    rw [hb] at this; simp at this

theorem m25_eq (s : SSequence) (l : List Int) : m25 s l = some (if chkL s l true = 0 then (mems s l, 0) else ([], chkL s l true)) := by
  unfold m25 m28
  rw [m47_eq]
  simp only [Option.bind_some]
  by_cases h0 : chkL s l true = 0
  · obtain ⟨hc, h, hrl⟩ := chkL_ok h0
    have hr := chk_right hc
    have hs := hr.n64
    have hle := h.le
    rw [rightL_iff] at hrl
    rw [if_pos h0, cond_f (by simpa using h0), m48_eq h hs]
    simp only [Option.bind_some, List.length_map, List.length_range]
    rw [iter_fold (fun k : Nat => ((List.range k).map (fun i => memb s (fst' l i) (siz s l i)), (k : Int))) l.length ?hn (mems s l) ?h0 ?h ?he]
    case hn => unfold fuel; omega
    case h0 => rfl
    case he =>
      try dsimp only
      rw [cond_f (lt_f (by omega))]
      rfl
    case h =>
      intro k hk
      try dsimp only
      have hsz := h.siz hk
      have hf := h.fst hk
      rw [cond_t (lt_t (by omega)), idx_lt (show k < ((List.range l.length).map fun i => (siz s l i : Int)).length by simpa using hk), idx_lt hk]
      simp only [Option.bind_some, List.getElem_map, List.getElem_range]
      rw [← getD_lt (d := 0) hk, hf.1]
      obtain ⟨m, e, hm⟩ := m44_eq hr (fst' l k) (siz s l k) (by omega) (by omega)
      rw [e, addI_nat (by omega)]
      simp only [Option.bind_some]
      rw [hm (hrl k hk)]
      rw [iter_fold (fun a : Nat => (((List.range a).filter fun a => (acc s (fst' l k) (siz s l k)).testBit a).map (fun a : Nat => (a : Int)), (a : Int))) 6 ?hn (memb s (fst' l k) (siz s l k)) ?h0 ?h ?he]
      case hn => unfold fuel; omega
      case h0 => rfl
      case he => rfl
      case h =>
        intro a ha
        try dsimp only
        have hb := acc_lt hr (fst' l k) (siz s l k)
        have hai : aidx (⟨[1, 2, 4, 8, 16, 32], rfl⟩ : Arr 6 Int) (a : Int) = some ((2 ^ a : Nat) : Int) := bits_idx (a := (a : Int)) (by omega) (by omega)
        have hp : 2 ^ a < 18446744073709551616 := Nat.pow_lt_pow_right (a := 2) (by omega) (show a < 64 by omega)
        rw [cond_t (lt_t (by omega)), hai]
        simp only [Option.bind_some]
        rw [andI_nat (by omega) hp, and_bit, filt_succ, addI_nat (by omega)]
        cases (acc s (fst' l k) (siz s l k)).testBit a with
        | false => rfl
        | true =>
          have := filt_len (fun a => (acc s (fst' l k) (siz s l k)).testBit a) a
          rw [cond_true, appc_eq (by simp only [List.length_singleton]; omega) (by simp only [List.length_singleton]; omega)]
          rfl
      simp only [Option.bind_some]
      rw [appc_eq (by simp; omega) (by simp; omega), List.range_succ, List.map_append]
      rfl
    rfl
  · rw [if_neg h0, cond_t (by simpa using h0)]

theorem mk_hasA {s : SSequence} (h : Right s) {i : Nat} (hi : i < s.Steps.length) (a : Nat) : hasA s.Steps[i] (a : Int) = (mk s i).testBit a := by
  rw [hasA_bit (h.step i hi).ok, ← stp_lt hi]; rfl

theorem acc_far {s : SSequence} (h : Right s) (f k a : Nat) (ha : s.Actuators.toNat ≤ a) : (acc s f k).testBit a = false := by
  cases hb : (acc s f k).testBit a with
  | false => rfl
  | true =>
    exfalso
    obtain ⟨i, _, h1⟩ := acc_bit_iff.1 hb
    have h2 : (mask (stp s (f + i)).Strokes).testBit a = true := h1
    rw [← hasA_bit (stp_in h _).ok] at h2
    have := hasA_lt (stp_in h _) h2
    omega

theorem filt_far (p : Nat → Bool) (a : Nat) (ha : ∀ b, a ≤ b → p b = false) : ∀ d, (List.range (a + d)).filter p = (List.range a).filter p
  | 0 => rfl
  | d + 1 => by
    rw [← Nat.add_assoc, List.range_succ, List.filter_append, filt_far p a ha d]
    simp [ha (a + d) (by omega)]

theorem nxt_le {s : SSequence} {l : List Int} (h : ListOk s l true) {i : Nat} : nxt s l i ≤ s.Steps.length := by
  unfold nxt
  split
  · rename_i hc
    have := h.hi (i + 1) hc
    omega
  · have := h.zero rfl
    omega

theorem m29_eq (s : SSequence) (hsm : Small s) (l : List Int) : m29 s l = some (if chkL s l true = 0 then (mems s l, 0) else ([], chkL s l true)) := by
  unfold m29 m24
  rw [m46_eq s hsm]
  simp only [Option.bind_some]
  by_cases h0 : chkL s l true = 0
  · obtain ⟨hc, h, hrl⟩ := chkL_ok h0
    have hr := chk_right hc
    have hs := hr.n64
    have hle := h.le
    have hA := hr.a6
    have hA1 := hr.a1
    rw [rightL_iff] at hrl
    rw [if_pos h0, cond_f (by simpa using h0)]
    rw [iter_fold (fun k : Nat => ((List.range k).map (fun i => memb s (fst' l i) (siz s l i)), (k : Int))) l.length ?hn (mems s l) ?h0 ?h ?he]
    case hn => unfold fuel; omega
    case h0 => rfl
    case he =>
      try dsimp only
      rw [cond_f (lt_f (by omega))]
      rfl
    case h =>
      intro k hk
      try dsimp only
      have hsz := h.siz hk
      have hf := h.fst hk
      have hnl := nxt_le (i := k) h
      have hal := hrl k hk
      rw [cond_t (lt_t (by omega))]
      rw [iter_fold (fun a : Nat => (((List.range a).filter fun a => (acc s (fst' l k) (siz s l k)).testBit a).map (fun a : Nat => (a : Int)), (a : Int))) s.Actuators.toNat ?hn (memb s (fst' l k) (siz s l k)) ?h0 ?h ?he]
      case hn => unfold fuel; omega
      case h0 => rfl
      case he =>
        try dsimp only
        rw [cond_f (lt_f (by omega))]
        unfold memb
        have := filt_far (fun a => (acc s (fst' l k) (siz s l k)).testBit a) s.Actuators.toNat (fun b hb => acc_far hr _ _ b hb) (6 - s.Actuators.toNat)
        rw [show s.Actuators.toNat + (6 - s.Actuators.toNat) = 6 by omega] at this
        rw [this]
      case h =>
        intro a ha
        try dsimp only
        rw [cond_t (lt_t (by omega)), idx_lt hk]
        simp only [Option.bind_some]
        rw [← getD_lt (d := 0) hk, hf.1]
        have hq := filt_len (fun a => (acc s (fst' l k) (siz s l k)).testBit a) a
        rw [iter_fold (fun j : Nat => (((List.range a).filter fun a => (acc s (fst' l k) (siz s l k)).testBit a).map (fun a : Nat => (a : Int)) ++ (if (acc s (fst' l k) j).testBit a = true then [(a : Int)] else []), ((fst' l k + j : Nat) : Int))) (siz s l k) ?hn
          (((List.range (a + 1)).filter fun a => (acc s (fst' l k) (siz s l k)).testBit a).map (fun a : Nat => (a : Int))) ?h0 ?h ?he]
        case hn => unfold fuel; omega
        case h0 => simp [acc]
        case he =>
          try dsimp only
          rw [m52_eq h hs hk]
          simp only [Option.bind_some]
          have hmin : minI (nxt s l k) (s.Steps.length : Int) = nxt s l k := by unfold minI; split <;> omega
          rw [hmin, cond_f (lt_f (by omega)), filt_succ]
          cases (acc s (fst' l k) (siz s l k)).testBit a <;> simp
        case h =>
          intro j hj
          try dsimp only
          have hmin : minI (nxt s l k) (s.Steps.length : Int) = nxt s l k := by unfold minI; split <;> omega
          have hlt : fst' l k + j < s.Steps.length := by omega
          rw [m52_eq h hs hk]
          simp only [Option.bind_some]
          rw [hmin, cond_t (lt_t (by omega)), idx_lt hlt]
          simp only [Option.bind_some]
          have := (hr.step _ hlt).ok.le
          rw [m53_eq _ _ (by omega), addI_nat (by omega)]
          simp only [Option.bind_some, way_ne]
          rw [mk_hasA hr hlt]
          have hone := (alone_succ.1 (alone_mono hal (show j + 1 ≤ siz s l k by omega))).2
          rw [acc, Nat.testBit_or]
          cases hb : (mk s (fst' l k + j)).testBit a with
          | false =>
            simp only [cond_false, Option.bind_some, Bool.or_false]
            rfl
          | true =>
            have hz : (acc s (fst' l k) j).testBit a = false := by
              cases hq : (acc s (fst' l k) j).testBit a with
              | false => rfl
              | true => exact ((mask_and_zero.1 hone) a ⟨hq, hb⟩).elim
            rw [hz]
            simp only [cond_true, Bool.or_true, if_true, Bool.false_eq_true, if_false, List.append_nil]
            rw [appc_eq (by simp only [List.length_singleton]; omega) (by simp only [List.length_singleton]; omega)]
            rfl
        simp only [Option.bind_some]
        rw [addI_nat (by omega)]
      simp only [Option.bind_some]
      rw [appc_eq (by simp; omega) (by simp; omega), addI_nat (by omega), List.range_succ, List.map_append]
      rfl
    rfl
  · rw [if_neg h0, cond_t (by simpa using h0)]

theorem m56_refl (l : List Int) (h : l.length ≤ 1000000) : m56 l l = some true := by
  unfold m56
  rw [cond_f (by simp)]
  rw [iter_list l (fun _ => (none : Option Bool)) ?hn () ?h0 ?h ?he]
  case hn => unfold fuel; omega
  case h0 => rfl
  case he =>
    try dsimp only
    rw [cond_f (lt_f (by omega))]
  case h =>
    intro k hk
    try dsimp only
    rw [cond_t (lt_t (by omega)), idx_lt hk]
    simp only [Option.bind_some]
    rw [cond_f (by simp), addI_nat (by omega)]
  have : l.findSome? (fun _ => (none : Option Bool)) = none := by simp [List.findSome?_eq_none_iff]
  rw [this]; rfl

theorem m32_refl (l : List (List Int)) (h : l.length ≤ 1000000) (h2 : ∀ x ∈ l, x.length ≤ 1000000) : m32 l l = some true := by
  unfold m32
  rw [cond_f (by simp)]
  rw [iter_list l (fun _ => (none : Option Bool)) ?hn () ?h0 ?h ?he]
  case hn => unfold fuel; omega
  case h0 => rfl
  case he =>
    try dsimp only
    rw [cond_f (lt_f (by omega))]
  case h =>
    intro k hk
    try dsimp only
    rw [cond_t (lt_t (by omega)), idx_lt hk]
    simp only [Option.bind_some]
    rw [m56_refl _ (h2 _ (List.getElem_mem hk))]
    simp only [Option.bind_some]
    rw [cond_f (by simp), addI_nat (by omega)]
  have : l.findSome? (fun _ => (none : Option Bool)) = none := by simp [List.findSome?_eq_none_iff]
  rw [this]; rfl
end G18

namespace G18
open Go Go.Pl

theorem half {i j : Nat} (hi : i < 1000000) (hj : j < 1000000) : IntKind.wrap .i64 (shrI .u64 (IntKind.wrap .u64 (addI .i64 (i : Int) (j : Int))) 1) = (((i + j) / 2 : Nat) : Int) := by
  rw [addI_eq (by omega) (by omega), wrap_u64 (by omega) (by omega)]
  have e : shrI .u64 ((i : Int) + (j : Int)) 1 = (((i + j) / 2 : Nat) : Int) := by
    unfold shrI
    rw [show (2 : Int) ^ (min (1 : Int).toNat IntKind.u64.bits) = 2 by decide, Int.fdiv_eq_ediv_of_nonneg _ (by omega)]
    omega
  rw [e]
  exact wrap_i64 (by omega) (by omega)

theorem m57_eq (x y : Int) : m57 x y = some (decide (x < y)) := by
  unfold m57 m70
  simp only [Option.bind_some, bne_self_eq_false, cond_false]

theorem m54_eq (l : List Int) (x : Int) (hl : l.length ≤ 1000) (hinc : ∀ i j, i < j → j < l.length → l.getD i 0 < l.getD j 0) :
    ∃ i, i ≤ l.length ∧ m54 l x = some ((i : Int), decide (i < l.length ∧ l.getD i 0 = x)) ∧ (∀ k, k < i → l.getD k 0 < x) ∧ ∀ k, i ≤ k → k < l.length → x ≤ l.getD k 0 := by
  unfold m54
  have key := iter_rule (body := (fun s1 : Int × Int => ((bif (decide (s1.1 < s1.2)) then (idx l (IntKind.wrap .i64 (shrI .u64 (IntKind.wrap .u64 (addI .i64 s1.1 s1.2)) 1))).bind fun v4 => (m57 v4 x).bind fun v5 => some (.inl ((bif v5 then (addI .i64 (IntKind.wrap .i64 (shrI .u64 (IntKind.wrap .u64 (addI .i64 s1.1 s1.2)) 1)) 1) else s1.1), (bif v5 then s1.2 else (IntKind.wrap .i64 (shrI .u64 (IntKind.wrap .u64 (addI .i64 s1.1 s1.2)) 1))))) else some (.inr s1.1)) : Option ((Int × Int) ⊕ (Int)))))
    (fun s => ∃ i j : Nat, s = ((i : Int), (j : Int)) ∧ i ≤ j ∧ j ≤ l.length ∧ (∀ k, k < i → l.getD k 0 < x) ∧ ∀ k, j ≤ k → k < l.length → x ≤ l.getD k 0)
    (fun s => (s.2 - s.1).toNat)
    (fun r => ∃ i : Nat, r = (i : Int) ∧ i ≤ l.length ∧ (∀ k, k < i → l.getD k 0 < x) ∧ ∀ k, i ≤ k → k < l.length → x ≤ l.getD k 0)
    (s := (0, (l.length : Int))) ⟨0, l.length, rfl, by omega, by omega, fun k hk => by omega, fun k h1 h2 => by omega⟩ (by unfold fuel; simp only; omega) ?_
  · obtain ⟨_, hr, i, rfl, h1, h2, h3⟩ := key
    refine ⟨i, h1, ?_, h2, h3⟩
    rw [hr]
    simp only [Option.bind_some]
    by_cases hi : i < l.length
    · rw [cond_t (lt_t (by omega)), idx_lt hi, getD_lt hi]
      simp only [Option.bind_some]
      by_cases e : l[i] = x
      · rw [cond_t (by simpa using e), decide_eq_true ⟨hi, e⟩]; rfl
      · rw [cond_f (by simpa using e), decide_eq_false (fun h => e h.2)]
        simp only [m69, Option.bind_some, bne_self_eq_false, cond_false]
    · rw [cond_f (lt_f (by omega)), decide_eq_false (fun h => hi h.1)]; rfl
  · rintro _ ⟨i, j, rfl, h1, h2, h3, h4⟩
    by_cases hij : i < j
    · refine .inl ?_
      dsimp only
      have hm : (i + j) / 2 < l.length := by omega
      rw [cond_t (lt_t (by omega)), half (by omega) (by omega), idx_lt hm]
      simp only [Option.bind_some, m57_eq]
      rw [addI_nat (by omega)]
      by_cases hlt : l[(i + j) / 2] < x
      · refine ⟨_, by rw [lt_t hlt]; rfl, ⟨(i + j) / 2 + 1, j, rfl, by omega, h2, fun k hk => ?_, h4⟩, ?_⟩
        · rcases Nat.lt_or_ge k ((i + j) / 2) with e | e
          · have := hinc k ((i + j) / 2) e hm
            rw [getD_lt hm] at this
            omega
          · have : k = (i + j) / 2 := by omega
            subst this
            rw [getD_lt hm]; exact hlt
        · dsimp only; omega
      · refine ⟨_, by rw [lt_f hlt]; rfl, ⟨i, (i + j) / 2, rfl, by omega, by omega, h3, fun k hk hk2 => ?_⟩, ?_⟩
        · rcases Nat.lt_or_ge ((i + j) / 2) k with e | e
          · have := hinc ((i + j) / 2) k e hk2
            rw [getD_lt hm] at this
            omega
          · have : k = (i + j) / 2 := by omega
            subst this
            rw [getD_lt hm]; omega
        · dsimp only; omega
    · refine .inr ⟨_, cond_f (lt_f (by dsimp only; omega)), i, rfl, by omega, h3, ?_⟩
      have : i = j := by omega
      subst this; exact h4

/-- p is the place of a step in a division -/
def Plc (l : List Int) (x : Int) (p : Nat) : Prop := p < l.length ∧ l.getD p 0 ≤ x ∧ ∀ k, p < k → k < l.length → x < l.getD k 0

theorem m55_eq {l : List Int} {x : Int} {p : Nat} (hl : l.length ≤ 1000) (hinc : ∀ i j, i < j → j < l.length → l.getD i 0 < l.getD j 0) (h : Plc l x p) : m55 l x = some (p : Int) := by
  obtain ⟨h1, h2, h3⟩ := h
  unfold m55
  rw [iter_fold (fun k : Nat => (((min (k - 1) p : Nat) : Int), (k : Int))) l.length ?hn (p : Int) ?h0 ?h ?he]
  case hn => unfold fuel; omega
  case h0 => simp
  case he =>
    try dsimp only
    rw [cond_f (lt_f (by omega)), Nat.min_eq_right (by omega)]
  case h =>
    intro k hk
    try dsimp only
    rw [cond_t (lt_t (by omega)), idx_lt hk]
    simp only [Option.bind_some]
    rw [addI_nat (by omega), Nat.add_sub_cancel]
    by_cases hkp : k ≤ p
    · have : l[k] ≤ x := by
        rw [← getD_lt (d := 0) hk]
        rcases Nat.lt_or_ge k p with e | e
        · have := hinc k p e h1; omega
        · have : k = p := by omega
          subst this; exact h2
      rw [cond_t (by simpa using this), Nat.min_eq_left hkp]
    · have := h3 k (by omega) hk
      rw [getD_lt hk] at this
      rw [cond_f (by simp; omega), Nat.min_eq_right (by omega), Nat.min_eq_right (by omega)]
  rfl

theorem at_eq (s : SSequence) (hsm : Small s) (l : List Int) (x : Int) : ∃ r, m30 s l x = some r ∧ m31 s l x = some r ∧ (chkL s l true = 0 → 0 ≤ x → x < s.Steps.length → ∃ p : Nat, r = ((p : Int), 0) ∧ Plc l x p) := by
  unfold m30 m31 m28 m24
  rw [m47_eq, m46_eq s hsm]
  simp only [Option.bind_some]
  by_cases h0 : chkL s l true = 0
  · have c0 : (chkL s l true != 0) = false := by simpa using h0
    rw [c0]
    simp only [cond_false]
    by_cases hx : x < 0 ∨ x ≥ s.Steps.length
    · refine ⟨(0, 2), ?_, ?_, fun _ h1 h2 => by omega⟩
      · rw [cond_t (by simpa using hx)]
      · rw [cond_t (by simpa using hx)]
    · have cx : (decide (x < 0) || decide (x ≥ (s.Steps.length : Int))) = false := by simp; omega
      rw [cx]
      simp only [cond_false]
      obtain ⟨hc, h, _⟩ := chkL_ok h0
      have hr := chk_right hc
      have hs := hr.n64
      have hle := h.le
      have hinc : ∀ i j, i < j → j < l.length → l.getD i 0 < l.getD j 0 := fun i j a b => h.mono a b
      obtain ⟨i, h1, e, h2, h3⟩ := m54_eq l x (by omega) hinc
      have hz := h.zero rfl
      have hpos := h.pos
      rw [e]
      simp only [Option.bind_some]
      by_cases hf : i < l.length ∧ l.getD i 0 = x
      · have hp : Plc l x i := ⟨hf.1, by omega, fun k hk hk2 => by have := hinc i k hk hk2; omega⟩
        rw [decide_eq_true hf, m55_eq (by omega) hinc hp]
        exact ⟨((i : Int), 0), rfl, rfl, fun _ _ _ => ⟨i, rfl, hp⟩⟩
      · have hi0 : 0 < i := by
          refine Nat.pos_of_ne_zero fun hc => ?_
          subst hc
          have := h3 0 (by omega) hpos
          exact hf ⟨hpos, by omega⟩
        have hp : Plc l x (i - 1) := by
          refine ⟨by omega, by have := h2 (i - 1) (by omega); omega, fun k hk hk2 => ?_⟩
          have h4 := h3 k (by omega) hk2
          rcases Nat.lt_or_ge i k with e | e
          · have := hinc i k e hk2
            have := h3 i (by omega) (by omega)
            omega
          · have : i = k := by omega
            subst this
            have : l.getD i 0 ≠ x := fun hc => hf ⟨hk2, hc⟩
            omega
        rw [decide_eq_false hf, m55_eq (by omega) hinc hp]
        refine ⟨(((i - 1 : Nat) : Int), 0), ?_, rfl, fun _ _ _ => ⟨i - 1, rfl, hp⟩⟩
        simp only [Bool.not_false, cond_true]
        rw [sub_nat hi0 (by omega)]
  · have c0 : (chkL s l true != 0) = true := by simpa using h0
    rw [c0]
    exact ⟨(0, chkL s l true), rfl, rfl, fun hc => (h0 hc).elim⟩
end G18

namespace G18
open Go Go.Pl

theorem m9_eq (s : SSequence) (hs : Small s) (l : List Int) (x : Int) : m9 s l x = some true := by
  unfold m9
  obtain ⟨b, hb⟩ := m11_eq s hs
  rw [hb]
  simp only [Option.bind_some]
  have fin : ((m12).bind fun v5 => some v5) = some true := by rw [awake_run]; rfl
  have e : ∀ c : Bool, ((bif c then some true else (bif decide ((s.Steps.length : Int) > 40) then some true else some (decide ((l.length : Int) > 200)))) : Option Bool) = some (c || (decide ((s.Steps.length : Int) > 40) || decide ((l.length : Int) > 200))) := by
    intro c; cases c <;> cases decide ((s.Steps.length : Int) > 40) <;> rfl
  rw [e]
  simp only [Option.bind_some]
  cases (!b || (decide ((s.Steps.length : Int) > 40) || decide ((l.length : Int) > 200))) with
  | true => exact fin
  | false =>
    obtain ⟨r, e1, e2, _⟩ := at_eq s hs l x
    rw [cond_false, m25_eq, m29_eq s hs, e1, e2]
    unfold m28 m24 m23 m22
    simp only [Option.bind_some, m47_eq, m46_eq s hs, beq_self_eq_true, cond_true]
    have hm : m32 (if chkL s l true = 0 then (mems s l, (0 : Int)) else ([], chkL s l true)).1 (if chkL s l true = 0 then (mems s l, (0 : Int)) else ([], chkL s l true)).1 = some true := by
      by_cases h0 : chkL s l true = 0
      · obtain ⟨hc, h, _⟩ := chkL_ok h0
        have := (chk_right hc).n64
        have := h.le
        rw [if_pos h0]
        refine m32_refl _ (by simp [mems]; omega) fun y hy => ?_
        unfold mems at hy
        rw [List.mem_map] at hy
        obtain ⟨i, _, rfl⟩ := hy
        have := filt_len (fun a => (acc s (fst' l i) (siz s l i)).testBit a) 6
        unfold memb; omega
      · rw [if_neg h0]; exact m32_refl [] (by simp) (by simp)
    rw [hm]
    simp only [Option.bind_some, cond_true]
    rw [fin]; rfl
end G18
