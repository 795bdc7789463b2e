/- Loops that look for the first answer, and loops that go through; sets of bits. No condition. -/
import Derived.Test.YteoiegapifoboaaAmP1
namespace Go.Pl

/-- the answer of the first number below n that has one -/
def first {ρ : Type} (n : Nat) (g : Nat → Option ρ) : Option ρ := (List.range n).findSome? g

theorem first_none {ρ : Type} {n : Nat} {g : Nat → Option ρ} (h : ∀ k, k < n → g k = none) : first n g = none := by
  unfold first
  rw [List.findSome?_eq_none_iff]
  intro k hk
  exact h k (List.mem_range.1 hk)
theorem first_none_iff {ρ : Type} {n : Nat} {g : Nat → Option ρ} : first n g = none ↔ ∀ k, k < n → g k = none := by
  unfold first
  rw [List.findSome?_eq_none_iff]
  exact ⟨fun h k hk => h k (List.mem_range.2 hk), fun h k hk => h k (List.mem_range.1 hk)⟩
theorem first_some {ρ : Type} {n : Nat} {g : Nat → Option ρ} {k : Nat} {r : ρ} (hk : k < n) (h : ∀ j, j < k → g j = none) (hr : g k = some r) : first n g = some r := by
  unfold first
  have e : List.range n = List.range k ++ (k :: (List.range' (k + 1) (n - (k + 1)))) := by
    have h1 := List.range'_append_1 (s := 0) (m := k) (n := n - (k + 1) + 1)
    rw [Nat.zero_add] at h1
    rw [List.range_eq_range', List.range_eq_range', ← List.range'_succ, h1]
    congr 1; omega
  rw [e, List.findSome?_append]
  have : (List.range k).findSome? g = none := by
    rw [List.findSome?_eq_none_iff]
    intro j hj
    exact h j (List.mem_range.1 hj)
  rw [this]
  simp [hr]
theorem first_congr {ρ : Type} {n : Nat} {g g' : Nat → Option ρ} (h : ∀ k, k < n → (∀ j, j < k → g j = none) → g k = g' k) : first n g = first n g' := by
  by_cases ha : ∀ k, k < n → g k = none
  · rw [first_none ha, first_none]
    intro k hk
    rw [← h k hk (fun j hj => ha j (by omega))]; exact ha k hk
  · have : ∃ k, k < n ∧ g k ≠ none := by
      refine Classical.byContradiction fun hc => ha fun k hk => ?_
      refine Classical.byContradiction fun hn => hc ⟨k, hk, hn⟩
    -- the least one
    have key : ∀ m, (∃ k, k < m ∧ k < n ∧ g k ≠ none) → ∃ k, k < n ∧ g k ≠ none ∧ ∀ j, j < k → g j = none := by
      intro m
      induction m with
      | zero => rintro ⟨k, hk, _⟩; omega
      | succ m ih =>
        rintro ⟨k, hk, hn, hg⟩
        by_cases hex : ∃ k, k < m ∧ k < n ∧ g k ≠ none
        · exact ih hex
        · have hkm : k = m := by
            rcases Nat.lt_or_ge k m with e | e
            · exact (hex ⟨k, e, hn, hg⟩).elim
            · omega
          subst hkm
          refine ⟨k, hn, hg, fun j hj => ?_⟩
          refine Classical.byContradiction fun hc => hex ⟨j, hj, by omega, hc⟩
    obtain ⟨k, hk, hg⟩ := this
    obtain ⟨k, hk, hg, hm⟩ := key (k + 1) ⟨k, by omega, hk, hg⟩
    cases hr : g k with
    | none => exact (hg hr).elim
    | some r =>
      rw [first_some hk hm hr, first_some (k := k) hk (fun j hj => ?_) (by rw [← h k hk hm]; exact hr)]
      rw [← h j (by omega) (fun i hi => hm i (by omega))]
      exact hm j hj

/-- a loop that ends with the first answer -/
theorem iter_first {σ α ρ : Type} {body : σ → Option (σ ⊕ (α ⊕ ρ))} {s0 : σ} (st : Nat → σ) (g : Nat → Option ρ) (n : Nat) (hn : n < fuel) (u : α) (h0 : s0 = st 0)
    (h : ∀ k, k < n → (∀ j, j < k → g j = none) → body (st k) = some (match g k with | none => .inl (st (k + 1)) | some r => .inr (.inr r)))
    (he : (∀ j, j < n → g j = none) → body (st n) = some (.inr (.inl u))) : iter body s0 = some (match first n g with | none => .inl u | some r => .inr r) := by
  subst h0
  have key : ∀ m k, k ≤ n → n - k < m → (∀ j, j < k → g j = none) → iterN body m (st k) = some (match first n g with | none => .inl u | some r => .inr r) := by
    intro m
    induction m with
    | zero => intro k _ hlt; omega
    | succ m ih =>
      intro k hk hm hj
      rw [iterN]
      by_cases hkn : k < n
      · rw [h k hkn hj]
        cases hg : g k with
        | none =>
          exact ih (k + 1) hkn (by omega) (fun j hj' => by
            rcases Nat.lt_or_ge j k with e | e
            · exact hj j e
            · have : j = k := by omega
              subst this; exact hg)
        | some r => simp only [first_some hkn hj hg]
      · have : k = n := by omega
        subst this
        rw [he hj, first_none hj]
  exact key fuel 0 (Nat.zero_le _) (by omega) (fun j hj => by omega)

/-- a loop that goes through -/
theorem iter_fold {σ ρ : Type} {body : σ → Option (σ ⊕ ρ)} {s0 : σ} (st : Nat → σ) (n : Nat) (hn : n < fuel) (r : ρ) (h0 : s0 = st 0)
    (h : ∀ k, k < n → body (st k) = some (.inl (st (k + 1)))) (he : body (st n) = some (.inr r)) : iter body s0 = some r := by
  subst h0
  have key : ∀ m k, k ≤ n → n - k < m → iterN body m (st k) = some r := by
    intro m
    induction m with
    | zero => intro k _ hlt; omega
    | succ m ih =>
      intro k hk hm
      rw [iterN]
      by_cases hkn : k < n
      · rw [h k hkn]
        exact ih (k + 1) hkn (by omega)
      · have : k = n := by omega
        subst this
        rw [he]
  exact key fuel 0 (Nat.zero_le _) (by omega)

theorem first_list {α ρ : Type} (f : α → Option ρ) : ∀ l : List α, first l.length (fun k => l[k]?.bind f) = l.findSome? f
  | [] => rfl
  | x :: l => by
    have ih := first_list f l
    unfold first at ih ⊢
    rw [List.length_cons, List.range_succ_eq_map, List.findSome?_cons, List.findSome?_cons, List.findSome?_map, ← ih]
    rfl

/-- a loop over a list that ends with the first answer -/
theorem iter_list {α β ρ : Type} {body : Int → Option (Int ⊕ (β ⊕ ρ))} {s0 : Int} (l : List α) (f : α → Option ρ) (hn : l.length < fuel) (u : β) (h0 : s0 = 0)
    (h : ∀ (k : Nat) (hk : k < l.length), body (k : Int) = some (match f l[k] with | none => .inl ((k + 1 : Nat) : Int) | some r => .inr (.inr r)))
    (he : body (l.length : Int) = some (.inr (.inl u))) : iter body s0 = some (match l.findSome? f with | none => .inl u | some r => .inr r) := by
  rw [iter_first (fun k : Nat => (k : Int)) (fun k => l[k]?.bind f) l.length hn u (by rw [h0]; rfl) (fun k hk _ => by
    have e : l[k]?.bind f = f l[k] := by rw [List.getElem?_eq_getElem hk]; rfl
    rw [e]; exact h k hk) (fun _ => he), first_list]

theorem findSome_if {α ρ : Type} (p : α → Bool) (r : ρ) : ∀ l : List α, l.findSome? (fun x => bif p x then some r else none) = bif l.any p then some r else none
  | [] => rfl
  | x :: l => by
    rw [List.findSome?_cons, findSome_if p r l, List.any_cons]
    cases p x <;> rfl

/- numbers as sets of bits -/
theorem wrap_u64 {n : Int} (h0 : 0 ≤ n) (h1 : n < 18446744073709551616) : IntKind.u64.wrap n = n := by
  unfold IntKind.wrap
  have e1 : (2 : Int) ^ IntKind.u64.bits = 18446744073709551616 := by decide
  simp only [e1, IntKind.signed, Bool.false_and, Bool.false_eq_true, if_false]
  omega

theorem orI_nat {a b : Nat} (ha : a < 18446744073709551616) (hb : b < 18446744073709551616) : orI .u64 (a : Int) (b : Int) = ((a ||| b : Nat) : Int) := by
  have hc : a ||| b < 18446744073709551616 := Nat.or_lt_two_pow (n := 64) ha hb
  have e : ((BitVec.ofInt IntKind.u64.bits (a : Int)) ||| (BitVec.ofInt IntKind.u64.bits (b : Int))).toNat = a ||| b := by
    have e64 : IntKind.u64.bits = 64 := rfl
    rw [BitVec.ofInt_natCast, BitVec.ofInt_natCast, BitVec.toNat_or, BitVec.toNat_ofNat, BitVec.toNat_ofNat, e64, Nat.mod_eq_of_lt ha, Nat.mod_eq_of_lt hb]
  unfold orI
  rw [e]
  exact wrap_u64 (by omega) (by omega)

theorem andI_nat {a b : Nat} (ha : a < 18446744073709551616) (hb : b < 18446744073709551616) : andI .u64 (a : Int) (b : Int) = ((a &&& b : Nat) : Int) := by
  have hc : a &&& b < 18446744073709551616 := Nat.and_lt_two_pow (n := 64) _ hb
  have e : ((BitVec.ofInt IntKind.u64.bits (a : Int)) &&& (BitVec.ofInt IntKind.u64.bits (b : Int))).toNat = a &&& b := by
    have e64 : IntKind.u64.bits = 64 := rfl
    rw [BitVec.ofInt_natCast, BitVec.ofInt_natCast, BitVec.toNat_and, BitVec.toNat_ofNat, BitVec.toNat_ofNat, e64, Nat.mod_eq_of_lt ha, Nat.mod_eq_of_lt hb]
  unfold andI
  rw [e]
  exact wrap_u64 (by omega) (by omega)

end Go.Pl
