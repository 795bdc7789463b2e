/- Plain lemmas about reading, sums and loops. No condition. -/
import Derived.Test.YteoiegapifoboaaAmP0
namespace Go.Pl

theorem wrap_i64 {n : Int} (h0 : -9223372036854775808 ≤ n) (h1 : n < 9223372036854775808) : IntKind.i64.wrap n = n := by
  unfold IntKind.wrap
  have e1 : (2 : Int) ^ IntKind.i64.bits = 18446744073709551616 := by decide
  have e2 : (2 : Int) ^ (IntKind.i64.bits - 1) = 9223372036854775808 := by decide
  simp only [e1, e2, IntKind.signed, Bool.true_and, decide_eq_true_eq]
  split <;> omega

theorem addI_eq {x y : Int} (h0 : -9223372036854775808 ≤ x + y) (h1 : x + y < 9223372036854775808) : addI .i64 x y = x + y := wrap_i64 h0 h1
theorem subI_eq {x y : Int} (h0 : -9223372036854775808 ≤ x - y) (h1 : x - y < 9223372036854775808) : subI .i64 x y = x - y := wrap_i64 h0 h1
theorem mulI_eq {x y : Int} (h0 : -9223372036854775808 ≤ x * y) (h1 : x * y < 9223372036854775808) : mulI .i64 x y = x * y := wrap_i64 h0 h1
theorem addI_nat {k : Nat} (h : k < 9223372036854775807) : addI .i64 (k : Int) 1 = ((k + 1 : Nat) : Int) := by rw [addI_eq (by omega) (by omega)]; rfl

theorem idx_nat {α : Type} (l : List α) (k : Nat) : idx l (k : Int) = l[k]? := by simp [idx]
theorem idx_lt {α : Type} {l : List α} {k : Nat} (h : k < l.length) : idx l (k : Int) = some l[k] := by simp [idx_nat, h]
theorem idx_int {α : Type} {l : List α} {i : Int} (h0 : 0 ≤ i) (h1 : i < l.length) : ∃ h : i.toNat < l.length, idx l i = some l[i.toNat] := by
  refine ⟨by omega, ?_⟩
  unfold idx
  rw [if_pos h0, List.getElem?_eq_getElem (by omega)]
theorem idx_some {α : Type} {l : List α} {i : Int} {v : α} (h : idx l i = some v) : 0 ≤ i ∧ ∃ h : i.toNat < l.length, l[i.toNat] = v := by
  unfold idx at h
  split at h
  · obtain ⟨h1, h2⟩ := List.getElem?_eq_some_iff.1 h
    exact ⟨by assumption, h1, h2⟩
  · simp at h

theorem appc_eq {α : Type} {bytes : Nat} {l m : List α} (h : (l.length + m.length) * bytes ≤ 1099511627776) (h2 : l.length + m.length ≤ 1099511627776) : appc bytes l m = some (l ++ m) := by
  unfold appc; rw [if_pos ⟨h, h2⟩]

/-- a counted loop -/
theorem iter_cnt {ρ : Type} {body : Int → Option (Int ⊕ ρ)} (n : Nat) (hn : n < fuel) (P : Nat → Prop) (Q : ρ → Prop) (h0 : P 0)
    (h : ∀ k : Nat, k ≤ n → P k → (k < n ∧ body k = some (.inl ((k + 1 : Nat) : Int)) ∧ P (k + 1)) ∨ ∃ r, body k = some (.inr r) ∧ Q r) : ∃ r, iter body 0 = some r ∧ Q r := by
  refine iter_rule (fun s : Int => ∃ k : Nat, s = (k : Int) ∧ k ≤ n ∧ P k) (fun s : Int => n - s.toNat) Q ⟨0, rfl, Nat.zero_le _, h0⟩ (by simp; exact hn) ?_
  rintro s ⟨k, rfl, hk, hp⟩
  rcases h k hk hp with ⟨h1, h2, h3⟩ | ⟨r, h1, h2⟩
  · exact .inl ⟨_, h2, ⟨k + 1, rfl, h1, h3⟩, by simp; omega⟩
  · exact .inr ⟨r, h1, h2⟩

/-- a counted loop, the number first, with more -/
theorem iter_cnt1 {τ ρ : Type} {body : Int × τ → Option ((Int × τ) ⊕ ρ)} {t0 : τ} (n : Nat) (hn : n < fuel) (P : Nat → τ → Prop) (Q : ρ → Prop) (h0 : P 0 t0)
    (h : ∀ (k : Nat) (t : τ), k ≤ n → P k t → (∃ t', k < n ∧ body (k, t) = some (.inl (((k + 1 : Nat) : Int), t')) ∧ P (k + 1) t') ∨ ∃ r, body (k, t) = some (.inr r) ∧ Q r) : ∃ r, iter body (0, t0) = some r ∧ Q r := by
  refine iter_rule (fun s : Int × τ => ∃ k : Nat, s.1 = (k : Int) ∧ k ≤ n ∧ P k s.2) (fun s : Int × τ => n - s.1.toNat) Q ⟨0, rfl, Nat.zero_le _, h0⟩ (by simp; exact hn) ?_
  rintro ⟨s, t⟩ ⟨k, hs, hk, hp⟩
  simp only at hs hp
  subst hs
  rcases h k t hk hp with ⟨t', h1, h2, h3⟩ | ⟨r, h1, h2⟩
  · exact .inl ⟨_, h2, ⟨k + 1, rfl, h1, h3⟩, by simp; omega⟩
  · exact .inr ⟨r, h1, h2⟩

/-- the number behind -/
theorem iter_cnt2 {τ ρ : Type} {body : τ × Int → Option ((τ × Int) ⊕ ρ)} {t0 : τ} (n : Nat) (hn : n < fuel) (P : Nat → τ → Prop) (Q : ρ → Prop) (h0 : P 0 t0)
    (h : ∀ (k : Nat) (t : τ), k ≤ n → P k t → (∃ t', k < n ∧ body (t, k) = some (.inl (t', ((k + 1 : Nat) : Int))) ∧ P (k + 1) t') ∨ ∃ r, body (t, k) = some (.inr r) ∧ Q r) : ∃ r, iter body (t0, 0) = some r ∧ Q r := by
  refine iter_rule (fun s : τ × Int => ∃ k : Nat, s.2 = (k : Int) ∧ k ≤ n ∧ P k s.1) (fun s : τ × Int => n - s.2.toNat) Q ⟨0, rfl, Nat.zero_le _, h0⟩ (by simp; exact hn) ?_
  rintro ⟨t, s⟩ ⟨k, hs, hk, hp⟩
  simp only at hs hp
  subst hs
  rcases h k t hk hp with ⟨t', h1, h2, h3⟩ | ⟨r, h1, h2⟩
  · exact .inl ⟨_, h2, ⟨k + 1, rfl, h1, h3⟩, by simp; omega⟩
  · exact .inr ⟨r, h1, h2⟩

/-- two loops in step -/
theorem iter_sim {σ1 σ2 ρ1 ρ2 : Type} {b1 : σ1 → Option (σ1 ⊕ ρ1)} {b2 : σ2 → Option (σ2 ⊕ ρ2)} (R : σ1 → σ2 → Prop) (m : σ1 → Nat) (Q : ρ1 → ρ2 → Prop) {s1 : σ1} {s2 : σ2} (h0 : R s1 s2) (hf : m s1 < fuel)
    (h : ∀ s1 s2, R s1 s2 → (∃ t1 t2, b1 s1 = some (.inl t1) ∧ b2 s2 = some (.inl t2) ∧ R t1 t2 ∧ m t1 < m s1) ∨ ∃ r1 r2, b1 s1 = some (.inr r1) ∧ b2 s2 = some (.inr r2) ∧ Q r1 r2) :
    ∃ r1 r2, iter b1 s1 = some r1 ∧ iter b2 s2 = some r2 ∧ Q r1 r2 := by
  have key : ∀ n s1 s2, R s1 s2 → m s1 < n → ∃ r1 r2, iterN b1 n s1 = some r1 ∧ iterN b2 n s2 = some r2 ∧ Q r1 r2 := by
    intro n
    induction n with
    | zero => intro s1 s2 _ hlt; omega
    | succ n ih =>
      intro s1 s2 hi hlt
      rcases h s1 s2 hi with ⟨t1, t2, e1, e2, hi', hm⟩ | ⟨r1, r2, e1, e2, hq⟩
      · obtain ⟨r1, r2, h1, h2, h3⟩ := ih t1 t2 hi' (by omega)
        exact ⟨r1, r2, by rw [iterN, e1]; exact h1, by rw [iterN, e2]; exact h2, h3⟩
      · exact ⟨r1, r2, by rw [iterN, e1], by rw [iterN, e2], hq⟩
  exact key fuel s1 s2 h0 hf

/-- two counted loops in step -/
theorem sim_cnt {ρ1 ρ2 : Type} {b1 : Int → Option (Int ⊕ ρ1)} {b2 : Int → Option (Int ⊕ ρ2)} (n : Nat) (hn : n < fuel) (P : Nat → Prop) (Q : ρ1 → ρ2 → Prop) (h0 : P 0)
    (h : ∀ k : Nat, k ≤ n → P k → (k < n ∧ b1 k = some (.inl ((k + 1 : Nat) : Int)) ∧ b2 k = some (.inl ((k + 1 : Nat) : Int)) ∧ P (k + 1)) ∨ ∃ r1 r2, b1 k = some (.inr r1) ∧ b2 k = some (.inr r2) ∧ Q r1 r2) :
    ∃ r1 r2, iter b1 0 = some r1 ∧ iter b2 0 = some r2 ∧ Q r1 r2 := by
  refine iter_sim (fun s1 s2 : Int => s1 = s2 ∧ ∃ k : Nat, s1 = (k : Int) ∧ k ≤ n ∧ P k) (fun s : Int => n - s.toNat) Q ⟨rfl, 0, rfl, Nat.zero_le _, h0⟩ (by simp; exact hn) ?_
  rintro s1 s2 ⟨rfl, k, rfl, hk, hp⟩
  rcases h k hk hp with ⟨h1, h2, h3, h4⟩ | ⟨r1, r2, h1, h2, h3⟩
  · exact .inl ⟨_, _, h2, h3, ⟨rfl, k + 1, rfl, h1, h4⟩, by simp; omega⟩
  · exact .inr ⟨r1, r2, h1, h2, h3⟩

theorem cond_t {α : Type} {c : Bool} {a b : α} (h : c = true) : (bif c then a else b) = a := by rw [h]; rfl
theorem cond_f {α : Type} {c : Bool} {a b : α} (h : c = false) : (bif c then a else b) = b := by rw [h]; rfl
theorem lt_t {a b : Int} (h : a < b) : decide (a < b) = true := by simpa using h
theorem lt_f {a b : Int} (h : ¬ a < b) : decide (a < b) = false := by simpa using h
theorem le_t {a b : Int} (h : a ≤ b) : decide (a ≤ b) = true := by simpa using h
theorem le_f {a b : Int} (h : ¬ a ≤ b) : decide (a ≤ b) = false := by simpa using h

/-- two loops whose bodies agree -/
theorem iter_congr {σ ρ : Type} {b1 b2 : σ → Option (σ ⊕ ρ)} (I : σ → Prop) {s : σ} (h0 : I s) (h : ∀ s, I s → b1 s = b2 s) (hp : ∀ s s', I s → b1 s = some (.inl s') → I s') : iter b1 s = iter b2 s := by
  have key : ∀ n s, I s → iterN b1 n s = iterN b2 n s := by
    intro n
    induction n with
    | zero => intro s _; rfl
    | succ n ih =>
      intro s hi
      rw [iterN, iterN, ← h s hi]
      cases hb : b1 s with
      | none => rfl
      | some c =>
        cases c with
        | inl s' => exact ih s' (hp s s' hi hb)
        | inr r => rfl
  exact key fuel s h0

theorem bind_val {α β : Type} {m : Option α} {f : α → Option β} {v : α} (h : m = some v) : m.bind f = f v := by rw [h]; rfl

end Go.Pl
