/- Walks over bounds: sums, potentials, shorter walks, closing, in plain words. No condition. -/
namespace G11

/-- bounds as they are thought of: `none` is no bound -/
abbrev Wt := Nat → Nat → Option Int

inductive Walk (n : Nat) (w : Wt) : Nat → Nat → Nat → Int → Prop
  | nil {i} (h : i < n) : Walk n w i i 0 0
  | snoc {i k j L s x} (h : Walk n w i k L s) (hj : j < n) (e : w k j = some x) : Walk n w i j (L + 1) (s + x)

variable {n : Nat} {w : Wt}

theorem Walk.right {i j L s} (h : Walk n w i j L s) : j < n := by cases h <;> assumption
theorem Walk.left {i j L s} (h : Walk n w i j L s) : i < n := by induction h <;> assumption
theorem Walk.cast {i j L M : Nat} {s t : Int} (h : Walk n w i j L s) (e : L = M) (f : s = t) : Walk n w i j M t := by subst e; subst f; exact h
theorem Walk.one {i j : Nat} {x : Int} (hi : i < n) (hj : j < n) (e : w i j = some x) : Walk n w i j 1 x := ((Walk.nil hi).snoc hj e).cast rfl (by omega)
theorem Walk.app {i k j L M s t} (h : Walk n w i k L s) (g : Walk n w k j M t) : Walk n w i j (L + M) (s + t) := by
  induction g with
  | nil _ => exact h.cast rfl (by omega)
  | snoc _ hj e ih => exact (ih.snoc hj e).cast (by omega) (by omega)

/-- potentials -/
theorem Walk.pot {f : Nat → Int} (hf : ∀ i j x, i < n → j < n → w i j = some x → f j ≤ f i + x) {i j L s} (h : Walk n w i j L s) : f j ≤ f i + s := by
  induction h with
  | nil _ => omega
  | snoc h hj e ih => have := hf _ _ _ h.right hj e; omega

/-- no closed walk is negative -/
def NonNeg (n : Nat) (w : Wt) : Prop := ∀ i L s, Walk n w i i L s → 0 ≤ s
theorem NonNeg.of_pot {f : Nat → Int} (hf : ∀ i j x, i < n → j < n → w i j = some x → f j ≤ f i + x) : NonNeg n w := by
  intro i L s h
  have := h.pot hf
  omega

/-- a walk by its places -/
theorem Walk.fn {i j L s} (h : Walk n w i j L s) : ∃ (v : Nat → Nat) (p : Nat → Int), v 0 = i ∧ v L = j ∧ p 0 = 0 ∧ p L = s ∧ (∀ t, t ≤ L → v t < n) ∧ ∀ t, t < L → w (v t) (v (t + 1)) = some (p (t + 1) - p t) := by
  induction h with
  | nil h => exact ⟨fun _ => _, fun _ => 0, rfl, rfl, rfl, rfl, fun _ _ => h, fun t ht => by omega⟩
  | @snoc k j L s x h hj e ih =>
    obtain ⟨v, p, h0, hL, p0, pL, hv, hs⟩ := ih
    refine ⟨fun t => if t = L + 1 then j else v t, fun t => if t = L + 1 then s + x else p t, by simp [h0], by simp, by simp [p0], by simp, ?_, ?_⟩
    · intro t ht
      dsimp only
      split
      · exact hj
      · exact hv t (by omega)
    · intro t ht
      dsimp only
      rw [if_neg (by omega), if_neg (show ¬ t = L + 1 by omega)]
      by_cases hc : t = L
      · subst hc
        rw [if_pos rfl, if_pos rfl, hL, pL, e]
        congr 1; omega
      · rw [if_neg (by omega), if_neg (by omega)]
        exact hs t (by omega)

theorem Walk.of_fn {v : Nat → Nat} {p : Nat → Int} {L : Nat} (hv : ∀ t, t ≤ L → v t < n) (hs : ∀ t, t < L → w (v t) (v (t + 1)) = some (p (t + 1) - p t)) (a : Nat) : ∀ d, a + d ≤ L → Walk n w (v a) (v (a + d)) d (p (a + d) - p a)
  | 0, h => (Walk.nil (hv a (by omega))).cast rfl (by simp)
  | d + 1, h => ((Walk.of_fn hv hs a d (by omega)).snoc (hv (a + d + 1) (by omega)) (hs (a + d) (by omega))).cast rfl (by rw [show a + (d + 1) = a + d + 1 by omega]; omega)

/-- pigeonhole -/
theorem php : ∀ (n : Nat) {m : Nat} {f : Nat → Nat}, (∀ t, t < m → f t < n) → n < m → ∃ a b, a < b ∧ b < m ∧ f a = f b
  | 0, m, f, h, hm => by have := h 0 hm; omega
  | n + 1, m, f, h, hm => by
    by_cases hc : ∃ t, t < m - 1 ∧ f t = f (m - 1)
    · obtain ⟨t, h1, h2⟩ := hc
      exact ⟨t, m - 1, h1, by omega, h2⟩
    have hne : ∀ t, t < m - 1 → f t ≠ f (m - 1) := fun t ht e => hc ⟨t, ht, e⟩
    have hl := h (m - 1) (by omega)
    obtain ⟨a, b, h1, h2, h3⟩ := php n (m := m - 1) (f := fun t => if f (m - 1) < f t then f t - 1 else f t) (fun t ht => by
      have h4 := h t (by omega)
      have h5 := hne t ht
      split <;> omega) (by omega)
    refine ⟨a, b, h1, by omega, ?_⟩
    have h4 := hne a (by omega)
    have h5 := hne b h2
    split at h3 <;> split at h3 <;> omega

/-- a walk of more bounds than there are times may be shortened -/
theorem Walk.cut (hn : NonNeg n w) {i j L s} (h : Walk n w i j L s) (hL : n < L) : ∃ L' s', 0 < L' ∧ L' < L ∧ s' ≤ s ∧ Walk n w i j L' s' := by
  obtain ⟨v, p, h0, hj, p0, pL, hv, hs⟩ := h.fn
  obtain ⟨a, b, h1, h2, h3⟩ := php n (m := L) (f := fun t => v (t + 1)) (fun t ht => hv _ (by omega)) hL
  have m := Walk.of_fn hv hs (a + 1) (b - a) (by omega)
  rw [show a + 1 + (b - a) = b + 1 by omega] at m
  rw [← h3] at m
  have hm := hn _ _ _ m
  have A := Walk.of_fn hv hs 0 (a + 1) (by omega)
  have B := Walk.of_fn hv hs (b + 1) (L - (b + 1)) (by omega)
  rw [show b + 1 + (L - (b + 1)) = L by omega, ← h3] at B
  rw [Nat.zero_add] at A
  have C := A.app B
  rw [h0, hj] at C
  refine ⟨_, _, ?_, ?_, ?_, C⟩
  · omega
  · omega
  · omega
theorem Walk.short (hn : NonNeg n w) : ∀ (L : Nat) {i j s}, Walk n w i j L s → 0 < L → ∃ L' s', 0 < L' ∧ L' ≤ n ∧ s' ≤ s ∧ Walk n w i j L' s' := by
  intro L
  induction L using Nat.strongRecOn with
  | _ L ih =>
    intro i j s h h0
    by_cases hL : L ≤ n
    · exact ⟨L, s, h0, hL, Int.le_refl _, h⟩
    obtain ⟨L', s', a, b, c, d⟩ := h.cut hn (by omega)
    obtain ⟨L2, s2, a2, b2, c2, d2⟩ := ih L' b d a
    exact ⟨L2, s2, a2, b2, by omega, d2⟩

/-- sums and the lesser of bounds -/
def osum : Option Int → Option Int → Option Int
  | some a, some b => some (a + b)
  | _, _ => none
/-- is less (none is the greatest) -/
def oless : Option Int → Option Int → Bool
  | some a, some b => decide (a < b)
  | some _, none => true
  | none, _ => false
def omin (a b : Option Int) : Option Int := if oless a b then a else b
/-- is at most a number -/
def OLe (a : Option Int) (x : Int) : Prop := ∃ y, a = some y ∧ y ≤ x

theorem OLe.mono {a : Option Int} {x y : Int} (h : OLe a x) (hx : x ≤ y) : OLe a y := by obtain ⟨z, e, h⟩ := h; exact ⟨z, e, by omega⟩
theorem OLe.of {x : Int} : OLe (some x) x := ⟨x, rfl, Int.le_refl _⟩
theorem omin_or (a b : Option Int) : omin a b = a ∨ omin a b = b := by unfold omin; split <;> simp
theorem omin_l {a b : Option Int} {x : Int} (h : OLe a x) : OLe (omin a b) x := by
  obtain ⟨y, rfl, hy⟩ := h
  cases b with
  | none => exact ⟨y, rfl, hy⟩
  | some b =>
    unfold omin oless
    by_cases hc : y < b
    · rw [if_pos (by simpa using hc)]; exact ⟨y, rfl, hy⟩
    · rw [if_neg (by simpa using hc)]; exact ⟨b, rfl, by omega⟩
theorem omin_r {a b : Option Int} {x : Int} (h : OLe b x) : OLe (omin a b) x := by
  obtain ⟨y, rfl, hy⟩ := h
  cases a with
  | none => exact ⟨y, rfl, hy⟩
  | some b =>
    unfold omin oless
    by_cases hc : b < y
    · rw [if_pos (by simpa using hc)]; exact ⟨b, rfl, by omega⟩
    · rw [if_neg (by simpa using hc)]; exact ⟨y, rfl, hy⟩
theorem osum_some {a b : Option Int} {x : Int} (h : osum a b = some x) : ∃ y z, a = some y ∧ b = some z ∧ x = y + z := by
  cases a <;> cases b <;> simp [osum] at h
  exact ⟨_, _, rfl, rfl, h.symm⟩

/-- the least sums of walks of at most r + 1 bounds -/
def pth (n : Nat) (w : Wt) : Nat → Wt
  | 0 => w
  | r + 1 => fun i j => (List.range n).foldl (fun a k => omin a (osum (pth n w r i k) (w k j))) (pth n w r i j)

theorem fold_or {g : Nat → Option Int} : ∀ (l : List Nat) (a : Option Int), l.foldl (fun a k => omin a (g k)) a = a ∨ ∃ k ∈ l, l.foldl (fun a k => omin a (g k)) a = g k
  | [], a => .inl rfl
  | k :: l, a => by
    simp only [List.foldl_cons]
    rcases fold_or (g := g) l (omin a (g k)) with h | ⟨k', hk, h⟩
    · rcases omin_or a (g k) with e | e
      · exact .inl (by rw [h, e])
      · exact .inr ⟨k, by simp, by rw [h, e]⟩
    · exact .inr ⟨k', by simp [hk], h⟩
theorem fold_l {g : Nat → Option Int} {x : Int} : ∀ (l : List Nat) (a : Option Int), OLe a x → OLe (l.foldl (fun a k => omin a (g k)) a) x
  | [], a, h => h
  | k :: l, a, h => fold_l l _ (omin_l h)
theorem fold_r {g : Nat → Option Int} {x : Int} {k : Nat} : ∀ (l : List Nat) (a : Option Int), k ∈ l → OLe (g k) x → OLe (l.foldl (fun a k => omin a (g k)) a) x
  | k' :: l, a, hk, h => by
    simp only [List.foldl_cons]
    rcases List.mem_cons.1 hk with e | e
    · subst e; exact fold_l l _ (omin_r h)
    · exact fold_r l _ e h

theorem pth_sound : ∀ (r : Nat) {i j x}, i < n → j < n → pth n w r i j = some x → ∃ L, 0 < L ∧ L ≤ r + 1 ∧ Walk n w i j L x
  | 0, i, j, x, hi, hj, h => ⟨1, by omega, by omega, .one hi hj h⟩
  | r + 1, i, j, x, hi, hj, h => by
    simp only [pth] at h
    rcases fold_or (g := fun k => osum (pth n w r i k) (w k j)) (List.range n) (pth n w r i j) with e | ⟨k, hk, e⟩
    · rw [e] at h
      obtain ⟨L, a, b, c⟩ := pth_sound r hi hj h
      exact ⟨L, a, by omega, c⟩
    · rw [e] at h
      obtain ⟨y, z, e1, e2, e3⟩ := osum_some h
      obtain ⟨L, a, b, c⟩ := pth_sound r hi (List.mem_range.1 hk) e1
      exact ⟨L + 1, by omega, by omega, (c.snoc hj e2).cast rfl e3.symm⟩
theorem pth_mono (r : Nat) {i j x} (h : OLe (pth n w r i j) x) : OLe (pth n w (r + 1) i j) x := fold_l _ _ h
theorem pth_monos {r m : Nat} (hm : r ≤ m) {i j x} (h : OLe (pth n w r i j) x) : OLe (pth n w m i j) x := by
  induction hm with
  | refl => exact h
  | step _ ih => exact pth_mono _ ih
theorem pth_walk {i j L s} (h : Walk n w i j L s) : 0 < L → OLe (pth n w (L - 1) i j) s := by
  induction h with
  | nil _ => intro h; omega
  | @snoc k j L s x h hj e ih =>
    intro _
    cases L with
    | zero =>
      cases h with
      | nil h => exact ⟨x, e, by omega⟩
    | succ L =>
      obtain ⟨y, e1, h1⟩ := ih (by omega)
      refine fold_r (k := k) _ _ (List.mem_range.2 h.right) ⟨y + x, ?_, by omega⟩
      simp only [Nat.add_sub_cancel] at e1
      rw [e1, e]; rfl
/-- behind n rounds (or one less), the least sum of all walks, if none that returns is negative -/
theorem pth_least (hn : NonNeg n w) {i j L s} (h : Walk n w i j L s) (h0 : 0 < L) {m : Nat} (hm : n ≤ m + 1) : OLe (pth n w m i j) s := by
  obtain ⟨L', s', a, b, c, d⟩ := h.short hn L h0
  exact (pth_monos (by omega) (pth_walk d a)).mono c

/-- least sums of all walks of one bound or more -/
structure Least (n : Nat) (w : Wt) (d : Wt) : Prop where
  walk : ∀ i j x, i < n → j < n → d i j = some x → ∃ L, 0 < L ∧ Walk n w i j L x
  least : ∀ i j L s, 0 < L → Walk n w i j L s → OLe (d i j) s
theorem pth_Least (hn : NonNeg n w) {m : Nat} (hm : n ≤ m + 1) : Least n w (pth n w m) :=
  ⟨fun i j x hi hj h => by obtain ⟨L, a, _, c⟩ := pth_sound m hi hj h; exact ⟨L, a, c⟩, fun i j L s h0 h => pth_least hn h h0 hm⟩
theorem Least.uniq {d e : Wt} (h : Least n w d) (g : Least n w e) {i j : Nat} (hi : i < n) (hj : j < n) : d i j = e i j := by
  cases hd : d i j with
  | none =>
    cases he : e i j with
    | none => rfl
    | some y =>
      obtain ⟨L, a, b⟩ := g.walk i j y hi hj he
      obtain ⟨z, e1, _⟩ := h.least i j L y a b
      rw [hd] at e1; cases e1
  | some x =>
    obtain ⟨L, a, b⟩ := h.walk i j x hi hj hd
    obtain ⟨y, e1, h1⟩ := g.least i j L x a b
    obtain ⟨M, a2, b2⟩ := g.walk i j y hi hj e1
    obtain ⟨z, e2, h2⟩ := h.least i j M y a2 b2
    rw [hd] at e2
    injection e2 with e2
    rw [e1]; congr 1; omega

/-- all ways through k -/
def phase (k : Nat) (d : Wt) : Wt := fun i j => omin (osum (d i k) (d k j)) (d i j)
/-- closing, time by time -/
def fw (w : Wt) : Nat → Wt
  | 0 => w
  | k + 1 => phase k (fw w k)

structure FwInv (n : Nat) (w : Wt) (k : Nat) (d : Wt) : Prop where
  walk : ∀ i j x, i < n → j < n → d i j = some x → ∃ L, 0 < L ∧ Walk n w i j L x
  le : ∀ i j x, i < n → j < n → w i j = some x → OLe (d i j) x
  tri : ∀ m, m < k → ∀ i j x y, i < n → j < n → d i m = some x → d m j = some y → OLe (d i j) (x + y)

theorem FwInv.diag (hn : NonNeg n w) (hd : ∀ i, i < n → w i i = some 0) {k : Nat} {d : Wt} (h : FwInv n w k d) {i : Nat} (hi : i < n) : d i i = some 0 := by
  obtain ⟨y, e, hy⟩ := h.le i i 0 hi hi (hd i hi)
  obtain ⟨L, _, hw⟩ := h.walk i i y hi hi e
  have := hn _ _ _ hw
  rw [e]; congr 1; omega
/-- the row and the column of k stay -/
theorem phase_row (hn : NonNeg n w) (hd : ∀ i, i < n → w i i = some 0) {k : Nat} {d : Wt} (h : FwInv n w k d) (hk : k < n) (j : Nat) : phase k d k j = d k j := by
  unfold phase
  rw [h.diag hn hd hk]
  cases e : d k j with
  | none => rfl
  | some x => simp [osum, omin, oless]
theorem phase_col (hn : NonNeg n w) (hd : ∀ i, i < n → w i i = some 0) {k : Nat} {d : Wt} (h : FwInv n w k d) (hk : k < n) (i : Nat) : phase k d i k = d i k := by
  unfold phase
  rw [h.diag hn hd hk]
  cases e : d i k with
  | none => rfl
  | some x => simp [osum, omin, oless]
theorem phase_some {k : Nat} {d : Wt} {i j : Nat} {x : Int} (h : phase k d i j = some x) : d i j = some x ∨ ∃ y z, d i k = some y ∧ d k j = some z ∧ x = y + z := by
  unfold phase at h
  rcases omin_or (osum (d i k) (d k j)) (d i j) with e | e
  · rw [e] at h
    exact .inr (osum_some h)
  · rw [e] at h; exact .inl h
theorem phase_le {k : Nat} {d : Wt} {i j : Nat} {x : Int} (h : OLe (d i j) x) : OLe (phase k d i j) x := omin_r h
theorem phase_via {k : Nat} {d : Wt} {i j : Nat} {y z x : Int} (h1 : d i k = some y) (h2 : d k j = some z) (hx : y + z ≤ x) : OLe (phase k d i j) x := omin_l ⟨y + z, by rw [h1, h2]; rfl, hx⟩

theorem FwInv.step (hn : NonNeg n w) (hd : ∀ i, i < n → w i i = some 0) {k : Nat} {d : Wt} (h : FwInv n w k d) (hk : k < n) : FwInv n w (k + 1) (phase k d) where
  walk i j x hi hj e := by
    rcases phase_some e with e | ⟨y, z, e1, e2, e3⟩
    · exact h.walk i j x hi hj e
    · obtain ⟨L, a, b⟩ := h.walk i k y hi hk e1
      obtain ⟨M, a2, b2⟩ := h.walk k j z hk hj e2
      exact ⟨L + M, by omega, (b.app b2).cast rfl e3.symm⟩
  le i j x hi hj e := phase_le (h.le i j x hi hj e)
  tri m hm i j x y hi hj e1 e2 := by
    by_cases hmk : m = k
    · subst hmk
      rw [phase_col hn hd h hk] at e1
      rw [phase_row hn hd h hk] at e2
      exact phase_via e1 e2 (Int.le_refl _)
    have hm : m < k := by omega
    rcases phase_some e1 with f1 | ⟨y1, z1, a1, b1, c1⟩
    · rcases phase_some e2 with f2 | ⟨y2, z2, a2, b2, c2⟩
      · exact phase_le (h.tri m hm i j x y hi hj f1 f2)
      · obtain ⟨t, g1, g2⟩ := h.tri m hm i k x y2 hi hk f1 a2
        exact phase_via g1 b2 (by omega)
    · rcases phase_some e2 with f2 | ⟨y2, z2, a2, b2, c2⟩
      · obtain ⟨t, g1, g2⟩ := h.tri m hm k j z1 y hk hj b1 f2
        exact phase_via a1 g1 (by omega)
      · obtain ⟨t, g1, g2⟩ := h.tri m hm k k z1 y2 hk hk b1 a2
        rw [h.diag hn hd hk] at g1
        injection g1 with g1
        exact phase_via a1 b2 (by omega)
theorem fw_inv (hn : NonNeg n w) (hd : ∀ i, i < n → w i i = some 0) : ∀ k, k ≤ n → FwInv n w k (fw w k)
  | 0, _ => ⟨fun i j x hi hj e => ⟨1, by omega, .one hi hj e⟩, fun i j x _ _ e => ⟨x, e, Int.le_refl _⟩, fun m hm => by omega⟩
  | k + 1, h => (fw_inv hn hd k (by omega)).step hn hd (by omega)
theorem fw_Least (hn : NonNeg n w) (hd : ∀ i, i < n → w i i = some 0) : Least n w (fw w n) := by
  have h := fw_inv hn hd n (Nat.le_refl _)
  refine ⟨h.walk, ?_⟩
  intro i j L s h0 hw
  induction hw with
  | nil _ => omega
  | @snoc k j L s x hw hj e ih =>
    cases L with
    | zero =>
      cases hw with
      | nil hi => exact (h.le _ j x hi hj e).mono (by omega)
    | succ L =>
      obtain ⟨y, e1, h1⟩ := ih (by omega)
      obtain ⟨z, e2, h2⟩ := h.le k j x hw.right hj e
      exact (h.tri k hw.right _ j y z hw.left hj e1 e2).mono (by omega)
/-- the magnitudes -/
theorem fw_small {M : Int} (hM : ∀ i j x, w i j = some x → -M ≤ x ∧ x ≤ M) : ∀ k {i j x}, fw w k i j = some x → -(2 ^ k * M) ≤ x ∧ x ≤ 2 ^ k * M
  | 0, i, j, x, h => by have := hM i j x h; simpa using this
  | k + 1, i, j, x, h => by
    have e2 : (2 : Int) ^ (k + 1) * M = 2 ^ k * M + 2 ^ k * M := by rw [Int.pow_succ, Int.mul_assoc, Int.mul_comm 2 M, ← Int.mul_assoc]; omega
    rw [e2]
    rcases phase_some h with e | ⟨y, z, a, b, c⟩
    · have := fw_small hM k e
      omega
    · have h1 := fw_small hM k a
      have h2 := fw_small hM k b
      omega
theorem pth_small {M : Int} (h0 : 0 ≤ M) (hM : ∀ i j x, w i j = some x → -M ≤ x ∧ x ≤ M) : ∀ (r : Nat) {i j : Nat} {x : Int}, pth n w r i j = some x → -((r + 1 : Nat) * M) ≤ x ∧ x ≤ (r + 1 : Nat) * M
  | 0, i, j, x, h => by have := hM i j x h; simpa using this
  | r + 1, i, j, x, h => by
    have e2 : ((r + 1 + 1 : Nat) : Int) * M = (r + 1 : Nat) * M + M := by rw [Int.natCast_succ, Int.add_mul, Int.one_mul]
    rw [e2]
    simp only [pth] at h
    rcases fold_or (g := fun k => osum (pth n w r i k) (w k j)) (List.range n) (pth n w r i j) with e | ⟨k, hk, e⟩
    · rw [e] at h
      have := pth_small h0 hM r h
      omega
    · rw [e] at h
      obtain ⟨y, z, e1, e2, e3⟩ := osum_some h
      have h1 := pth_small h0 hM r e1
      have h2 := hM _ _ _ e2
      omega
end G11
