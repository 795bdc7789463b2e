/- The cycle that proves a contradiction: bounds are walked again and again; in plain words. No condition. -/
import Derived.Test.YteoiegapifoboaaG11w
namespace G11
variable {n : Nat} {w : Wt}

structure BF where
  far : Nat → Int
  fr : Nat → Nat
  last : Option Nat

def upd {α : Type} (f : Nat → α) (i : Nat) (v : α) : Nat → α := fun a => if a = i then v else f a
theorem upd_eq {α : Type} {f : Nat → α} {i : Nat} {v : α} : upd f i v i = v := by simp [upd]
theorem upd_ne {α : Type} {f : Nat → α} {i j : Nat} {v : α} (h : j ≠ i) : upd f i v j = f j := by simp [upd, h]

def bfStep (w : Wt) (i j : Nat) (s : BF) : BF :=
  match w i j with
  | some x => if s.far i + x < s.far j then ⟨upd s.far j (s.far i + x), upd s.fr j i, some j⟩ else s
  | none => s
def bfRow (n : Nat) (w : Wt) (i : Nat) (s : BF) : BF := (List.range n).foldl (fun s j => bfStep w i j s) s
def bfRound (n : Nat) (w : Wt) (s : BF) : BF := (List.range n).foldl (fun s i => bfRow n w i s) { s with last := none }
def rounds (n : Nat) (w : Wt) : Nat → BF → Option BF
  | 0, s => some s
  | k + 1, s => if (bfRound n w s).last.isNone then none else rounds n w k (bfRound n w s)
def bf0 : BF := ⟨fun _ => 0, fun _ => 0, none⟩

theorem foldl_range {β : Type} {f : β → Nat → β} {P : Nat → β → Prop} : ∀ (n : Nat) (s : β), P 0 s → (∀ k s, k < n → P k s → P (k + 1) (f s k)) → P n ((List.range n).foldl f s)
  | 0, s, h, _ => h
  | n + 1, s, h, hs => by
    rw [List.range_succ, List.foldl_append]
    exact hs n _ (by omega) (foldl_range n s h fun k s hk => hs k s (by omega))

/-- when a bound was looked at last -/
def lc (m r q p : Nat) : Nat := if p < q then r * m + p + 1 else if r = 0 then 0 else (r - 1) * m + p + 1
theorem lc_ne {m r q p : Nat} (h : p ≠ q) : lc m r (q + 1) p = lc m r q p := by
  unfold lc
  by_cases hc : p < q
  · rw [if_pos hc, if_pos (by omega)]
  · rw [if_neg hc, if_neg (by omega)]
theorem lc_le {m r q p : Nat} (hp : p < m) : lc m r q p ≤ r * m + q := by
  unfold lc
  split
  · omega
  · split
    · omega
    · obtain ⟨k, rfl⟩ : ∃ k, r = k + 1 := ⟨r - 1, by omega⟩
      rw [Nat.add_sub_cancel, Nat.succ_mul]; omega

structure Inv (n : Nat) (w : Wt) (r q : Nat) (s : BF) (T : Nat → Nat) : Prop where
  a : ∀ v, T v ≤ r * (n * n) + q
  b : ∀ v, v < n → 0 < T v → s.fr v < n ∧ ∃ x, w (s.fr v) v = some x ∧ s.far (s.fr v) + x ≤ s.far v ∧ (T v ≤ T (s.fr v) → s.far (s.fr v) + x < s.far v)
  c : ∀ i j x, i < n → j < n → w i j = some x → T i < lc (n * n) r q (i * n + j) → s.far j ≤ s.far i + x
  d : ∀ v, v < n → 0 < T v → T v ≤ n * n ∨ T v ≤ T (s.fr v) + n * n
  e : (s.last = none → ∀ v, v < n → T v ≤ r * (n * n)) ∧ ∀ l, s.last = some l → l < n ∧ r * (n * n) < T l

theorem pos_lt {i j : Nat} (hi : i < n) (hj : j < n) : i * n + j < n * n := by
  have : (i + 1) * n ≤ n * n := Nat.mul_le_mul_right n hi
  rw [Nat.succ_mul] at this; omega
theorem pos_inj {i j i' j' : Nat} (hj : j < n) (hj' : j' < n) (h : i * n + j = i' * n + j') : i = i' ∧ j = j' := by
  have h1 : (i * n + j) / n = i := by rw [Nat.add_comm, Nat.add_mul_div_right _ _ (by omega), Nat.div_eq_of_lt hj]; omega
  have h2 : (i' * n + j') / n = i' := by rw [Nat.add_comm, Nat.add_mul_div_right _ _ (by omega), Nat.div_eq_of_lt hj']; omega
  have : i = i' := by rw [← h1, ← h2, h]
  subst this
  exact ⟨rfl, by omega⟩

theorem Inv.step (hd : ∀ i, i < n → w i i = some 0) {r q : Nat} {s : BF} {T : Nat → Nat} (h : Inv n w r q s T) {i j : Nat} (hi : i < n) (hj : j < n) (hq : q = i * n + j) :
    ∃ T', Inv n w r (q + 1) (bfStep w i j s) T' := by
  have hm := pos_lt hi hj
  unfold bfStep
  split
  · rename_i x hx
    by_cases hc : s.far i + x < s.far j
    · rw [if_pos hc]
      have hij : i ≠ j := by
        intro e; subst e
        rw [hd i hi] at hx; injection hx with hx; omega
      refine ⟨upd T j (r * (n * n) + q + 1), ?_, ?_, ?_, ?_, ?_, ?_⟩
      · intro v
        by_cases hv : v = j
        · subst hv; rw [upd_eq]; omega
        · rw [upd_ne hv]; have := h.a v; omega
      · intro v hv h0
        by_cases e : v = j
        · subst e
          dsimp only
          rw [upd_eq, upd_eq, upd_eq, upd_ne hij, upd_ne hij]
          refine ⟨hi, x, hx, Int.le_refl _, fun g => ?_⟩
          have := h.a i
          omega
        · dsimp only
          rw [upd_ne e] at h0
          obtain ⟨b1, y, b2, b3, b4⟩ := h.b v hv h0
          rw [upd_ne e, upd_ne e, upd_ne e]
          refine ⟨b1, y, b2, ?_⟩
          by_cases e2 : s.fr v = j
          · rw [e2, upd_eq]; rw [e2] at b3; exact ⟨by omega, fun _ => by omega⟩
          · rw [upd_ne e2, upd_ne e2]; exact ⟨b3, b4⟩
      · intro i' j' y hi' hj' hy ht
        dsimp only
        have hp := pos_lt hi' hj'
        by_cases e : i' = j
        · subst e
          rw [upd_eq] at ht
          have := lc_le (r := r) (q := q + 1) hp
          omega
        rw [upd_ne e] at ht ⊢
        by_cases e2 : i' * n + j' = q
        · obtain ⟨e3, e4⟩ := pos_inj hj' hj (e2.trans hq)
          subst e3; subst e4
          rw [upd_eq]
          rw [hx] at hy; injection hy with hy; omega
        · rw [lc_ne e2] at ht
          have := h.c i' j' y hi' hj' hy ht
          by_cases e5 : j' = j
          · subst e5; rw [upd_eq]; omega
          · rw [upd_ne e5]; exact this
      · intro v hv h0
        dsimp only
        by_cases e : v = j
        · subst e
          rw [upd_eq, upd_eq, upd_ne hij]
          have hn : ¬ T i < lc (n * n) r q (i * n + v) := fun g => by have := h.c i v x hi hv hx g; omega
          unfold lc at hn
          rw [if_neg (by omega)] at hn
          by_cases hr : r = 0
          · subst hr; left; omega
          · rw [if_neg hr] at hn
            right
            obtain ⟨k, rfl⟩ : ∃ k, r = k + 1 := ⟨r - 1, by omega⟩
            rw [Nat.add_sub_cancel] at hn
            rw [Nat.succ_mul]; omega
        · rw [upd_ne e] at h0
          rw [upd_ne e, upd_ne e]
          rcases h.d v hv h0 with g | g
          · exact .inl g
          · right
            by_cases e2 : s.fr v = j
            · rw [e2, upd_eq]; rw [e2] at g; have := h.a j; omega
            · rw [upd_ne e2]; exact g
      · intro e; cases e
      · intro l e
        injection e with e
        subst e
        rw [upd_eq]
        exact ⟨hj, by omega⟩
    · rw [if_neg hc]
      refine ⟨T, fun v => by have := h.a v; omega, h.b, ?_, h.d, h.e⟩
      intro i' j' y hi' hj' hy ht
      by_cases e2 : i' * n + j' = q
      · obtain ⟨e3, e4⟩ := pos_inj hj' hj (e2.trans hq)
        subst e3; subst e4
        rw [hx] at hy; injection hy with hy; omega
      · rw [lc_ne e2] at ht
        exact h.c i' j' y hi' hj' hy ht
  · rename_i hx
    refine ⟨T, fun v => by have := h.a v; omega, h.b, ?_, h.d, h.e⟩
    intro i' j' y hi' hj' hy ht
    by_cases e2 : i' * n + j' = q
    · obtain ⟨e3, e4⟩ := pos_inj hj' hj (e2.trans hq)
      subst e3; subst e4
      rw [hx] at hy; cases hy
    · rw [lc_ne e2] at ht
      exact h.c i' j' y hi' hj' hy ht

theorem Inv.row (hd : ∀ i, i < n → w i i = some 0) {r i : Nat} {s : BF} {T : Nat → Nat} (h : Inv n w r (i * n) s T) (hi : i < n) : ∃ T', Inv n w r ((i + 1) * n) (bfRow n w i s) T' := by
  have := foldl_range (P := fun k s => ∃ T', Inv n w r (i * n + k) s T') (f := fun s j => bfStep w i j s) n s ⟨T, h⟩ (fun k s hk ⟨T, h⟩ => h.step hd hi hk rfl)
  rw [Nat.succ_mul]; exact this
theorem Inv.next {r : Nat} {s : BF} {T : Nat → Nat} (h : Inv n w r (n * n) s T) : Inv n w (r + 1) 0 { s with last := none } T where
  a v := by have := h.a v; rw [Nat.succ_mul]; omega
  b := h.b
  c i j x hi hj e ht := by
    refine h.c i j x hi hj e ?_
    have := pos_lt hi hj
    unfold lc at ht ⊢
    rw [if_neg (by omega), if_neg (by omega), Nat.add_sub_cancel] at ht
    rw [if_pos this]; exact ht
  d := h.d
  e := ⟨fun _ v _ => by have := h.a v; rw [Nat.succ_mul]; omega, fun l e => by cases e⟩
theorem Inv.round (hd : ∀ i, i < n → w i i = some 0) {r : Nat} {s : BF} {T : Nat → Nat} (h : Inv n w r 0 { s with last := none } T) : ∃ T', Inv n w r (n * n) (bfRound n w s) T' :=
  foldl_range (P := fun k s => ∃ T', Inv n w r (k * n) s T') (f := fun s i => bfRow n w i s) n { s with last := none } ⟨T, by rw [Nat.zero_mul]; exact h⟩ (fun k s hk ⟨T, h⟩ => h.row hd hk)

theorem Inv.nonNeg {r : Nat} {s : BF} {T : Nat → Nat} (h : Inv n w r (n * n) s T) (hl : s.last = none) : NonNeg n w := by
  refine NonNeg.of_pot (f := s.far) (fun i j x hi hj e => h.c i j x hi hj e ?_)
  have h1 := h.e.1 hl i hi
  have := pos_lt hi hj
  unfold lc
  rw [if_pos this]; omega

theorem rounds_inv (hd : ∀ i, i < n → w i i = some 0) : ∀ (k r : Nat) {s : BF} {T : Nat → Nat}, Inv n w r 0 { s with last := none } T →
    (rounds n w k s = none → NonNeg n w) ∧ ∀ s', 0 < k → rounds n w k s = some s' → ∃ T', Inv n w (r + k - 1) (n * n) s' T' ∧ s'.last.isNone = false
  | 0, r, s, T, h => ⟨fun e => by simp [rounds] at e, fun s' h0 => by omega⟩
  | k + 1, r, s, T, h => by
    obtain ⟨T2, h2⟩ := h.round hd
    simp only [rounds]
    cases e : (bfRound n w s).last.isNone with
    | true => exact ⟨fun _ => h2.nonNeg (by simpa using e), fun s' _ g => by simp at g⟩
    | false =>
      simp only [Bool.false_eq_true, if_false]
      obtain ⟨g1, g2⟩ := rounds_inv hd k (r + 1) (s := bfRound n w s) (T := T2) h2.next
      refine ⟨g1, fun s' _ g => ?_⟩
      cases k with
      | zero =>
        simp only [rounds, Option.some.injEq] at g
        subst g
        exact ⟨T2, by simpa using h2, e⟩
      | succ k =>
        have := g2 s' (by omega) g
        rw [show r + 1 + (k + 1) - 1 = r + (k + 1 + 1) - 1 by omega] at this
        exact this
theorem inv0 : Inv n w 0 0 { bf0 with last := none } (fun _ => 0) :=
  ⟨fun _ => by omega, fun _ _ h => by omega, fun i j x _ _ _ h => by unfold lc at h; simp at h, fun _ _ h => by omega, fun _ _ _ => by omega, fun _ e => by cases e⟩

/-- iterating a function -/
def itn (f : Nat → Nat) (l : Nat) : Nat → Nat
  | 0 => l
  | k + 1 => f (itn f l k)
theorem itn_add (f : Nat → Nat) (l a : Nat) : ∀ b, itn f l (a + b) = itn f (itn f l a) b
  | 0 => rfl
  | b + 1 => congrArg f (itn_add f l a b)

/-- the sum of the first bounds of the cycle, which is read backwards -/
def bsum (x : Nat → Int) (e : Nat) : Nat → Int
  | 0 => 0
  | t + 1 => bsum x e t + x (e - 1 - t)

/-- what is found if the last round still lowers something: a cycle of at most n bounds with a negative sum -/
structure Cyc (n : Nat) (w : Wt) (s : BF) (l k : Nat) (x : Nat → Int) : Prop where
  hl : s.last = some l
  lt : ∀ m, itn s.fr l m < n
  pos : 0 < k
  le : k ≤ n
  back : itn s.fr l (n + k) = itn s.fr l n
  first : ∀ m, 0 < m → m < k → itn s.fr l (n + m) ≠ itn s.fr l n
  bound : ∀ m, w (itn s.fr l (m + 1)) (itn s.fr l m) = some (x m)
  neg : bsum x (n + k) k < 0

theorem Inv.cyc {s : BF} {T : Nat → Nat} (h0 : 0 < n) (h : Inv n w (n - 1) (n * n) s T) (hl : s.last.isNone = false) : ∃ l k x, Cyc n w s l k x := by
  obtain ⟨l, hl⟩ : ∃ l, s.last = some l := by cases e : s.last with | none => rw [e] at hl; simp at hl | some l => exact ⟨l, rfl⟩
  obtain ⟨hln, hlt⟩ := h.e.2 l hl
  have hk : ∀ k, k ≤ n - 1 → itn s.fr l k < n ∧ (n - 1 - k) * (n * n) < T (itn s.fr l k) := by
    intro k
    induction k with
    | zero => intro _; exact ⟨hln, hlt⟩
    | succ k ih =>
      intro hk
      obtain ⟨a1, a2⟩ := ih (by omega)
      have hpos : 0 < T (itn s.fr l k) := by omega
      refine ⟨(h.b _ a1 hpos).1, ?_⟩
      have e : n - 1 - k = (n - 1 - (k + 1)) + 1 := by omega
      rw [e, Nat.succ_mul] at a2
      show _ < T (s.fr (itn s.fr l k))
      rcases h.d _ a1 hpos with g | g
      · omega
      · omega
  have hpos : ∀ k, k ≤ n - 1 → itn s.fr l k < n ∧ 0 < T (itn s.fr l k) := fun k hk' => ⟨(hk k hk').1, by have := (hk k hk').2; omega⟩
  have hn1 : itn s.fr l n < n := by
    have := h.b _ (hpos (n - 1) (by omega)).1 (hpos (n - 1) (by omega)).2
    have e : n = n - 1 + 1 := by omega
    rw [e]; exact Nat.lt_of_lt_of_eq this.1 e
  obtain ⟨a, b, h1, h2, h3⟩ := php n (m := n + 1) (f := fun t => itn s.fr l t) (fun t ht => by
    by_cases e : t = n
    · subst e; exact hn1
    · exact (hpos t (by omega)).1) (by omega)
  have hper : ∀ m, itn s.fr l (b + m) = itn s.fr l (a + m) := fun m => by rw [itn_add, ← h3, ← itn_add]
  have hall : ∀ m, itn s.fr l m < n ∧ 0 < T (itn s.fr l m) := by
    intro m
    induction m using Nat.strongRecOn with
    | _ m ih =>
      by_cases hm : m ≤ n - 1
      · exact hpos m hm
      · have := hper (m - b)
        rw [show b + (m - b) = m by omega] at this
        rw [this]
        exact ih _ (by omega)
  have hbk : itn s.fr l (n + (b - a)) = itn s.fr l n := by
    have := hper (n - a)
    rw [show b + (n - a) = n + (b - a) by omega, show a + (n - a) = n by omega] at this
    exact this
  -- the first return
  obtain ⟨k, k0, k1, k2, k3⟩ : ∃ k, 0 < k ∧ k ≤ b - a ∧ itn s.fr l (n + k) = itn s.fr l n ∧ ∀ m, 0 < m → m < k → itn s.fr l (n + m) ≠ itn s.fr l n := by
    have : ∀ d, 0 < d → itn s.fr l (n + d) = itn s.fr l n → ∃ k, 0 < k ∧ k ≤ d ∧ itn s.fr l (n + k) = itn s.fr l n ∧ ∀ m, 0 < m → m < k → itn s.fr l (n + m) ≠ itn s.fr l n := by
      intro d
      induction d using Nat.strongRecOn with
      | _ d ih =>
        intro hd he
        by_cases hc : ∃ m, 0 < m ∧ m < d ∧ itn s.fr l (n + m) = itn s.fr l n
        · obtain ⟨m, m0, m1, m2⟩ := hc
          obtain ⟨k, k0, k1, k2, k3⟩ := ih m m1 m0 m2
          exact ⟨k, k0, by omega, k2, k3⟩
        · exact ⟨d, hd, Nat.le_refl _, he, fun m m0 m1 e => hc ⟨m, m0, m1, e⟩⟩
    exact this (b - a) (by omega) hbk
  have hx : ∀ m, ∃ x, w (itn s.fr l (m + 1)) (itn s.fr l m) = some x ∧ s.far (itn s.fr l (m + 1)) + x ≤ s.far (itn s.fr l m) ∧ (T (itn s.fr l m) ≤ T (itn s.fr l (m + 1)) → s.far (itn s.fr l (m + 1)) + x < s.far (itn s.fr l m)) :=
    fun m => (h.b _ (hall m).1 (hall m).2).2
  obtain ⟨x, hx⟩ : ∃ x : Nat → Int, ∀ m, w (itn s.fr l (m + 1)) (itn s.fr l m) = some (x m) ∧ s.far (itn s.fr l (m + 1)) + x m ≤ s.far (itn s.fr l m) ∧ (T (itn s.fr l m) ≤ T (itn s.fr l (m + 1)) → s.far (itn s.fr l (m + 1)) + x m < s.far (itn s.fr l m)) :=
    ⟨fun m => Classical.choose (hx m), fun m => Classical.choose_spec (hx m)⟩
  refine ⟨l, k, x, hl, fun m => (hall m).1, k0, by omega, k2, k3, fun m => (hx m).1, ?_⟩
  have key : ∀ t, t ≤ k → bsum x (n + k) t + s.far (itn s.fr l (n + k)) ≤ s.far (itn s.fr l (n + k - t)) ∧
      (bsum x (n + k) t + s.far (itn s.fr l (n + k)) < s.far (itn s.fr l (n + k - t)) ∨ T (itn s.fr l (n + k)) + t ≤ T (itn s.fr l (n + k - t))) := by
    intro t
    induction t with
    | zero => intro _; simp [bsum]
    | succ t ih =>
      intro ht
      obtain ⟨i1, i2⟩ := ih (by omega)
      obtain ⟨_, c2, c3⟩ := hx (n + k - 1 - t)
      rw [show n + k - 1 - t + 1 = n + k - t by omega] at c2 c3
      rw [show n + k - (t + 1) = n + k - 1 - t by omega]
      simp only [bsum]
      refine ⟨by omega, ?_⟩
      by_cases hc : T (itn s.fr l (n + k - 1 - t)) ≤ T (itn s.fr l (n + k - t))
      · have := c3 hc; left; omega
      · rcases i2 with g | g
        · left; omega
        · right; omega
  obtain ⟨q1, q2⟩ := key k (Nat.le_refl _)
  rw [show n + k - k = n by omega, k2] at q1 q2
  rcases q2 with g | g
  · omega
  · omega

theorem neg_none (hd : ∀ i, i < n → w i i = some 0) (h : rounds n w n bf0 = none) : NonNeg n w := (rounds_inv hd n 0 inv0).1 h
theorem neg_some (h0 : 0 < n) (hd : ∀ i, i < n → w i i = some 0) {s : BF} (h : rounds n w n bf0 = some s) : ∃ l k x, Cyc n w s l k x := by
  obtain ⟨T, h1, h2⟩ := (rounds_inv hd n 0 inv0).2 s h0 h
  rw [Nat.zero_add] at h1
  exact h1.cyc h0 h2

/-- the cycle is a walk that returns -/
theorem Cyc.walk {s : BF} {l k : Nat} {x : Nat → Int} (h : Cyc n w s l k x) : ∀ t, t ≤ k → Walk n w (itn s.fr l (n + k)) (itn s.fr l (n + k - t)) t (bsum x (n + k) t)
  | 0, _ => .nil (h.lt _)
  | t + 1, ht => by
    have := h.bound (n + k - 1 - t)
    rw [show n + k - 1 - t + 1 = n + k - t by omega] at this
    rw [show n + k - (t + 1) = n + k - 1 - t by omega]
    exact (h.walk t (by omega)).snoc (h.lt _) this
theorem Cyc.pth {s : BF} {l k : Nat} {x : Nat → Int} (h : Cyc n w s l k x) {m : Nat} (hm : n ≤ m + 1) : ∃ i y, i < n ∧ pth n w m i i = some y ∧ y < 0 := by
  have hw := h.walk k (Nat.le_refl _)
  rw [Nat.add_sub_cancel, h.back] at hw
  obtain ⟨y, e, hy⟩ := pth_monos (m := m) (by have := h.le; have := h.pos; omega) (pth_walk hw h.pos)
  exact ⟨_, y, h.lt n, e, by have := h.neg; omega⟩
/-- if no closed walk is negative, the diagonal of the least sums is not -/
theorem pth_diag (hn : NonNeg n w) {m i : Nat} {y : Int} (hi : i < n) (e : pth n w m i i = some y) : 0 ≤ y := by
  obtain ⟨L, _, _, hw⟩ := pth_sound m hi hi e
  exact hn _ _ _ hw

/-- the magnitudes -/
def BdF (c : Int) (s : BF) : Prop := ∀ v, -c ≤ s.far v ∧ s.far v ≤ 0
theorem BdF.step {M c : Int} (h0 : 0 ≤ M) (hM : ∀ i j x, w i j = some x → -M ≤ x ∧ x ≤ M) {s : BF} (h : BdF c s) (i j : Nat) : BdF (c + M) (bfStep w i j s) := by
  intro v
  have hv := h v
  have hi := h i
  unfold bfStep
  split
  · rename_i x hx
    have := hM _ _ _ hx
    split
    · by_cases e : v = j
      · subst e; dsimp only; rw [upd_eq]; omega
      · dsimp only; rw [upd_ne e]; omega
    · omega
  · omega
end G11
