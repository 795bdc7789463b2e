/- The abstract machine with its slots in a tree, which the kernel runs faster: what it computes, the machine computes. No condition. -/
import Derived.Test.YtiicggigpcfefaaAmY
namespace Go.Am

inductive T where
  | nil
  | node (l : T) (v : AV) (r : T)

namespace T
def get : T → Nat → AV
  | .nil, _ => .any
  | .node l v r, n => bif Nat.beq n 0 then v else bif Nat.beq (n % 2) 1 then get l (n / 2) else get r (n / 2 - 1)

def put : T → Nat → AV → T
  | .nil, _, _ => .nil
  | .node l v r, n, x => bif Nat.beq n 0 then .node l x r else bif Nat.beq (n % 2) 1 then .node (put l (n / 2) x) v r else .node l v (put r (n / 2 - 1) x)

def has : T → Nat → Bool
  | .nil, _ => false
  | .node l _ r, n => bif Nat.beq n 0 then true else bif Nat.beq (n % 2) 1 then has l (n / 2) else has r (n / 2 - 1)

def full : Nat → Nat → AV → T
  | 0, _, _ => .nil
  | k + 1, n, d => bif Nat.beq n 0 then .nil else .node (full k (n / 2) d) d (full k ((n - 1) / 2) d)

def puts : List AV → Nat → T → T
  | [], _, t => t
  | x :: xs, i, t => puts xs (i + 1) (t.put i x)

def bels (n : Nat) : T → Bool
  | .nil => true
  | .node l v r => v.bel n && (bels n l && bels n r)

def kills : List Nat → T → T
  | [], t => t
  | d :: ds, t => kills ds (t.put d .any)

theorem beq0 (n : Nat) : Nat.beq n 0 = decide (n = 0) := by
  cases h : Nat.beq n 0 with
  | true => simp [Nat.eq_of_beq_eq_true h]
  | false => have := Nat.ne_of_beq_eq_false h; simp [this]
theorem beq1 (n m : Nat) : Nat.beq n m = decide (n = m) := by
  cases h : Nat.beq n m with
  | true => simp [Nat.eq_of_beq_eq_true h]
  | false => have := Nat.ne_of_beq_eq_false h; simp [this]

theorem get_put : ∀ (t : T) (i j : Nat) (x : AV), (t.put i x).get j = if j = i ∧ t.has i = true then x else t.get j
  | .nil, i, j, x => by simp [put, get, has]
  | .node l v r, i, j, x => by
    simp only [put, has, beq1]
    by_cases hi : i = 0
    · subst hi
      simp only [decide_true, cond_true, get, beq1]
      by_cases hj : j = 0 <;> simp [hj]
    · simp only [hi, decide_false, cond_false]
      by_cases hi2 : i % 2 = 1
      · simp only [hi2, decide_true, cond_true, get, beq1]
        by_cases hj : j = 0
        · subst hj; simp; intro h; omega
        · simp only [hj, decide_false, cond_false]
          by_cases hj2 : j % 2 = 1
          · simp only [hj2, decide_true, cond_true, get_put l]
            have : (j = i) ↔ (j / 2 = i / 2) := by omega
            simp [this]
          · simp only [hj2, decide_false, cond_false]
            have : j ≠ i := by rintro rfl; exact hj2 hi2
            simp [this]
      · simp only [hi2, decide_false, cond_false, get, beq1]
        by_cases hj : j = 0
        · subst hj; simp; intro h; omega
        · simp only [hj, decide_false, cond_false]
          by_cases hj2 : j % 2 = 1
          · simp only [hj2, decide_true, cond_true]
            have : j ≠ i := by rintro rfl; exact hi2 hj2
            simp [this]
          · simp only [hj2, decide_false, cond_false, get_put r]
            have : (j = i) ↔ (j / 2 - 1 = i / 2 - 1) := by omega
            simp [this]

theorem has_put : ∀ (t : T) (i j : Nat) (x : AV), (t.put i x).has j = t.has j
  | .nil, i, j, x => by simp [put]
  | .node l v r, i, j, x => by
    simp only [put]
    by_cases hi : Nat.beq i 0 = true
    · simp only [hi, cond_true, has]
    · simp only [Bool.not_eq_true] at hi
      simp only [hi, cond_false]
      by_cases hi2 : Nat.beq (i % 2) 1 = true
      · simp only [hi2, cond_true, has, has_put l]
      · simp only [Bool.not_eq_true] at hi2
        simp only [hi2, cond_false, has, has_put r]

theorem full_has : ∀ (k n : Nat) (d : AV), n < 2 ^ k → ∀ i, (full k n d).has i = decide (i < n)
  | 0, n, d, h, i => by
    have : n = 0 := by simpa using h
    subst this; simp [full, has]
  | k + 1, n, d, h, i => by
    simp only [full, beq1]
    by_cases hn : n = 0
    · subst hn; simp [has]
    · rw [Nat.pow_succ] at h
      simp only [hn, decide_false, cond_false, has, beq1]
      by_cases hi : i = 0
      · subst hi; simp; omega
      · simp only [hi, decide_false, cond_false]
        by_cases hi2 : i % 2 = 1
        · simp only [hi2, decide_true, cond_true, full_has k (n / 2) d (by omega)]
          congr 1; apply propext; omega
        · simp only [hi2, decide_false, cond_false, full_has k ((n - 1) / 2) d (by omega)]
          congr 1; apply propext; omega

theorem full_get : ∀ (k n : Nat) (d : AV), n < 2 ^ k → ∀ i, i < n → (full k n d).get i = d
  | 0, n, d, h, i, hi => by have : n = 0 := by simpa using h
                            omega
  | k + 1, n, d, h, i, hi => by
    simp only [full, beq1]
    have hn : n ≠ 0 := by omega
    rw [Nat.pow_succ] at h
    simp only [hn, decide_false, cond_false, get, beq1]
    by_cases hi0 : i = 0
    · subst hi0; simp
    · simp only [hi0, decide_false, cond_false]
      by_cases hi2 : i % 2 = 1
      · simp only [hi2, decide_true, cond_true, full_get k (n / 2) d (by omega) (i / 2) (by omega)]
      · simp only [hi2, decide_false, cond_false, full_get k ((n - 1) / 2) d (by omega) (i / 2 - 1) (by omega)]

theorem get_nohas : ∀ (t : T) (i : Nat), t.has i = false → t.get i = .any
  | .nil, _, _ => rfl
  | .node l v r, i, h => by
    simp only [has, get] at h ⊢
    by_cases hi : Nat.beq i 0 = true
    · simp [hi] at h
    · simp only [Bool.not_eq_true] at hi
      simp only [hi, cond_false] at h ⊢
      by_cases hi2 : Nat.beq (i % 2) 1 = true
      · simp only [hi2, cond_true] at h ⊢; exact get_nohas l _ h
      · simp only [Bool.not_eq_true] at hi2
        simp only [hi2, cond_false] at h ⊢; exact get_nohas r _ h

theorem bels_iff (n : Nat) : ∀ t : T, bels n t = true ↔ ∀ i, (t.get i).bel n = true
  | .nil => by simp [bels, get, AV.bel]
  | .node l v r => by
    simp only [bels, Bool.and_eq_true, bels_iff n l, bels_iff n r]
    constructor
    · rintro ⟨h1, h2, h3⟩ i
      simp only [get, beq1]
      by_cases hi : i = 0
      · simp [hi, h1]
      · simp only [hi, decide_false, cond_false]
        by_cases hi2 : i % 2 = 1
        · simp [hi2, h2]
        · simp [hi2, h3]
    · intro h
      refine ⟨by have := h 0; simpa [get] using this, fun i => ?_, fun i => ?_⟩
      · have := h (2 * i + 1)
        simp only [get, beq1] at this
        have e1 : (2 * i + 1) % 2 = 1 := by omega
        have e2 : (2 * i + 1) / 2 = i := by omega
        have e3 : ¬ (2 * i + 1 = 0) := by omega
        simpa [e1, e2, e3] using this
      · have := h (2 * i + 2)
        simp only [get, beq1] at this
        have e1 : ¬ (2 * i + 2) % 2 = 1 := by omega
        have e2 : (2 * i + 2) / 2 - 1 = i := by omega
        have e3 : ¬ (2 * i + 2 = 0) := by omega
        simpa [e1, e2, e3] using this
end T

/-- a tree and a list of slots -/
def Rel (τ : T) (l : List AV) : Prop := (∀ n, τ.get n = l.getD n .any) ∧ ∀ n, τ.has n = decide (n < l.length)

theorem Rel.put {τ : T} {l : List AV} (h : Rel τ l) (d : Nat) (v : AV) : Rel (τ.put d v) (l.set d v) := by
  refine ⟨fun n => ?_, fun n => by rw [T.has_put, h.2]; simp⟩
  rw [T.get_put, h.2 d]
  by_cases hn : n = d
  · subst hn
    by_cases hl : n < l.length
    · simp [hl]
    · simp only [hl, decide_false, h.1]
      simp [List.getD, hl]
  · simp only [hn, false_and, if_false, h.1]
    simp only [List.getD]
    rw [List.getElem?_set_ne (fun e => hn e.symm)]

theorem Rel.kills {l : List AV} : ∀ (ds : List Nat) {τ : T} {l : List AV}, Rel τ l → Rel (T.kills ds τ) (Am.kills ds l)
  | [], _, _, h => h
  | d :: ds, _, _, h => Rel.kills (l := l) ds (h.put d .any)

theorem getD_getElem {l : List AV} {i : Nat} (h : i < l.length) : l.getD i .any = l[i] := by simp [List.getD, h]

theorem Rel.puts : ∀ (xs : List AV) (pre suf : List AV) (τ : T), Rel τ (pre ++ List.replicate xs.length .any ++ suf) → Rel (T.puts xs pre.length τ) (pre ++ xs ++ suf)
  | [], pre, suf, τ, h => by simpa [T.puts] using h
  | x :: xs, pre, suf, τ, h => by
    have h2 := h.put pre.length x
    have e : (pre ++ List.replicate (x :: xs).length AV.any ++ suf).set pre.length x = (pre ++ [x]) ++ List.replicate xs.length AV.any ++ suf := by
      simp [List.replicate_succ]
    rw [e] at h2
    have := Rel.puts xs (pre ++ [x]) suf _ h2
    simpa [T.puts] using this

theorem Rel.full {n : Nat} (h : n < 2 ^ 10) : Rel (T.full 10 n .any) (List.replicate n .any) := by
  refine ⟨fun i => ?_, fun i => by rw [T.full_has 10 n _ h]; simp⟩
  by_cases hi : i < n
  · rw [T.full_get 10 n _ h i hi]; simp [List.getD, hi]
  · rw [T.get_nohas _ _ (by rw [T.full_has 10 n _ h]; simp; omega)]
    simp [List.getD, hi]

theorem bels_iffL (n : Nat) (l : List AV) : AV.bels n l = true ↔ ∀ i, (l.getD i .any).bel n = true := by
  induction l with
  | nil => simp [AV.bels, AV.bel]
  | cons x l ih =>
    simp only [AV.bels, Bool.and_eq_true, ih]
    constructor
    · rintro ⟨h1, h2⟩ i
      cases i with
      | zero => simpa [List.getD] using h1
      | succ i => simpa [List.getD] using h2 i
    · intro h
      exact ⟨by simpa [List.getD] using h 0, fun i => by simpa [List.getD] using h (i + 1)⟩

theorem Rel.bels {τ : T} {l : List AV} (h : Rel τ l) (n : Nat) : T.bels n τ = AV.bels n l := by
  have : (T.bels n τ = true) ↔ (AV.bels n l = true) := by
    rw [T.bels_iff, bels_iffL]
    simp only [h.1]
  cases h1 : T.bels n τ <;> cases h2 : AV.bels n l <;> simp [h1, h2] at this ⊢

/- operations, over a reading of operands -/
def evalPe (ev : RX → AV) : RO → Option AV
  | .mov x => some (ev x)
  | .pick c a b => (match ev c with | .bool true => some (ev a) | .bool false => some (ev b) | _ => none)
  | .build z parts => (match fillA z (parts.map fun (o, n, x) => (o, n, ev x)) with | some cs => some (.agg cs) | none => none)
  | .bin op x y => bin op (ev x) (ev y)
  | .un op x => un op (ev x)
  | .eqA neg ks x y => eqA neg ks (ev x) (ev y)
  | .eqB neg x y => eqB neg (ev x) (ev y)
  | .eqP neg x y => eqP neg (ev x) (ev y)
  | .nchk x => nchk (ev x)
  | .conv k x => (match ev x with | .int _ n => some (.int k (k.wrap n)) | _ => none)
  | .fld off n ag x => (match ev x with | .agg cs => part n ag cs off | _ => none)
  | .fad off x => fad off (ev x)
  | .iadA len sz x i => iadA len sz (ev x) (ev i)
  | .idxA len n ag x i => idxA len n ag (ev x) (ev i)
  | .idxS x i => idxS (ev x) (ev i)
  | .slcS x lo hi => slcS (ev x) (lo.map ev) (hi.map ev)
  | .mkf f cap => some (.fn f (cap.map ev))
  | .len st x => (match lenOp st (ev x) with | some n => some (.int .i64 n) | none => none)
  | .mn l => (match l.map ev with | x :: r => foldO min2 x r | [] => none)
  | .mx l => (match l.map ev with | x :: r => foldO max2 x r | [] => none)
  | .ext x i => (match ev x with | .tup vs => vs[i]? | _ => none)
  | _ => none

def evalRe (ev : RX → AV) (H : List Obj) : RO → Option AV
  | .load n ag a => loadAt H n ag (ev a)
  | .iadS sz x i => iadS H sz (ev x) (ev i)
  | .slc sz x lo hi => slc H sz (ev x) (lo.map ev) (hi.map ev)
  | .eqN neg x y => eqN H neg (ev x) (ev y)
  | .slcA len sz x lo hi => slcA H len sz (ev x) (lo.map ev) (hi.map ev)
  | _ => none

def evalWe (ev : RX → AV) (H : List Obj) (pl : Nat) : RO → Option (AV × List Obj)
  | .box x => if allOne (ev x).cells = true then some (.pown pl 1 0 0, putObj H pl (.live .norm (ev x).cells.length [(ev x).cells])) else none
  | .alloc z => if allOne z = true then some (.pown pl 1 0 0, putObj H pl (.live .norm z.length [z])) else none
  | .bsl sz z len parts =>
    if z.length = sz ∧ allOne z = true ∧ len * sz ≤ 2 ^ 24 then
      (match fillS sz (List.replicate len z) (parts.map fun (i, x) => (i, ev x)) with
       | some es => some (.own pl len 0 len, putObj H pl (.live .norm sz es))
       | none => none)
    else none
  | .store n a x => (match storeAt H n (ev a) (ev x) with | some H' => some (.tup [], H') | none => none)
  | .mks sz z bytes l c =>
    (match ev l, ev c with
     | .int .i64 n, .int .i64 m => if n = m ∧ 0 ≤ n ∧ n * bytes ≤ 2 ^ 40 ∧ n ≤ 2 ^ 40 ∧ z.length = sz ∧ allOne z = true then
         some (.own pl n.toNat 0 n.toNat, putObj H pl (.live .norm sz (List.replicate n.toNat z))) else none
     | _, _ => none)
  | .app sz bytes s x => append H pl sz bytes (ev s) (ev x)
  | _ => none

def fpOfe (ev : RX → AV) (pl : Nat) : RO → FP
  | .load _ _ a => { r := refs (ev a) }
  | .iadS _ x _ => { r := refs (ev x) }
  | .slc _ x _ _ => { r := refs (ev x) }
  | .slcA _ _ x _ _ => { r := refs (ev x) }
  | .eqN _ x y => { r := refs (ev x) ++ refs (ev y) }
  | .box _ => { w := [pl] }
  | .alloc _ => { w := [pl] }
  | .bsl .. => { w := [pl] }
  | .mks .. => { w := [pl] }
  | .store _ a _ => { w := refs (ev a) }
  | .app _ _ s x => { r := refs (ev x), w := pl :: refs (ev s) }
  | .call _ args => { all := !(AV.bels 0 (args.map ev)) }
  | .callv f args => { all := !((ev f).bel 0 && AV.bels 0 (args.map ev)) }
  | _ => {}

def evalOpe (ev : RX → AV) (hp : Nat → Bool) (cI : CI) (cH : CH) (pl : Nat) (x : RO) (H : List Obj) : Option (AV × List Obj) :=
  match x.kind with
  | .pure => (match evalPe ev x with | some v => some (v, H) | none => none)
  | .read => (match evalRe ev H x with | some v => some (v, H) | none => none)
  | .write => evalWe ev H pl x
  | .call =>
    match x with
    | .call f args => doCall hp cI cH f (args.map ev) H
    | .callv fx args => (match ev fx with | .fn f cap => doCall hp cI cH f (args.map ev ++ cap) H | _ => none)
    | _ => none

theorem evalP_e (G : Nat → List AV) (t : List AV) (x : RO) : evalP G t x = evalPe (RX.ev G t) x := by cases x <;> rfl
theorem evalR_e (G : Nat → List AV) (t : List AV) (H : List Obj) (x : RO) : evalR G t H x = evalRe (RX.ev G t) H x := by cases x <;> rfl
theorem evalW_e (G : Nat → List AV) (t : List AV) (H : List Obj) (pl : Nat) (x : RO) : evalW G t H pl x = evalWe (RX.ev G t) H pl x := by cases x <;> rfl
theorem fpOf_e (G : Nat → List AV) (t : List AV) (pl : Nat) (x : RO) : fpOf G t pl x = fpOfe (RX.ev G t) pl x := by cases x <;> rfl
theorem evalOp_e (G : Nat → List AV) (hp : Nat → Bool) (cI : CI) (cH : CH) (pl : Nat) (x : RO) (t : List AV) (H : List Obj) : evalOp G hp cI cH pl x t H = evalOpe (RX.ev G t) hp cI cH pl x H := by
  unfold evalOp evalOpe
  rw [evalP_e, evalR_e, evalW_e]
  cases x.kind with
  | call => dsimp only; cases x <;> rfl
  | _ => rfl

def evT (G : Nat → List AV) (τ : T) : RX → AV
  | .t n => τ.get n
  | .c v => v
  | .g g => .pro (G g)

theorem Rel.ev {τ : T} {l : List AV} (h : Rel τ l) (G : Nat → List AV) : evT G τ = RX.ev G l := by
  funext r
  cases r with
  | t n => exact h.1 n
  | _ => rfl

/-- a number, computed now -/
def frcI {α : Type} (n : Int) (k : Int → α) : α :=
  match n with
  | .ofNat 0 => k 0
  | .ofNat (m + 1) => k (.ofNat (m + 1))
  | .negSucc 0 => k (.negSucc 0)
  | .negSucc (m + 1) => k (.negSucc (m + 1))
theorem frcI_eq {α : Type} (n : Int) (k : Int → α) : frcI n k = k n := by
  unfold frcI; split <;> rfl
def frc {α : Type} (v : AV) (k : AV → α) : α :=
  match v with
  | .int kd n => frcI n fun m => k (.int kd m)
  | .bool true => k (.bool true)
  | .bool false => k (.bool false)
  | v => k v
theorem frc_eq {α : Type} (v : AV) (k : AV → α) : frc v k = k v := by
  unfold frc; split <;> simp [frcI_eq]

def putD (t : T) (d : Option Nat) (v : AV) : T := match d with | some d => t.put d v | none => t

def wantT (t : T) : Option (Nat × Bool) → Option Bool
  | none => some true
  | some (s, b) => match t.get s with
    | .bool c => some (c == b)
    | .tup [] => some false
    | _ => none

theorem Rel.want {τ : T} {l : List AV} (h : Rel τ l) (g : Option (Nat × Bool)) : wantT τ g = want l g := by
  cases g with
  | none => rfl
  | some g => obtain ⟨s, b⟩ := g; simp only [wantT, Am.want, h.1]; rfl

theorem Rel.putD {τ : T} {l : List AV} (h : Rel τ l) (d : Option Nat) (v : AV) : Rel (putD τ d v) (setD l d v) := by
  cases d with
  | none => exact h
  | some d => exact h.put d v

def runOpsT (G : Nat → List AV) (hp : Nat → Bool) (cI : CI) (cH : CH) : List ROp → T → List Obj → Option (T × List Obj)
  | [], t, H => some (t, H)
  | o :: os, t, H =>
    match wantT t o.guard with
    | some true => (match evalOpe (evT G t) hp cI cH H.length o.op H with
      | some (v, H') => frc v fun v => runOpsT G hp cI cH os (putD t o.dst v) H'
      | none => none)
    | some false => runOpsT G hp cI cH os (putD t o.dst (.tup [])) H
    | none => none

def CI.le (a b : CI) : Prop := ∀ f xs r, a f xs = some r → b f xs = some r
def CH.le (a b : CH) : Prop := ∀ f xs H r, a f xs H = some r → b f xs H = some r

theorem doCall_le {hp : Nat → Bool} {a b : CI} {c d : CH} (h1 : a.le b) (h2 : c.le d) {f : Nat} {args : List AV} {H : List Obj} {r} (h : doCall hp a c f args H = some r) : doCall hp b d f args H = some r := by
  unfold doCall at h ⊢
  split at h
  · rename_i hh; rw [if_pos hh]; exact h2 _ _ _ _ h
  · rename_i hh
    rw [if_neg hh]
    split at h
    · rename_i ys hys
      split at h
      · rename_i v hv
        rw [h1 _ _ _ hv]; exact h
      · simp at h
    · exact h2 _ _ _ _ h

theorem evalOpe_le {ev : RX → AV} {hp : Nat → Bool} {a b : CI} {c d : CH} (h1 : a.le b) (h2 : c.le d) {pl : Nat} {x : RO} {H : List Obj} {r} (h : evalOpe ev hp a c pl x H = some r) : evalOpe ev hp b d pl x H = some r := by
  unfold evalOpe at h ⊢
  cases hk : x.kind with
  | call =>
    rw [hk] at h; dsimp only at h ⊢
    split at h
    · exact doCall_le h1 h2 h
    · split at h
      · exact doCall_le h1 h2 h
      · simp at h
    · simp at h
  | _ => rw [hk] at h; exact h

theorem runOpsT_sound (G : Nat → List AV) (hp : Nat → Bool) {cI cI' : CI} {cH cH' : CH} (h1 : cI'.le cI) (h2 : cH'.le cH) : ∀ (os : List ROp) {τ τ' : T} {l : List AV} {H H' : List Obj}, Rel τ l →
    runOpsT G hp cI' cH' os τ H = some (τ', H') → ∃ l', runOps G hp cI cH os l H = some (l', H') ∧ Rel τ' l'
  | [], τ, τ', l, H, H', hr, h => by
    simp only [runOpsT, Option.some.injEq, Prod.mk.injEq] at h
    obtain ⟨rfl, rfl⟩ := h
    exact ⟨l, rfl, hr⟩
  | o :: os, τ, τ', l, H, H', hr, h => by
    rw [runOpsT, hr.want, hr.ev] at h
    rw [runOps]
    split at h
    · rename_i hw
      rw [hw]
      split at h
      case h_2 => simp at h
      rename_i v H1 he
      rw [frc_eq] at h
      rw [evalOp_e, evalOpe_le h1 h2 he]
      exact runOpsT_sound G hp h1 h2 os (hr.putD o.dst v) h
    · rename_i hw
      rw [hw]
      exact runOpsT_sound G hp h1 h2 os (hr.putD o.dst _) h
    · simp at h

def actDT (G : Nat → List AV) (cI : CI) (pl : Nat) (o : ROp) (t : T) (H : List Obj) : Option (AV × List Obj × FP) :=
  match wantT t o.guard with
  | some true => if plOk H pl o.op = true then
      (match evalOpe (evT G t) (fun _ => false) cI (fun _ _ _ => none) pl o.op H with
       | some (v, H') => some (v, H', fpOfe (evT G t) pl o.op)
       | none => none) else none
  | some false => some (.tup [], H, {})
  | none => none

def runDT (G : Nat → List AV) (cI : CI) (b : Nat) : List (Nat × ROp) → T → List Obj → Option (T × List Obj × List FP)
  | [], t, H => some (t, H, [])
  | (k, o) :: os, t, H =>
    match actDT G cI (b + k) o t H with
    | some (v, H', f) => frc v fun v => (match runDT G cI b os (putD t o.dst v) H' with
      | some (t', H'', fs) => some (t', H'', f :: fs)
      | none => none)
    | none => none

theorem runDT_sound (G : Nat → List AV) {cI cI' : CI} (h1 : cI'.le cI) {b : Nat} : ∀ (os : List (Nat × ROp)) {τ τ' : T} {l : List AV} {H H' : List Obj} {fs : List FP}, Rel τ l →
    runDT G cI' b os τ H = some (τ', H', fs) → ∃ l', runD G cI b os l H = some (l', H', fs) ∧ Rel τ' l'
  | [], τ, τ', l, H, H', fs, hr, h => by
    simp only [runDT, Option.some.injEq, Prod.mk.injEq] at h
    obtain ⟨rfl, rfl, rfl⟩ := h
    exact ⟨l, rfl, hr⟩
  | (k, o) :: os, τ, τ', l, H, H', fs, hr, h => by
    rw [runDT] at h
    rw [runD]
    split at h
    case h_2 => simp at h
    rename_i v H1 f ha
    rw [frc_eq] at h
    split at h
    case h_2 => simp at h
    rename_i t1 H2 fs1 hrun
    simp only [Option.some.injEq, Prod.mk.injEq] at h
    obtain ⟨rfl, rfl, rfl⟩ := h
    have ha' : actD G cI (b + k) o l H = some (v, H1, f) := by
      unfold actDT at ha
      rw [hr.want, hr.ev] at ha
      unfold actD
      split at ha
      · rename_i hw
        rw [hw]
        split at ha
        case isFalse => simp at ha
        rename_i hp
        split at ha
        case h_2 => simp at ha
        rename_i u H3 he
        dsimp only
        rw [if_pos hp, evalOp_e, evalOpe_le (b := cI) (d := fun _ _ _ => none) h1 (fun _ _ _ _ h => h) he, fpOf_e]
        exact ha
      · rename_i hw; rw [hw]; exact ha
      · simp at ha
    obtain ⟨l', e1, e2⟩ := runDT_sound G h1 os (hr.putD o.dst v) hrun
    exact ⟨l', by rw [ha']; dsimp only; rw [e1], e2⟩

structure ST where
  tmps : T
  H : List Obj

def frzT (t : Nat) (s : ST) : Option ST :=
  match s.tmps.get t with
  | .own id ext off len =>
    (match getLive s.H id with
     | some (_, es) => if ext = es.length ∧ AV.belss 0 ((es.drop off).take len) = true ∧ (nlAt s.H id).free = true then
         some ⟨s.tmps.put t (roOf (nlAt s.H id) es ((es.drop off).take len)), s.H.set id .dead⟩ else none
     | none => none)
  | _ => some s

def wksT : List Nat → ST → ST
  | [], s => s
  | t :: ts, s => wksT ts ⟨s.tmps.put t (s.tmps.get t).wk, wkH s.H (s.tmps.get t)⟩

def ghost1T (base : Nat) (s : ST) : GA → Option ST
  | .sh t => (match s.tmps.get t with
    | .own id _ _ _ => (match getLive s.H id with | some (_, _ :: _) => some ⟨s.tmps, mark Fl.sh s.H id⟩ | _ => some s)
    | _ => some s)
  | .res t => (match s.tmps.get t with
    | .own id _ _ _ => if noKid (s.H.drop (id + 1)) = true then some ⟨s.tmps, mark Fl.res s.H id⟩ else some s
    | _ => some s)
  | .wk l => some (wksT l s)
  | .kill l => some ⟨T.kills l s.tmps, s.H⟩
  | .trunc n => if Nat.blt (base + n) s.H.length && (T.bels (base + n) s.tmps && objsBel (base + n) (s.H.take (base + n))) then some ⟨s.tmps, s.H.take (base + n)⟩ else some s
  | .frz t => frzT t s
  | .prom t sz => (match s.tmps.get t with
    | .nils => some ⟨s.tmps.put t (.own s.H.length 0 0 0), s.H ++ [.live .nil sz []]⟩
    | _ => none)
  | .promf t off sz => (match s.tmps.get t with
    | .pown id ext e o => (match loadAt s.H 1 false (.pown id ext e (o + off)) with
      | some .nils => (match storeAt (s.H ++ [.live .nil sz []]) 1 (.pown id ext e (o + off)) (.own s.H.length 0 0 0) with
        | some H' => some ⟨s.tmps, H'⟩
        | none => none)
      | _ => none)
    | _ => none)

def ghostsT (base : Nat) : List GA → ST → Option ST
  | [], s => some s
  | g :: gs, s => match ghost1T base s g with | some s' => ghostsT base gs s' | none => none

def SRel (σ : ST) (s : St) : Prop := Rel σ.tmps s.tmps ∧ σ.H = s.H

theorem wksT_rel : ∀ (ts : List Nat) {σ : ST} {s : St}, SRel σ s → SRel (wksT ts σ) (wks ts s)
  | [], _, _, h => h
  | t :: ts, σ, s, h => by
    simp only [wksT, wks]
    refine wksT_rel ts ⟨?_, ?_⟩
    · simp only [h.1.1]; exact h.1.put _ _
    · simp only [h.1.1, h.2]

theorem ghost1T_sound {base : Nat} {σ σ' : ST} {s : St} (hr : SRel σ s) {g : GA} (h : ghost1T base σ g = some σ') : ∃ s', ghost1 base s g = some s' ∧ SRel σ' s' := by
  by_cases hwk : ∃ l, g = .wk l
  · obtain ⟨l, rfl⟩ := hwk
    simp only [ghost1T, Option.some.injEq] at h
    subst h
    exact ⟨_, rfl, wksT_rel l hr⟩
  obtain ⟨t, H⟩ := σ
  obtain ⟨l, H2⟩ := s
  obtain ⟨hr, hH⟩ := hr
  simp only at hr hH
  subst hH
  cases g with
  | sh i =>
    simp only [ghost1T, hr.1] at h
    simp only [ghost1]
    split at h
    · rename_i hs
      simp only [hs]
      split at h
      · rename_i hl; simp only [hl]; injection h with h; subst h; exact ⟨_, rfl, hr, rfl⟩
      · rename_i hne
        injection h with h; subst h
        refine ⟨⟨l, H⟩, ?_, hr, rfl⟩
        split
        · rename_i a b c hl; exact (hne a b c hl).elim
        · rfl
    · rename_i hne
      injection h with h; subst h
      refine ⟨⟨l, H⟩, ?_, hr, rfl⟩
      split
      · rename_i id ext off len hs; exact (hne id ext off len hs).elim
      · rfl
  | res i =>
    simp only [ghost1T, hr.1] at h
    simp only [ghost1]
    split at h
    · rename_i hs
      simp only [hs]
      split at h
      · rename_i hl; rw [if_pos hl]; injection h with h; subst h; exact ⟨_, rfl, hr, rfl⟩
      · rename_i hl; rw [if_neg hl]; injection h with h; subst h; exact ⟨_, rfl, hr, rfl⟩
    · rename_i hne
      injection h with h; subst h
      refine ⟨⟨l, H⟩, ?_, hr, rfl⟩
      split
      · rename_i id ext off len hs; exact (hne id ext off len hs).elim
      · rfl
  | wk l => exact (hwk ⟨l, rfl⟩).elim
  | kill ds =>
    simp only [ghost1T, Option.some.injEq] at h
    subst h
    exact ⟨_, rfl, Rel.kills (l := l) ds hr, rfl⟩
  | trunc n =>
    simp only [ghost1T, hr.bels] at h
    simp only [ghost1]
    split at h
    · rename_i hc; rw [if_pos hc]; injection h with h; subst h; exact ⟨_, rfl, hr, rfl⟩
    · rename_i hc; rw [if_neg hc]; injection h with h; subst h; exact ⟨_, rfl, hr, rfl⟩
  | frz i =>
    simp only [ghost1T, frzT, hr.1] at h
    simp only [ghost1, frz1]
    split at h
    · rename_i hs
      simp only [hs]
      split at h
      case h_2 => simp at h
      rename_i hl
      rw [hl]; dsimp only
      split at h
      case isFalse => simp at h
      rename_i hc
      rw [if_pos hc]
      injection h with h; subst h
      exact ⟨_, rfl, hr.put _ _, rfl⟩
    · rename_i hne
      injection h with h; subst h
      refine ⟨⟨l, H⟩, ?_, hr, rfl⟩
      split
      · rename_i id ext off len hs; exact (hne id ext off len hs).elim
      · rfl
  | prom i sz =>
    simp only [ghost1T, hr.1] at h
    simp only [ghost1]
    split at h
    case h_2 => simp at h
    rename_i hs
    simp only [hs]
    injection h with h; subst h
    exact ⟨_, rfl, hr.put _ _, rfl⟩
  | promf i off sz =>
    simp only [ghost1T, hr.1] at h
    simp only [ghost1]
    split at h
    case h_2 => simp at h
    rename_i id ext e o hs
    simp only [hs]
    split at h
    case h_2 => simp at h
    rename_i hl
    simp only [hl]
    split at h
    case h_2 => simp at h
    rename_i H' hst
    simp only [hst]
    injection h with h; subst h
    exact ⟨_, rfl, hr, rfl⟩

theorem ghostsT_sound {base : Nat} : ∀ (gs : List GA) {σ σ' : ST} {s : St}, SRel σ s → ghostsT base gs σ = some σ' → ∃ s', ghosts base gs s = some s' ∧ SRel σ' s'
  | [], σ, σ', s, hr, h => by simp only [ghostsT, Option.some.injEq] at h; subst h; exact ⟨s, rfl, hr⟩
  | g :: gs, σ, σ', s, hr, h => by
    rw [ghostsT] at h
    split at h
    case h_2 => simp at h
    rename_i σ1 h1
    obtain ⟨s1, e1, e2⟩ := ghost1T_sound hr h1
    obtain ⟨s2, e3, e4⟩ := ghostsT_sound gs e2 h
    exact ⟨s2, by rw [ghosts, e1]; exact e3, e4⟩

def resultsT (rs : List (Sum Nat (Nat × Nat × Bool))) (s : ST) : Option (List AV) :=
  match rs with
  | [] => some []
  | .inl t :: r => (match resultsT r s with | some l => some (s.tmps.get t :: l) | none => none)
  | .inr (t, n, ag) :: r => (match loadAt s.H n ag (s.tmps.get t), resultsT r s with | some v, some l => some (v :: l) | _, _ => none)

theorem resultsT_eq {σ : ST} {s : St} (hr : SRel σ s) : ∀ rs, resultsT rs σ = resultsOf rs s
  | [] => rfl
  | .inl t :: r => by simp only [resultsT, resultsOf, resultsT_eq hr r, hr.1.1]; rfl
  | .inr (t, n, ag) :: r => by simp only [resultsT, resultsOf, resultsT_eq hr r, hr.1.1, hr.2]; rfl

abbrev EXT := RC → Nat → ST → Option (Ex × ST)

def startT (rf : RF) (args : List AV) : T := T.puts args 0 (T.full 10 rf.ntmps .any)

def cIT (fns : Nat → Option RF) (ex : EXT) : CI := fun f args => match fns f with
  | some rf => if args.length = rf.nargs ∧ rf.nargs ≤ rf.ntmps ∧ rf.ntmps < 1024 then
      (match ex rf.body 0 ⟨startT rf args, []⟩ with
       | some (.exit _, _) => none
       | some (_, s') => (match resultsT rf.results s' with | some l => pack s'.H (oneOf l) | none => none)
       | none => none)
      else none
  | none => none

def cHT (fns : Nat → Option RF) (ex : EXT) : CH := fun f args H => match fns f with
  | some rf => if args.length = rf.nargs ∧ rf.nargs ≤ rf.ntmps ∧ rf.ntmps < 1024 then
      (match ex rf.body H.length ⟨startT rf args, H⟩ with
       | some (.exit _, _) => none
       | some (_, s') => (match resultsT rf.results s' with | some l => some (oneOf l, s'.H) | none => none)
       | none => none)
      else none
  | none => none

def putPT : List Nat → List AV → T → T
  | p :: ps, x :: xs, t => putPT ps xs (t.put p x)
  | _, _, t => t

theorem putPT_rel : ∀ (ps : List Nat) (xs : List AV) {τ : T} {l : List AV}, Rel τ l → Rel (putPT ps xs τ) (putP ps xs l)
  | p :: ps, x :: xs, _, _, h => by rw [putPT, putP]; exact putPT_rel ps xs (h.put p x)
  | [], _, _, _, h => by rw [putPT, putP] <;> simp_all
  | _ :: _, [], _, _, h => by rw [putPT, putP] <;> simp_all

def rndsT (ex : EXT) (base : Nat) (t : T) (ps : List Nat) (asg body : RC) : List (List AV) → List Obj → Option (Ex × List Obj)
  | [], H => some (.normal, H)
  | xs :: r, H =>
    if xs.length = ps.length then
      (match ex asg base ⟨putPT ps xs t, H⟩ with
       | some (.normal, s1) => (match ex body base s1 with
         | some (.normal, s2) => rndsT ex base t ps asg body r s2.H
         | some (e, s2) => some (e, s2.H)
         | none => none)
       | _ => none)
    else none

def execT (E : Env) (hp : Nat → Bool) : Nat → EXT
  | 0, _, _, _ => none
  | n + 1, c, base, s =>
    match c with
    | .bad => none
    | .skip => some (.normal, s)
    | .ret => some (.ret, s)
    | .exit id => some (.exit id, s)
    | .seq a b => (match execT E hp n a base s with
      | some (.normal, s') => execT E hp n b base s'
      | r => r)
    | .cond x a b => (match evT E.glob s.tmps x with
      | .bool true => execT E hp n a base s
      | .bool false => execT E hp n b base s
      | _ => none)
    | .block id b => (match execT E hp n b base s with
      | some (.exit i, s') => if i = id then some (.normal, s') else some (.exit i, s')
      | r => r)
    | .loop b => (match execT E hp n b base s with
      | some (.normal, s') => execT E hp n (.loop b) base s'
      | r => r)
    | .reg ops => (match runOpsT E.glob hp (cIT E.fns (execT E hp n)) (cHT E.fns (execT E hp n)) ops s.tmps s.H with
      | some (t, H) => some (.normal, ⟨t, H⟩)
      | none => none)
    | .draw ops => (match runOpsT E.glob (fun _ => false) (cIT E.fns (execT E hp n)) (fun _ _ _ => none) ops s.tmps s.H with
      | some (t, H) => some (.normal, ⟨t, H⟩)
      | none => none)
    | .drawW ops k ps => (match runDT E.glob (cIT E.fns (execT E hp n)) s.H.length ops s.tmps (s.H ++ List.replicate k .rsv) with
      | some (t, H, fs) => if pairsDisj fs ps = true then some (.normal, ⟨t, H⟩) else none
      | none => none)
    | .gh pre r post => (match ghostsT base pre s with
      | some s0 => (match execT E hp n r base s0 with
        | some (.normal, s') => (match ghostsT base post s' with | some s'' => some (.normal, s'') | none => none)
        | r => r)
      | none => none)
    | .rfn g ps asg body => (match evT E.glob s.tmps g with
      | .fn f cap => if AV.bels 0 cap = true then
          (match E.gen f cap with
           | some ys => if flatss ys = true then
               (match rndsT (execT E hp n) s.H.length s.tmps ps asg body ys s.H with
                | some (e, H) => some (e, ⟨s.tmps, H⟩)
                | none => none) else none
           | none => none) else none
      | _ => none)

theorem start_rel {rf : RF} {args : List AV} (h1 : args.length = rf.nargs) (h2 : rf.nargs ≤ rf.ntmps) (h3 : rf.ntmps < 1024) : Rel (startT rf args) (start rf args) := by
  have := Rel.puts args [] (List.replicate (rf.ntmps - args.length) .any) (T.full 10 rf.ntmps .any) (by
    have e : ([] : List AV) ++ List.replicate args.length .any ++ List.replicate (rf.ntmps - args.length) .any = List.replicate rf.ntmps .any := by
      rw [List.nil_append, List.replicate_append_replicate]; congr 1; omega
    rw [e]
    exact Rel.full (by omega))
  simpa [startT, start] using this

def SimE (ex : EX) (ext : EXT) : Prop := ∀ c base σ s e σ', SRel σ s → ext c base σ = some (e, σ') → ∃ s', ex c base s = some (e, s') ∧ SRel σ' s'

theorem cIT_le (fns : Nat → Option RF) {ex : EX} {ext : EXT} (h : SimE ex ext) : (cIT fns ext).le (cIF fns ex) := by
  intro f xs r hr
  unfold cIT at hr
  unfold cIF
  split at hr
  case h_2 => simp at hr
  rename_i rf hrf
  rw [hrf]; dsimp only
  split at hr
  case isFalse => simp at hr
  rename_i hc
  rw [if_pos hc.1]
  split at hr
  · simp at hr
  · rename_i e s' hne he
    obtain ⟨s2, e1, e2⟩ := h _ _ _ ⟨start rf xs, []⟩ _ _ ⟨start_rel hc.1 hc.2.1 hc.2.2, rfl⟩ he
    rw [e1]
    cases e with
    | exit i => exact (hne i rfl).elim
    | normal => dsimp only; rw [← resultsT_eq e2, ← e2.2]; exact hr
    | ret => dsimp only; rw [← resultsT_eq e2, ← e2.2]; exact hr
  · simp at hr

theorem cHT_le (fns : Nat → Option RF) {ex : EX} {ext : EXT} (h : SimE ex ext) : (cHT fns ext).le (cHF fns ex) := by
  intro f xs H r hr
  unfold cHT at hr
  unfold cHF
  split at hr
  case h_2 => simp at hr
  rename_i rf hrf
  rw [hrf]; dsimp only
  split at hr
  case isFalse => simp at hr
  rename_i hc
  rw [if_pos hc.1]
  split at hr
  · simp at hr
  · rename_i e s' hne he
    obtain ⟨s2, e1, e2⟩ := h _ _ _ ⟨start rf xs, H⟩ _ _ ⟨start_rel hc.1 hc.2.1 hc.2.2, rfl⟩ he
    rw [e1]
    cases e with
    | exit i => exact (hne i rfl).elim
    | normal => dsimp only; rw [← resultsT_eq e2, ← e2.2]; exact hr
    | ret => dsimp only; rw [← resultsT_eq e2, ← e2.2]; exact hr
  · simp at hr

theorem rndsT_sound {ex : EX} {ext : EXT} (h : SimE ex ext) {base : Nat} {τ : T} {l : List AV} (hr : Rel τ l) {ps : List Nat} {asg body : RC} :
    ∀ (ys : List (List AV)) {H : List Obj} {r : Ex × List Obj}, rndsT ext base τ ps asg body ys H = some r → rnds ex base l ps asg body ys H = some r
  | [], H, r, e => e
  | xs :: ys, H, r, e => by
    rw [rndsT] at e
    rw [rnds]
    split at e
    case isFalse => simp at e
    rename_i hl
    rw [if_pos hl]
    split at e
    case h_2 => simp at e
    rename_i σ1 h1
    obtain ⟨s1, e1, e2⟩ := h asg base ⟨putPT ps xs τ, H⟩ ⟨putP ps xs l, H⟩ _ _ ⟨putPT_rel ps xs hr, rfl⟩ h1
    rw [e1]; dsimp only
    split at e
    · rename_i σ2 h2
      obtain ⟨s2, e3, e4⟩ := h _ _ _ _ _ _ e2 h2
      rw [e3]; dsimp only
      rw [← e4.2]
      exact rndsT_sound h hr ys e
    · rename_i e' σ2 hne h2
      obtain ⟨s2, e3, e4⟩ := h _ _ _ _ _ _ e2 h2
      rw [e3]
      cases e' with
      | normal => exact (hne rfl).elim
      | exit i => dsimp only; rw [← e4.2]; exact e
      | ret => dsimp only; rw [← e4.2]; exact e
    · simp at e

theorem execT_sound (E : Env) (hp : Nat → Bool) : ∀ n, SimE (exec E hp n) (execT E hp n)
  | 0 => by intro c base σ s e σ' _ h; simp [execT] at h
  | n + 1 => by
    have ih := execT_sound E hp n
    intro c base σ s e σ' hr h
    cases c with
    | bad => simp [execT] at h
    | skip => simp only [execT, Option.some.injEq, Prod.mk.injEq] at h; obtain ⟨rfl, rfl⟩ := h; exact ⟨s, rfl, hr⟩
    | ret => simp only [execT, Option.some.injEq, Prod.mk.injEq] at h; obtain ⟨rfl, rfl⟩ := h; exact ⟨s, rfl, hr⟩
    | exit i => simp only [execT, Option.some.injEq, Prod.mk.injEq] at h; obtain ⟨rfl, rfl⟩ := h; exact ⟨s, rfl, hr⟩
    | seq a b =>
      simp only [execT] at h
      simp only [exec]
      split at h
      · rename_i σ1 h1
        obtain ⟨s1, e1, e2⟩ := ih _ _ _ _ _ _ hr h1
        rw [e1]
        exact ih _ _ _ _ _ _ e2 h
      · rename_i hne
        obtain ⟨s1, e1, e2⟩ := ih _ _ _ _ _ _ hr h
        rw [e1]
        cases e with
        | normal => exact (hne _ h).elim
        | _ => exact ⟨s1, rfl, e2⟩
    | cond x a b =>
      simp only [execT, hr.1.ev] at h
      simp only [exec]
      split at h
      · rename_i hx; rw [hx]; exact ih _ _ _ _ _ _ hr h
      · rename_i hx; rw [hx]; exact ih _ _ _ _ _ _ hr h
      · simp at h
    | block i b =>
      simp only [execT] at h
      simp only [exec]
      split at h
      · rename_i j σ1 h1
        obtain ⟨s1, e1, e2⟩ := ih _ _ _ _ _ _ hr h1
        rw [e1]; dsimp only
        split at h
        · rename_i hj; rw [if_pos hj]; simp only [Option.some.injEq, Prod.mk.injEq] at h; obtain ⟨rfl, rfl⟩ := h; exact ⟨s1, rfl, e2⟩
        · rename_i hj; rw [if_neg hj]; simp only [Option.some.injEq, Prod.mk.injEq] at h; obtain ⟨rfl, rfl⟩ := h; exact ⟨s1, rfl, e2⟩
      · rename_i hne
        obtain ⟨s1, e1, e2⟩ := ih _ _ _ _ _ _ hr h
        rw [e1]
        cases e with
        | exit j => exact (hne _ _ h).elim
        | _ => exact ⟨s1, rfl, e2⟩
    | loop b =>
      simp only [execT] at h
      simp only [exec]
      split at h
      · rename_i σ1 h1
        obtain ⟨s1, e1, e2⟩ := ih _ _ _ _ _ _ hr h1
        rw [e1]
        exact ih _ _ _ _ _ _ e2 h
      · rename_i hne
        obtain ⟨s1, e1, e2⟩ := ih _ _ _ _ _ _ hr h
        rw [e1]
        cases e with
        | normal => exact (hne _ h).elim
        | _ => exact ⟨s1, rfl, e2⟩
    | reg ops =>
      simp only [execT] at h
      simp only [exec]
      split at h
      case h_2 => simp at h
      rename_i t H h1
      simp only [Option.some.injEq, Prod.mk.injEq] at h
      obtain ⟨rfl, rfl⟩ := h
      rw [hr.2] at h1
      obtain ⟨l', e1, e2⟩ := runOpsT_sound E.glob hp (cIT_le E.fns ih) (cHT_le E.fns ih) ops hr.1 h1
      exact ⟨⟨l', H⟩, by rw [e1], e2, rfl⟩
    | draw ops =>
      simp only [execT] at h
      simp only [exec]
      split at h
      case h_2 => simp at h
      rename_i t H h1
      simp only [Option.some.injEq, Prod.mk.injEq] at h
      obtain ⟨rfl, rfl⟩ := h
      rw [hr.2] at h1
      obtain ⟨l', e1, e2⟩ := runOpsT_sound E.glob (fun _ => false) (cIT_le E.fns ih) (cH := fun _ _ _ => none) (fun _ _ _ _ h => h) ops hr.1 h1
      exact ⟨⟨l', H⟩, by rw [e1], e2, rfl⟩
    | drawW ops k ps =>
      simp only [execT] at h
      simp only [exec]
      split at h
      case h_2 => simp at h
      rename_i t H fs h1
      split at h
      case isFalse => simp at h
      rename_i hps
      simp only [Option.some.injEq, Prod.mk.injEq] at h
      obtain ⟨rfl, rfl⟩ := h
      rw [hr.2] at h1
      obtain ⟨l', e1, e2⟩ := runDT_sound E.glob (cIT_le E.fns ih) ops hr.1 h1
      exact ⟨⟨l', H⟩, by rw [e1]; dsimp only; rw [if_pos hps], e2, rfl⟩
    | gh pre r post =>
      simp only [execT] at h
      simp only [exec]
      split at h
      case h_2 => simp at h
      rename_i σ0 h0
      obtain ⟨s0, e1, e2⟩ := ghostsT_sound pre hr h0
      rw [e1]; dsimp only
      split at h
      · rename_i σ1 h1
        obtain ⟨s1, e3, e4⟩ := ih _ _ _ _ _ _ e2 h1
        rw [e3]; dsimp only
        split at h
        case h_2 => simp at h
        rename_i σ2 h2
        obtain ⟨s2, e5, e6⟩ := ghostsT_sound post e4 h2
        rw [e5]; dsimp only
        simp only [Option.some.injEq, Prod.mk.injEq] at h
        obtain ⟨rfl, rfl⟩ := h
        exact ⟨s2, rfl, e6⟩
      · rename_i hne
        obtain ⟨s1, e3, e4⟩ := ih _ _ _ _ _ _ e2 h
        rw [e3]
        cases e with
        | normal => exact (hne _ h).elim
        | _ => exact ⟨s1, rfl, e4⟩
    | rfn g ps asg body =>
      simp only [execT, hr.1.ev] at h
      simp only [exec]
      split at h
      case h_2 => simp at h
      rename_i f cap hx
      rw [hx]; dsimp only
      split at h
      case isFalse => simp at h
      rename_i hcap
      rw [if_pos hcap]
      split at h
      case h_2 => simp at h
      rename_i ys hys
      rw [hys]; dsimp only
      split at h
      case isFalse => simp at h
      rename_i hfl
      rw [if_pos hfl]
      split at h
      case h_2 => simp at h
      rename_i e' H' h1
      simp only [Option.some.injEq, Prod.mk.injEq] at h
      obtain ⟨rfl, rfl⟩ := h
      rw [hr.2] at h1
      rw [rndsT_sound ih hr.1 ys h1]
      exact ⟨_, rfl, hr.1, rfl⟩

/-- what the kernel computes of a call stands -/
theorem Pu.ofT {E : Env} {hp : Nat → Bool} {f : Nat} {xs : List AV} {r : AV} {n : Nat} (h : cIT E.fns (execT E hp n) f xs = some r) : Pu E hp f xs r :=
  ⟨n, cIT_le E.fns (execT_sound E hp n) _ _ _ h⟩

end Go.Am
