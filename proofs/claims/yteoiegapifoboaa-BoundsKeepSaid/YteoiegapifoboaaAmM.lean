/- Operations that read, joined: each such operation of the program does what its resolved form says. Conditions: the relation of the values and of the heap. -/
import Derived.Test.YteoiegapifoboaaAmL
namespace Go.Am
section
variable {P : Program} {c : Ctx}

theorem cells_one {x : AV} {xv : Value} (hx : V c x xv) (h : x.one = true) : xv.cells = #[xv] ∧ xv.oneCell' = true := by
  cases hx with
  | own _ _ _ _ _ how => obtain ⟨_, ⟨_, _, rfl⟩, _⟩ := how; exact ⟨rfl, rfl⟩
  | pown _ _ _ _ _ how => obtain ⟨_, _, rfl, _⟩ := how; exact ⟨rfl, rfl⟩
  | arr _ _ _ _ _ _ _ how => obtain ⟨_, _, ⟨_, rfl, _⟩, _⟩ := how; exact ⟨rfl, rfl⟩
  | any | agg | tup => simp [AV.one] at h
  | _ => exact ⟨rfl, rfl⟩

theorem allOne_get : ∀ {l : List AV}, allOne l = true → ∀ x ∈ l, x.one = true
  | [], _, x, hx => by simp at hx
  | y :: l, h, x, hx => by
    simp only [allOne, Bool.and_eq_true] at h
    rcases List.mem_cons.1 hx with rfl | hx
    · exact h.1
    · exact allOne_get h.2 x hx

/-- the cells of a value that may be stored -/
theorem cells_V {x : AV} {xv : Value} (hx : V c x xv) (h : allOne x.cells = true) : PV c x.cells xv.cells ∧ ∀ u ∈ xv.cells.toList, u.oneCell' = true := by
  by_cases hag : ∃ cs, x = .agg cs
  · obtain ⟨cs, rfl⟩ := hag
    cases hx with
    | agg _ vs hs hv =>
      refine ⟨⟨hs, hv⟩, fun u hu => ?_⟩
      simp only [Value.cells] at hu
      obtain ⟨i, hi, rfl⟩ := List.getElem_of_mem hu
      have hi' : i < cs.length := by simp at hi; omega
      exact (cells_one (hv i hi' (by simpa using hi)) (allOne_get h _ (List.getElem_mem hi'))).2
  · have hc : x.cells = [x] := by
      cases x <;> first | rfl | (exfalso; exact hag ⟨_, rfl⟩)
    rw [hc] at h ⊢
    have h1 : x.one = true := by simpa [allOne] using h
    obtain ⟨e, o⟩ := cells_one hx h1
    rw [e]
    refine ⟨⟨rfl, fun i hi hj => ?_⟩, ?_⟩
    · have : i = 0 := by simp at hi; omega
      subst this; exact hx
    · simp [o]

theorem putAt_length : ∀ (xs cs : List AV) (o : Nat), (putAt cs o xs).length = cs.length
  | [], _, _ => rfl
  | x :: xs, cs, o => by simp [putAt, putAt_length xs]

theorem putAt_get : ∀ (xs cs : List AV) (o i : Nat) (hi : i < (putAt cs o xs).length), o + xs.length ≤ cs.length →
    (putAt cs o xs)[i] = if h : o ≤ i ∧ i < o + xs.length then xs[i - o]'(by omega) else cs[i]'(by rw [putAt_length] at hi; exact hi)
  | [], cs, o, i, hi, _ => by
    rw [dif_neg (by simp)]
    simp [putAt]
  | x :: xs, cs, o, i, hi, h => by
    simp only [putAt]
    rw [putAt_get xs (cs.set o x) (o + 1) i (by simpa [putAt] using hi) (by simp at h ⊢; omega)]
    by_cases h1 : o + 1 ≤ i ∧ i < o + 1 + xs.length
    · rw [dif_pos h1, dif_pos (by simp; omega)]
      have : i - o = (i - (o + 1)) + 1 := by omega
      simp [this]
    · rw [dif_neg h1]
      by_cases h2 : i = o
      · subst h2
        rw [dif_pos (by simp)]
        simp
      · rw [dif_neg (by simp; omega)]
        rw [List.getElem_set_ne (by omega)]

theorem foldl_set_size (cells : List Value) : ∀ (k : Nat) (acc : Array Value) (off : Nat), ((cells.zipIdx k).foldl (fun cs (x : Value × Nat) => cs.setIfInBounds (off + x.2) x.1) acc).size = acc.size := by
  induction cells with
  | nil => intros; rfl
  | cons x xs ih => intro k acc off; simp [List.zipIdx_cons, ih]

theorem foldl_set_PV : ∀ (xs : List AV) (vs : List Value) (k : Nat) (cs : List AV) (acc : Array Value) (off : Nat), PV c cs acc →
    vs.length = xs.length → (∀ i (hi : i < xs.length) (hj : i < vs.length), V c xs[i] vs[i]) →
    PV c (putAt cs (off + k) xs) ((vs.zipIdx k).foldl (fun cs (x : Value × Nat) => cs.setIfInBounds (off + x.2) x.1) acc)
  | [], [], k, cs, acc, off, h, _, _ => h
  | x :: xs, v :: vs, k, cs, acc, off, h, hl, hv => by
    simp only [putAt, List.zipIdx_cons, List.foldl_cons]
    refine foldl_set_PV xs vs (k + 1) (cs.set (off + k) x) _ off ⟨by simp [h.1], fun i hi hj => ?_⟩ (by simpa using hl) (fun i hi hj => ?_)
    · simp at hi hj
      rw [List.getElem_set, Array.getElem_setIfInBounds]
      · split
        · exact hv 0 (by simp) (by simp)
        · exact h.2 i hi hj
    · exact hv (i + 1) (by simp; omega) (by simp; omega)
  | [], _ :: _, _, _, _, _, _, hl, _ => by simp at hl
  | _ :: _, [], _, _, _, _, _, hl, _ => by simp at hl

theorem fillA_PV (place : Nat → Option (Nat × Nat)) : ∀ (ps : List (Nat × Nat × AV)) (vs : List (Nat × Value)) (cs : List AV) (acc : Array Value) (r : List AV),
    PV c cs acc → vs.length = ps.length → (∀ i (hi : i < ps.length) (hj : i < vs.length), place vs[i].1 = some (ps[i].1, ps[i].2.1) ∧ V c ps[i].2.2 vs[i].2) →
    fillA cs ps = some r → ∃ acc', Instr.fill place acc vs = some acc' ∧ PV c r acc'
  | [], [], cs, acc, r, h, _, _, hf => by simp [fillA] at hf; subst hf; exact ⟨acc, rfl, h⟩
  | (o, n, x) :: ps, (i, v) :: vs, cs, acc, r, h, hl, hv, hf => by
    simp only [fillA] at hf
    split at hf
    case isFalse => simp at hf
    rename_i hc
    obtain ⟨h1, h2, h3⟩ := hc
    obtain ⟨hp, hx⟩ := hv 0 (by simp) (by simp)
    simp only [List.getElem_cons_zero] at hp hx
    obtain ⟨hPV, _⟩ := cells_V hx h3
    have hsz : v.cells.size = n := by rw [hPV.1]; exact h1
    obtain ⟨acc', e1, e2⟩ := fillA_PV place ps vs (putAt cs o x.cells) (v.cells.zipIdx.foldl (fun cs (x : Value × Nat) => cs.setIfInBounds (o + x.2) x.1) acc) r
      (by
        have := foldl_set_PV x.cells v.cells.toList 0 cs acc o h (by simpa using hPV.1) (fun i hi hj => by simpa using hPV.2 i hi (by simpa using hj))
        rw [← Array.foldl_toList, Array.toList_zipIdx]
        exact this) (by simpa using hl) (fun i hi hj => by have := hv (i + 1) (by simp; omega) (by simp; omega); simpa using this) hf
    refine ⟨acc', ?_, e2⟩
    simp only [Instr.fill, hp]
    rw [if_neg]
    · exact e1
    · have : acc.size = cs.length := h.1
      simp only [Bool.or_eq_true, decide_eq_true_eq, not_or]
      refine ⟨by simp [hsz], by omega⟩
  | [], _ :: _, _, _, _, _, hl, _, _ => by simp at hl
  | _ :: _, [], _, _, _, _, hl, _, _ => by simp at hl


/-- the operands of a slice expression -/
theorem opt_V {G : Nat → List AV} {t : List AV} {a : Act} (ht : TR c t a.tmps) (hg : Glob c G) (x : Option Operand) :
    (∀ y, (x.map cx).map (·.ev G t) = some y → ∃ yv, x.map a.eval = some yv ∧ V c y yv) ∧ ((x.map cx).map (·.ev G t) = none → x.map a.eval = none) := by
  cases x with
  | none => exact ⟨by simp, by simp⟩
  | some x =>
    refine ⟨fun y hy => ?_, by simp⟩
    simp at hy
    subst hy
    exact ⟨_, rfl, ev_V ht hg x⟩

theorem args_V {G : Nat → List AV} {t : List AV} {a : Act} (ht : TR c t a.tmps) (hg : Glob c G) (l : List Operand) :
    ∀ i (hi : i < ((l.map cx).map (·.ev G t)).length) (hj : i < (l.map a.eval).length), V c ((l.map cx).map (·.ev G t))[i] (l.map a.eval)[i] := by
  intro i hi hj
  simp only [List.getElem_map]
  exact ev_V ht hg _

theorem fold_V {f : AV → AV → Option AV} {g : Value → Value → Sem Value}
    (hfg : ∀ x y r xv yv, V c x xv → V c y yv → f x y = some r → ∃ v, (g xv yv).run P c.w = .ok v c.w ∧ V c r v) :
    ∀ (l : List AV) (vs : List Value) (x r : AV) (xv : Value), V c x xv → vs.length = l.length → (∀ i (hi : i < l.length) (hj : i < vs.length), V c l[i] vs[i]) →
    foldO f x l = some r → ∃ v, (vs.foldlM g xv).run P c.w = .ok v c.w ∧ V c r v
  | [], [], x, r, xv, hx, _, _, h => by simp [foldO] at h; subst h; exact ⟨xv, rfl, hx⟩
  | y :: l, yv :: vs, x, r, xv, hx, hl, hv, h => by
    simp only [foldO] at h
    split at h
    case h_2 => simp at h
    rename_i z hz
    obtain ⟨v, e, hV⟩ := hfg x y z xv yv hx (hv 0 (by simp) (by simp)) hz
    obtain ⟨u, e2, hU⟩ := fold_V hfg l vs z r v hV (by simpa using hl) (fun i hi hj => hv (i + 1) (by simp; omega) (by simp; omega)) h
    refine ⟨u, ?_, hU⟩
    simp only [List.foldlM_cons, Sem.run_bind, e, Result.andThen_ok]
    exact e2
  | [], _ :: _, _, _, _, _, hl, _, _ => by simp at hl
  | _ :: _, [], _, _, _, _, hl, _, _ => by simp at hl

theorem min2_V (x y r : AV) (xv yv : Value) (hx : V c x xv) (hy : V c y yv) (h : min2 x y = some r) : ∃ v, (Builtin.min2 xv yv).run P c.w = .ok v c.w ∧ V c r v := by
  unfold min2 at h
  split at h
  · cases hx; cases hy; injection h with h; subst h; exact ⟨_, rfl, V.int _ _⟩
  · simp at h
theorem max2_V (x y r : AV) (xv yv : Value) (hx : V c x xv) (hy : V c y yv) (h : max2 x y = some r) : ∃ v, (Builtin.max2 xv yv).run P c.w = .ok v c.w ∧ V c r v := by
  unfold max2 at h
  split at h
  · cases hx; cases hy; injection h with h; subst h; exact ⟨_, rfl, V.int _ _⟩
  · simp at h

theorem fold_list {f : AV → AV → Option AV} {g : Value → Value → Sem Value}
    (hfg : ∀ x y r xv yv, V c x xv → V c y yv → f x y = some r → ∃ v, (g xv yv).run P c.w = .ok v c.w ∧ V c r v)
    {l : List AV} {vs : List Value} {r : AV} (hl : vs.length = l.length) (hv : ∀ i (hi : i < l.length) (hj : i < vs.length), V c l[i] vs[i])
    (h : (match l with | x :: q => foldO f x q | [] => none) = some r) : ∃ x q v, vs = x :: q ∧ (q.foldlM g x).run P c.w = .ok v c.w ∧ V c r v := by
  cases l with
  | nil => simp at h
  | cons x l =>
    cases vs with
    | nil => simp at hl
    | cons xv vs =>
      obtain ⟨v, e, hV⟩ := fold_V hfg l vs x r xv (hv 0 (by simp) (by simp)) (by simpa using hl) (fun i hi hj => hv (i + 1) (by simp; omega) (by simp; omega)) h
      exact ⟨xv, vs, v, rfl, e, hV⟩

end
end Go.Am
