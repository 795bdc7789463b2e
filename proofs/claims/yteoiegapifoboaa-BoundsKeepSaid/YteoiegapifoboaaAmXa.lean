/- A range over a function: what the machine says of its rounds, the program does. Condition: the environment is the program's. -/
import Derived.Test.YteoiegapifoboaaAmX
import Derived.Below
namespace Go.Am
section
variable {P : Program} {E : Env} {ex : EX}

def noCells (w : World) (b : Nat) : Prop := ∀ cells elem q, w.heap[b]? ≠ some (Go.Obj.cells cells elem q)

theorem cell_block {w : World} {b o : Nat} {u : Value} (h : w.cell? ⟨b, o, none⟩ = some u) : b < w.heap.size ∧ ¬ noCells w b := by
  unfold World.cell? at h
  cases hb : w.heap[b]? with
  | none => simp [hb] at h
  | some x =>
    refine ⟨?_, fun hn => ?_⟩
    · rcases Nat.lt_or_ge b w.heap.size with e | e
      · exact e
      · rw [Array.getElem?_eq_none e] at hb; simp at hb
    · rw [hb] at h
      cases x <;> simp at h
      exact hn _ _ _ hb

theorem owned_cells {c : Ctx} (hr : HR c) {b : Nat} (h : Owned c.H c.ι b) : b < c.w.heap.size ∧ ¬ noCells c.w b := by
  obtain ⟨id, nl, sz, es, g1, g2, g3⟩ := h
  obtain ⟨cells, elem, g4, _⟩ := hr.back id nl sz es g1 g2
  rw [g3] at g4
  refine ⟨?_, fun hn => hn _ _ _ g4⟩
  rcases Nat.lt_or_ge b c.w.heap.size with e | e
  · exact e
  · rw [Array.getElem?_eq_none e] at g4; simp at g4

/-- the same frame, in a world in which others have moved -/
def turned (c : Ctx) (F : Nat → Prop) (w' : World) : Ctx := ⟨w', fun b => F b ∨ Owned c.H c.ι b, c.ι, c.K, c.H⟩

theorem ctx_turn {F1 F2 X : Nat → Prop} {c : Ctx} {w' : World} (h : SR F1 c) (hm : Moved X c.w w') (hX : ∀ b, X b → F1 b ∨ noCells c.w b) (hF : ∀ b, F2 b → F1 b ∨ c.w.heap.size ≤ b) (hlt : ∀ b, F2 b → b < w'.heap.size) :
    SR F2 (turned c F2 w') ∧ ∀ x v, V c x v → V (turned c F2 w') x v := by
  have hV : ∀ x v, V c x v → V (turned c F2 w') x v := by
    intro x v hx
    refine V.monoW (c := c) (d := turned c F2 w') (fun b o u hb hc => ?_) (fun _ _ _ _ _ h => h) (fun _ _ _ _ _ h => h) (fun _ _ _ _ _ _ h => h) hx
    obtain ⟨h1, h2⟩ := cell_block hc
    have hb' : ¬ F1 b ∧ ¬ Owned c.H c.ι b := ⟨fun e => hb ((h.hO b).2 (.inl e)), fun e => hb ((h.hO b).2 (.inr e))⟩
    have hx : ¬ X b := fun e => (hX b e).elim hb'.1 h2
    refine ⟨?_, ?_⟩
    · have := hm.keep b h1 hx
      unfold World.cell? at hc ⊢
      simp only [turned, this]; exact hc
    · rintro (e | e)
      · rcases hF b e with e | e
        · exact hb'.1 e
        · omega
      · exact hb'.2 e
  refine ⟨⟨⟨?_, h.hr.inj⟩, fun b => Iff.rfl, hlt, fun b ho hf => ?_⟩, hV⟩
  · intro id nl sz es h1 h2
    obtain ⟨cells, elem, g1, g2, g3, g4, g5⟩ := h.hr.back id nl sz es h1 h2
    have ho : Owned c.H c.ι (c.ι id) := ⟨id, nl, sz, es, h1, h2, rfl⟩
    obtain ⟨h3, h4⟩ := owned_cells h.hr ho
    have hx : ¬ X (c.ι id) := fun e => (hX _ e).elim (h.disj _ ho) h4
    refine ⟨cells, elem, (hm.keep _ h3 hx).trans g1, g2, g3, .inr ho, fun i hi => ⟨(g5 i hi).1, fun j hj => ?_⟩⟩
    obtain ⟨u, hu, hv⟩ := (g5 i hi).2 j hj
    exact ⟨u, hu, hV _ _ hv⟩
  · obtain ⟨h3, _⟩ := owned_cells h.hr ho
    rcases hF b hf with e | e
    · exact h.disj b ho e
    · omega

theorem fut_turn {F1 F2 X : Nat → Prop} {c0 c : Ctx} {w' : World} {n : Nat} (h : SR F1 c) (hm : Moved X c.w w') (hX : ∀ b, X b → F1 b ∨ noCells c.w b) (hF : ∀ b, F2 b → F1 b ∨ c.w.heap.size ≤ b) (hlt : ∀ b, F2 b → b < w'.heap.size)
    (hXo : ∀ b, X b → c0.w.heap.size ≤ b) (hf : Fut n c0 c) : Fut n c0 (turned c F2 w') where
  size := Nat.le_trans hf.size hm.size
  keep b hb hn := by
    have : ¬ X b := fun e => by have := hXo b e; omega
    exact (hm.keep b (Nat.lt_of_lt_of_le hb hf.size) this).trans (hf.keep b hb hn)
  vals x v hb hx := (ctx_turn h hm hX hF hlt).2 x v (hf.vals x v hb hx)
  owned := hf.owned
  len := hf.len
  same := hf.same.trans hm.same

theorem Fut.moved {n : Nat} {c d : Ctx} (h : Fut n c d) {O : Nat → Prop} (hO : ∀ b, Owned c.H c.ι b → O b) : Moved O c.w d.w :=
  ⟨h.size, fun b hb hn => h.keep b hb fun e => hn (hO b e), h.same⟩

theorem Moved.trans {O O1 : Nat → Prop} {a b c : World} (h : Moved O a b) (k : Moved O1 b c) (ho : ∀ x, O1 x → O x ∨ a.heap.size ≤ x) : Moved O a c :=
  ⟨Nat.le_trans h.size k.size, fun x hx hn => (k.keep x (Nat.lt_of_lt_of_le hx h.size) fun e => (ho x e).elim hn (fun e => by omega)).trans (h.keep x hx hn), h.same.trans k.same⟩

theorem moved_put {w : World} {l : Nat} {o o' : Go.Obj} (h : w.heap[l]? = some o) (h1 : ∀ cells elem q, o ≠ Go.Obj.cells cells elem q) (h2 : ∀ cells elem q, o' ≠ Go.Obj.cells cells elem q) : Moved (fun b => b = l) w (w.putObj l o') :=
  ⟨by rw [World.putObj_size]; exact Nat.le_refl _, fun b _ hn => World.putObj_heap_other hn, Same.putObj h h1 h2⟩

theorem nocells_of {w : World} {l : Nat} {o : Go.Obj} (h : w.heap[l]? = some o) (h1 : ∀ cells elem q, o ≠ Go.Obj.cells cells elem q) : noCells w l :=
  fun cells elem q e => by rw [h] at e; injection e with e; exact h1 _ _ _ e

theorem same_alloc (w : World) (o : Go.Obj) (h1 : ∀ cells elem q, o ≠ Go.Obj.cells cells elem q) : Same w (w.alloc o) := by
  refine ⟨rfl, rfl, rfl, fun a => ?_⟩
  unfold World.frozen?
  have e : (w.alloc o).heap = w.heap.push o := rfl
  rw [e, Array.getElem?_push]
  by_cases h : a.block = w.heap.size
  · rw [if_pos h, Array.getElem?_eq_none (by omega)]
    cases o <;> first | rfl | (exact absurd rfl (h1 _ _ _))
  · rw [if_neg h]

theorem moved_alloc (w : World) (o : Go.Obj) (h1 : ∀ cells elem q, o ≠ Go.Obj.cells cells elem q) : Moved (fun _ => False) w (w.alloc o) :=
  ⟨by rw [World.size_alloc]; omega, fun b hb _ => Go.RowKit.Below.heap_alloc w o b hb, same_alloc w o h1⟩

theorem TR_putP {c : Ctx} : ∀ (ps : List Nat) (xs : List AV) (vs : List Value) {t : List AV} {ts : Array Value}, TR c t ts → xs.length = ps.length → vs.length = ps.length → (∀ i (hi : i < xs.length) (hj : i < vs.length), V c xs[i] vs[i]) →
    TR c (putP ps xs t) ((ps.zip vs).foldl (fun t (p, v) => t.setIfInBounds p v) ts)
  | [], [], [], _, _, h, _, _, _ => by simpa [putP] using h
  | p :: ps, x :: xs, v :: vs, t, ts, h, h1, h2, hv => by
    rw [putP, List.zip_cons_cons, List.foldl_cons]
    refine TR_putP ps xs vs ?_ (by simpa using h1) (by simpa using h2) (fun i hi hj => hv (i + 1) (by simpa using hi) (by simpa using hj))
    exact TR.put (a := { tmps := ts, defers := [] }) h (some p) (hv 0 (by simp) (by simp))
  | [], _ :: _, _, _, _, _, h1, _, _ => by simp at h1
  | [], [], _ :: _, _, _, _, _, h2, _ => by simp at h2
  | _ :: _, [], _, _, _, _, h1, _, _ => by simp at h1
  | _ :: _, _ :: _, [], _, _, _, _, h2, _ => by simp at h2

def codeOf : Ex → Option Code
  | .normal => none
  | .ret => some .ret
  | .exit i => some (.exit i)

/-- THE STATEMENT 'for .. := range g { .. }' -/
theorem rfn_sound (henv : EnvOk P E) (hsnd : ∀ hs code, Snd P E ex (comp P hs code) code) {hs : List (Nat × Hint)} {g : Operand} {ps : Array Tmp} {asg body : Code} (hna : noRF asg = true) (hnb : noRF body = true)
    {lo : Nat → Prop} {F : Nat → Prop} {c : Ctx} {base : Nat} {s : St} {a : Act} (hfr : FR lo F E.glob c s a) (hb : base ≤ c.H.length) {f : Nat} {cap : List AV} {ys : List (List AV)}
    (hg : (cx g).ev E.glob s.tmps = .fn f cap) (hcap : AV.bels 0 cap = true) (hys : E.gen f cap = some ys) (hfl : flatss ys = true) {e : Ex} {H' : List Obj}
    (hr : rnds ex s.H.length s.tmps ps.toList (comp P hs asg) (comp P hs body) ys s.H = some (e, H')) {Q : Exit → Act → World → Prop}
    (hQ : ∀ d a', FR lo F E.glob d ⟨s.tmps, H'⟩ a' → Fut base c d → Q (exitOf e) a' d.w) : (Code.rangeFunc g ps asg body).wpIn (wd none) 0 P Q a c.w := by
  have hH := hfr.hH
  obtain ⟨hent, hgen⟩ := henv.gens f cap ys hys hcap
  have hgv := ev_V hfr.tr hfr.gl g
  rw [hg] at hgv
  generalize hgval : a.eval g = gv at hgv
  cases hgv with
  | fn _ _ vs hvs hcv =>
  refine wpIn_rangeFunc ?_
  intro fn hfn
  obtain ⟨D, hD⟩ : ∃ D, c.w.heap.size = D := ⟨_, rfl⟩
  obtain ⟨rec, hrec⟩ : ∃ rec : LoopState → Option Code → Loop, rec = fun st pe => { state := st, pending := pe, fn, tmps := a.tmps, params := ps, assign := asg, body, defers := D } := ⟨_, rfl⟩
  obtain ⟨W1, hW1⟩ : ∃ W1, (c.w.alloc (.deferred (some []))).alloc (.loop (rec .ready none)) = W1 := ⟨_, rfl⟩
  have hsz1 : W1.heap.size = D + 2 := by rw [← hW1, World.size_alloc, World.size_alloc, hD]
  have hL1 : W1.heap[D + 1]? = some (.loop (rec .ready none)) := by
    rw [← hW1, ← hD]; have := World.alloc_heap_new (c.w.alloc (.deferred (some []))) (.loop (rec .ready none)); rwa [World.size_alloc] at this
  have hK1 : W1.heap[D]? = some (.deferred (some [])) := by
    rw [← hW1, ← hD]; exact (Go.RowKit.Below.heap_alloc _ _ _ (by simp)).trans (World.alloc_heap_new c.w _)
  have hmv1 : Moved (fun _ => False) c.w W1 := by
    rw [← hW1]; exact (moved_alloc c.w _ (by simp)).trans (moved_alloc _ _ (by simp)) (fun _ h => h.elim)
  have hcd : ∀ st pe cells elem q, Go.Obj.loop (rec st pe) ≠ Go.Obj.cells cells elem q := fun _ _ _ _ _ h => by simp at h
  refine ⟨D + 1, [{ target := .collected D, args := #[] }], W1, { target := .fn (.func f) vs, args := #[.func (.yield (D + 1)) #[] #[]] }, W1, f,
    #[.func (.yield (D + 1)) #[] #[]] ++ vs, W1, ?_, ?_, fun _ _ => trivial, ?_, fun h => by simp [wd, Fence.wide] at h, ?_⟩
  · rw [← hW1, hrec, ← hD]; exact run_enterLoop_outer _ _ _ _ _
  · simp only [resolve, hgval]
    simp [go_sem]
  · simp [invoke, go_sem, hent]
  -- what the frame knows
  let J : Nat → Bool → (Nat → Prop) → (Nat → Prop) → World → Prop := fun k st G O w => ∃ c' : Ctx, c'.w = w ∧ SR (fun b => F b ∨ G b) c' ∧ Fut s.H.length c c' ∧ (∀ b, G b → D + 1 < b) ∧
    (O = fun b => F b ∨ Owned c'.H c'.ι b ∨ b = D ∨ b = D + 1) ∧ w.heap[D]? = some (.deferred (some [])) ∧ D + 1 < w.heap.size ∧
    (st = false → w.heap[D + 1]? = some (.loop (rec .ready none)) ∧ rnds ex s.H.length s.tmps ps.toList (comp P hs asg) (comp P hs body) (ys.drop k) c'.H = some (e, H')) ∧
    (st = true → ∃ code, codeOf e = some code ∧ w.heap[D + 1]? = some (.loop (rec .done (some code))) ∧ c'.H = H')
  have hFlt : ∀ b, F b → b < D := fun b hb => by rw [← hD]; exact hfr.sr.hF b hb
  -- the values that the function holds
  obtain ⟨sr1, v1⟩ := ctx_turn (F2 := F) hfr.sr hmv1 (fun b h => h.elim) (fun b h => .inl h) (fun b h => by have := hFlt b h; omega)
  have f1 : Fut s.H.length c (turned c F W1) := fut_turn (F2 := F) hfr.sr hmv1 (fun b h => h.elim) (fun b h => .inl h) (fun b h => by have := hFlt b h; omega) (fun b h => h.elim) (Fut.refl _ _)
  have hown1 : ∀ b, Owned c.H c.ι b → b < D := fun b h => by rw [← hD]; exact (owned_cells hfr.sr.hr h).1
  let O0 : Nat → Prop := fun b => F b ∨ Owned c.H c.ι b ∨ b = D ∨ b = D + 1
  have hfree : ∀ x v, x.bel 0 = true → V c x v → V ⟨W1, O0, c.ι, c.K, []⟩ x v := fun x v hx hv =>
    V.monoB (c := c) (d := ⟨W1, O0, c.ι, c.K, []⟩) 0 (fun b hb hs => by
      have hlt : b < c.w.heap.size := by
        rcases Nat.lt_or_ge b c.w.heap.size with e | e
        · exact e
        · rw [Array.getElem?_eq_none e] at hs; simp at hs
      refine ⟨hmv1.keep b hlt (fun h => h), ?_⟩
      rintro (h | h | h | h)
      · exact hb ((hfr.sr.hO b).2 (.inl h))
      · exact hb ((hfr.sr.hO b).2 (.inr h))
      · omega
      · omega) (fun _ _ _ _ _ h => by omega) (fun _ _ _ _ _ h => by omega) (fun _ _ _ _ _ _ h => by omega) hv hx
  refine (wd_calls (ρ := none) (n := 0) (hgen W1 O0 vs c.ι c.K hvs (fun i hi hj => hfree _ _ (bels_get hcap i hi) (hcv i hi hj)) (fun g => hfree _ _ (by simp only [AV.bel]; exact henv.glob g) (hfr.gl g)) ?_ (D + 1) J ?_ ?_ ?_)).mono ?_
  · rintro b (h | h | h | h)
    · have := hFlt b h; omega
    · have := hown1 b h; omega
    · omega
    · omega
  · -- the function's own steps
    rintro k st G O w G' w' ⟨c', rfl, hsr, hfut, hGl, hO, hDh, hsz, h1, h2⟩ hm hG' hG'lt
    have hx : ∀ b, G b → (F b ∨ G b) ∨ noCells c'.w b := fun b h => .inl (.inr h)
    have hf2 : ∀ b, F b ∨ G' b → (F b ∨ G b) ∨ c'.w.heap.size ≤ b := fun b h => h.elim (fun h => .inl (.inl h)) (fun h => (hG' b h).elim (fun h => .inl (.inr h)) .inr)
    have hl2 : ∀ b, F b ∨ G' b → b < w'.heap.size := fun b h => h.elim (fun h => Nat.lt_of_lt_of_le (hsr.hF b (.inl h)) hm.size) (hG'lt b)
    have hkD : w'.heap[D]? = c'.w.heap[D]? := hm.keep D (by omega) (fun h => by have := hGl D h; omega)
    have hkL : w'.heap[D + 1]? = c'.w.heap[D + 1]? := hm.keep (D + 1) hsz (fun h => by have := hGl (D + 1) h; omega)
    refine ⟨turned c' (fun b => F b ∨ G' b) w', rfl, (ctx_turn hsr hm hx hf2 hl2).1, fut_turn hsr hm hx hf2 hl2 (fun b h => by have := hGl b h; omega) hfut, fun b h => ?_, hO, by rw [hkD]; exact hDh, by have := hm.size; omega, fun hst => ?_, fun hst => ?_⟩
    · rcases hG' b h with h | h
      · exact hGl b h
      · omega
    · rw [hkL]; exact h1 hst
    · rw [hkL]; exact h2 hst
  · -- one round
    rintro k hk G O w args ⟨c', rfl, hsr, hfut, hGl, hO, hDh, hsz, h1, _⟩ hargs hav
    obtain ⟨hl, hrn⟩ := h1 rfl
    rw [List.drop_eq_getElem_cons hk, rnds] at hrn
    split at hrn
    case isFalse => simp at hrn
    rename_i hxl
    split at hrn
    case h_2 => simp at hrn
    rename_i s1 hex1
    have hpsz : args.size = ps.size := by rw [hargs, hxl]; simp
    have hy := run_yield (P := P) (args := args) hl (by rw [hrec]; exact hpsz)
    rw [hrec] at hy
    have hn0 : s.H.length ≤ c'.H.length := hfut.len (by rw [hH]; exact Nat.le_refl _)
    have htr0 : TR c' s.tmps a.tmps := ⟨hfr.tr.1, fun i hi hj => hfut.vals _ _ (by rw [← hH]; exact (hfr.tr.2 i hi hj).bel) (hfr.tr.2 i hi hj)⟩
    have htr : TR c' (putP ps.toList ys[k] s.tmps) ((ps.zip args).foldl (fun t (p, v) => t.setIfInBounds p v) a.tmps) := by
      have := TR_putP (c := c') ps.toList ys[k] args.toList htr0 hxl (by simpa using hpsz) (fun i hi hj => hav i hi (by simpa using hj) c')
      rw [← Array.foldl_toList, Array.toList_zip]
      exact this
    have hgl0 : Glob c' E.glob := hfr.gl.fut henv.glob hfut
    have hfr0 : FR (fun _ => True) (fun b => F b ∨ G b) E.glob c' ⟨putP ps.toList ys[k] s.tmps, c'.H⟩ { tmps := (ps.zip args).foldl (fun t (p, v) => t.setIfInBounds p v) a.tmps, defers := [] } := ⟨hsr, htr, rfl, Marks.nil (fun _ _ => trivial), hgl0⟩
    refine ⟨fn, _, asg, body, hy, roundIn_of_wpIn trivial ?_⟩
    refine hsnd hs asg (some (D + 1)) (.inr hna) (fun _ => True) _ c' s.H.length _ .normal s1 _ hfr0 hn0 hex1 _ fun d1 a1 hd1 hf1 => ?_
    have hlo1 : ¬ Owned c'.H c'.ι (D + 1) := fun h => (owned_cells hsr.hr h).2 (nocells_of hl (hcd _ _))
    have hloD : ¬ Owned c'.H c'.ι D := fun h => (owned_cells hsr.hr h).2 (nocells_of hDh (by simp))
    have hl1 : d1.w.heap[D + 1]? = some (.loop (rec .ready none)) := (hf1.keep _ hsz hlo1).trans hl
    have hD1 : d1.w.heap[D]? = some (.deferred (some [])) := (hf1.keep _ (by omega) hloD).trans hDh
    have hs1 := hf1.size
    refine ⟨_, run_beginRound hl1 (by rw [hrec]), ?_⟩
    -- busy
    have mv2 := moved_put (o' := Go.Obj.loop { rec .ready none with state := .busy }) hl1 (hcd _ _) (by simp)
    have x2 : ∀ b, b = D + 1 → (F b ∨ G b) ∨ noCells d1.w b := fun b h => .inr (by rw [h]; exact nocells_of hl1 (hcd _ _))
    have fl2 : ∀ b, F b ∨ G b → b < (d1.w.putObj (D + 1) (Go.Obj.loop { rec .ready none with state := .busy })).heap.size := fun b h => by rw [World.putObj_size]; exact hd1.sr.hF b h
    obtain ⟨sr2, v2⟩ := ctx_turn (F2 := fun b => F b ∨ G b) hd1.sr mv2 x2 (fun b h => .inl h) fl2
    have hfr2 : FR (fun _ => True) (fun b => F b ∨ G b) E.glob (turned d1 (fun b => F b ∨ G b) (d1.w.putObj (D + 1) (Go.Obj.loop { rec .ready none with state := .busy }))) s1 a1 := by
      refine ⟨sr2, hd1.tr.went v2, hd1.hH, ?_, fun g => v2 _ _ (hd1.gl g)⟩
      obtain ⟨_, Ds, m1, m2, m3⟩ := hd1.df
      refine ⟨fun _ _ => trivial, Ds, m1, m2, fun D' hD' => ⟨trivial, ?_⟩⟩
      have hne : D' ≠ D + 1 := fun h => by have := (m3 D' hD').2; rw [h, hl1] at this; simp at this
      exact (World.putObj_heap_other hne).trans (m3 D' hD').2
    have fut2 : Fut s.H.length c (turned d1 (fun b => F b ∨ G b) (d1.w.putObj (D + 1) (Go.Obj.loop { rec .ready none with state := .busy }))) :=
      fut_turn hd1.sr mv2 x2 (fun b h => .inl h) fl2 (fun b h => by omega) (hfut.trans hf1)
    have hl2 : (d1.w.putObj (D + 1) (Go.Obj.loop { rec .ready none with state := .busy })).heap[D + 1]? = some (.loop { rec .ready none with state := .busy }) := World.putObj_heap_same (by omega)
    have hD2 : (d1.w.putObj (D + 1) (Go.Obj.loop { rec .ready none with state := .busy })).heap[D]? = some (.deferred (some [])) := (World.putObj_heap_other (by omega)).trans hD1
    have hex2 : ∃ e2 s2, ex (comp P hs body) s.H.length s1 = some (e2, s2) ∧ ((e2 = .normal ∧ rnds ex s.H.length s.tmps ps.toList (comp P hs asg) (comp P hs body) (ys.drop (k + 1)) s2.H = some (e, H')) ∨ (e2 ≠ .normal ∧ e2 = e ∧ s2.H = H')) := by
      split at hrn
      · rename_i s2 h2; exact ⟨_, s2, h2, .inl ⟨rfl, hrn⟩⟩
      · rename_i e2 s2 hne h2
        simp only [Option.some.injEq, Prod.mk.injEq] at hrn
        exact ⟨e2, s2, h2, .inr ⟨fun h => hne h, hrn.1, hrn.2⟩⟩
      · simp at hrn
    obtain ⟨e2, s2, hex2, hcase⟩ := hex2
    refine hsnd hs body (some (D + 1)) (.inr hnb) (fun _ => True) _ _ s.H.length _ e2 s2 _ hfr2 (hf1.len hn0) hex2 _ fun d3 a3 hd3 hf3 => ?_
    have hlo2 : ∀ b, noCells (d1.w.putObj (D + 1) (Go.Obj.loop { rec .ready none with state := .busy })) b → ¬ Owned d1.H d1.ι b := fun b hn h => (owned_cells sr2.hr (c := turned d1 _ _) h).2 hn
    have hs3 := hf3.size
    have hs3' : d1.w.heap.size ≤ d3.w.heap.size := by have := hs3; simpa [turned, World.putObj_size] using this
    have hl3 : d3.w.heap[D + 1]? = some (.loop { rec .ready none with state := .busy }) := (hf3.keep _ (by simp only [turned, World.putObj_size]; omega) (hlo2 _ (nocells_of hl2 (by simp)))).trans hl2
    have hD3 : d3.w.heap[D]? = some (.deferred (some [])) := (hf3.keep _ (by simp only [turned, World.putObj_size]; omega) (hlo2 _ (nocells_of hD2 (by simp)))).trans hD2
    -- the end of the round
    have fin : ∀ jump : Option Code, ∃ w4, (Instr.endRound (D + 1) jump).run P d3.w = .ok (.bool jump.isNone) w4 ∧ w4.heap[D + 1]? = some (.loop (rec (if jump.isNone then .ready else .done) jump)) ∧ w4.heap[D]? = some (.deferred (some [])) ∧ D + 1 < w4.heap.size ∧
        ∃ c4 : Ctx, c4.w = w4 ∧ c4.H = s2.H ∧ SR (fun b => F b ∨ G b) c4 ∧ Fut s.H.length c c4 ∧ Moved O c'.w w4 ∧ ∀ b, Owned c4.H c4.ι b → Owned c'.H c'.ι b ∨ c'.w.heap.size ≤ b := by
      intro jump
      have hrun := run_endRound (P := P) jump hl3
      rw [hrec] at hrun
      have mv4 := moved_put (o' := Go.Obj.loop (rec (if jump.isNone then .ready else .done) jump)) hl3 (by simp) (hcd _ _)
      have x4 : ∀ b, b = D + 1 → (F b ∨ G b) ∨ noCells d3.w b := fun b h => .inr (by rw [h]; exact nocells_of hl3 (by simp))
      have fl4 : ∀ b, F b ∨ G b → b < (d3.w.putObj (D + 1) (Go.Obj.loop (rec (if jump.isNone then .ready else .done) jump))).heap.size := fun b h => by rw [World.putObj_size]; exact hd3.sr.hF b h
      refine ⟨d3.w.putObj (D + 1) (Go.Obj.loop (rec (if jump.isNone then .ready else .done) jump)), by rw [hrec]; exact hrun, World.putObj_heap_same (by omega), (World.putObj_heap_other (by omega)).trans hD3, by rw [World.putObj_size]; omega,
        turned d3 (fun b => F b ∨ G b) (d3.w.putObj (D + 1) (Go.Obj.loop (rec (if jump.isNone then .ready else .done) jump))), rfl, hd3.hH, (ctx_turn hd3.sr mv4 x4 (fun b h => .inl h) fl4).1,
        fut_turn hd3.sr mv4 x4 (fun b h => .inl h) fl4 (fun b h => by omega) (fut2.trans hf3), ?_, ?_⟩
      · have o1 : ∀ b, Owned d1.H d1.ι b → O b ∨ c'.w.heap.size ≤ b := fun b h => (hf1.owned b h).imp (fun h => by rw [hO]; exact .inr (.inl h)) id
        have m1 : Moved O c'.w d1.w := hf1.moved fun b h => by rw [hO]; exact .inr (.inl h)
        have m2 : Moved O c'.w (d1.w.putObj (D + 1) (Go.Obj.loop { rec .ready none with state := .busy })) := m1.trans mv2 fun b h => .inl (by rw [hO]; exact .inr (.inr (.inr h)))
        have m3 : Moved O c'.w d3.w := m2.trans (hf3.moved (O := Owned d1.H d1.ι) fun b h => h) o1
        exact m3.trans mv4 fun b h => .inl (by rw [hO]; exact .inr (.inr (.inr h)))
      · intro b h
        rcases hf3.owned b h with h | h
        · exact hf1.owned b h
        · right
          have : (turned d1 (fun b => F b ∨ G b) (d1.w.putObj (D + 1) (Go.Obj.loop { rec .ready none with state := .busy }))).w.heap.size = d1.w.heap.size := by simp [turned, World.putObj_size]
          omega
    have close : ∀ (jump : Option Code) (st : Bool), ∀ w4, w4.heap[D + 1]? = some (.loop (rec (if jump.isNone then .ready else .done) jump)) → w4.heap[D]? = some (.deferred (some [])) → D + 1 < w4.heap.size →
        ∀ c4 : Ctx, c4.w = w4 → SR (fun b => F b ∨ G b) c4 → Fut s.H.length c c4 → Moved O c'.w w4 → (∀ b, Owned c4.H c4.ι b → Owned c'.H c'.ι b ∨ c'.w.heap.size ≤ b) →
        (st = false → jump = none ∧ rnds ex s.H.length s.tmps ps.toList (comp P hs asg) (comp P hs body) (ys.drop (k + 1)) c4.H = some (e, H')) → (st = true → ∃ code, jump = some code ∧ codeOf e = some code ∧ c4.H = H') →
        ∃ O', Moved O c'.w w4 ∧ (∀ b, O' b → O b ∨ c'.w.heap.size ≤ b) ∧ (∀ b, O' b → b < w4.heap.size) ∧ J (k + 1) st G O' w4 := by
      rintro jump st w4 g1 g2 g3 c4 rfl g4 g5 g6 g7 g8 g9
      refine ⟨fun b => F b ∨ Owned c4.H c4.ι b ∨ b = D ∨ b = D + 1, g6, fun b h => ?_, fun b h => ?_, c4, rfl, g4, g5, hGl, rfl, g2, g3, fun hst => ?_, fun hst => ?_⟩
      · rcases h with h | h | h | h
        · exact .inl (by rw [hO]; exact .inl h)
        · exact (g7 b h).imp (fun h => by rw [hO]; exact .inr (.inl h)) id
        · exact .inl (by rw [hO]; exact .inr (.inr (.inl h)))
        · exact .inl (by rw [hO]; exact .inr (.inr (.inr h)))
      · rcases h with h | h | h | h
        · exact g4.hF b (.inl h)
        · exact (owned_cells g4.hr h).1
        · omega
        · omega
      · obtain ⟨rfl, h⟩ := g8 hst
        exact ⟨g1, h⟩
      · obtain ⟨code, rfl, h, h'⟩ := g9 hst
        exact ⟨code, h, g1, h'⟩
    cases e2 with
    | normal =>
      obtain ⟨w4, r1, r2, r3, r4, c4, r5, r6, r7, r8, r9, r10⟩ := fin none
      rcases hcase with ⟨_, hc⟩ | ⟨hc, _⟩
      · obtain ⟨O', q1, q2, q3, q4⟩ := close none false w4 r2 r3 r4 c4 r5 r7 r8 r9 r10 (fun _ => ⟨rfl, by rw [r6]; exact hc⟩) (fun h => by simp at h)
        exact ⟨_, w4, r1, O', q1, q2, q3, .inl ⟨rfl, q4⟩⟩
      · exact (hc rfl).elim
    | ret =>
      obtain ⟨w4, r1, r2, r3, r4, c4, r5, r6, r7, r8, r9, r10⟩ := fin (some .ret)
      rcases hcase with ⟨hc, _⟩ | ⟨_, rfl, hc⟩
      · simp at hc
      · obtain ⟨O', q1, q2, q3, q4⟩ := close (some .ret) true w4 r2 r3 r4 c4 r5 r7 r8 r9 r10 (fun h => by simp at h) (fun _ => ⟨.ret, rfl, rfl, by rw [r6]; exact hc⟩)
        exact ⟨_, w4, r1, O', q1, q2, q3, .inr ⟨rfl, q4⟩⟩
    | exit i =>
      obtain ⟨w4, r1, r2, r3, r4, c4, r5, r6, r7, r8, r9, r10⟩ := fin (some (.exit i))
      rcases hcase with ⟨hc, _⟩ | ⟨_, rfl, hc⟩
      · simp at hc
      · obtain ⟨O', q1, q2, q3, q4⟩ := close (some (.exit i)) true w4 r2 r3 r4 c4 r5 r7 r8 r9 r10 (fun h => by simp at h) (fun _ => ⟨.exit i, rfl, rfl, by rw [r6]; exact hc⟩)
        exact ⟨_, w4, r1, O', q1, q2, q3, .inr ⟨rfl, q4⟩⟩
  · -- the start
    refine ⟨turned c F W1, rfl, ⟨sr1.hr, fun b => ⟨fun h => h.imp .inl id, fun h => h.imp (fun h => h.elim id (fun h => h.elim)) id⟩, fun b h => h.elim (fun h => sr1.hF b h) (fun h => h.elim), fun b h hf => hf.elim (fun hf => sr1.disj b h hf) (fun h => h.elim)⟩, f1, fun b h => h.elim, rfl, hK1, by omega, fun _ => ⟨hL1, ?_⟩, fun h => by simp at h⟩
    rw [List.drop_zero]
    have : (turned c F W1).H = s.H := hH
    rw [this]; exact hr
  · -- behind
    rintro ev w2 ⟨⟨v, rfl⟩, G, O, hJ⟩
    have last : ∀ (st : LoopState) (pe : Option Code), st ≠ .busy → ∀ c' : Ctx, c'.w = w2 → SR (fun b => F b ∨ G b) c' → Fut s.H.length c c' → w2.heap[D]? = some (.deferred (some [])) → D + 1 < w2.heap.size → w2.heap[D + 1]? = some (.loop (rec st pe)) → c'.H = H' →
        ∃ w4, (Instr.endLoop (D + 1)).run P w2 = .ok pe w4 ∧ ∃ d, d.w = w4 ∧ FR lo F E.glob d ⟨s.tmps, H'⟩ { a with defers := [{ target := .collected D, args := #[] }] ++ a.defers } ∧ Fut base c d := by
      rintro st pe hst c' rfl hsr hfut hDh hsz hl hHc
      have hrun := run_endLoop (P := P) hl (by rw [hrec]; exact hst)
      rw [hrec] at hrun
      have mv := moved_put (o' := Go.Obj.loop (rec .exhausted pe)) hl (hcd _ _) (hcd _ _)
      have xx : ∀ b, b = D + 1 → (F b ∨ G b) ∨ noCells c'.w b := fun b h => .inr (by rw [h]; exact nocells_of hl (hcd _ _))
      have fl : ∀ b, F b → b < (c'.w.putObj (D + 1) (Go.Obj.loop (rec .exhausted pe))).heap.size := fun b h => by rw [World.putObj_size]; exact hsr.hF b (.inl h)
      obtain ⟨sr5, v5⟩ := ctx_turn (F2 := F) hsr mv xx (fun b h => .inl (.inl h)) fl
      have fut5 : Fut s.H.length c (turned c' F (c'.w.putObj (D + 1) (Go.Obj.loop (rec .exhausted pe)))) := fut_turn (F2 := F) hsr mv xx (fun b h => .inl (.inl h)) fl (fun b h => by omega) hfut
      refine ⟨c'.w.putObj (D + 1) (Go.Obj.loop (rec .exhausted pe)), by rw [hrec]; exact hrun, turned c' F (c'.w.putObj (D + 1) (Go.Obj.loop (rec .exhausted pe))), rfl, ⟨sr5, ⟨hfr.tr.1, fun i hi hj => fut5.vals _ _ (by rw [← hH]; exact (hfr.tr.2 i hi hj).bel) (hfr.tr.2 i hi hj)⟩, hHc, ?_, hfr.gl.fut henv.glob fut5⟩,
        ⟨fut5.size, fut5.keep, fun x v hx => fut5.vals x v (bel_mono (by rw [← hH]; exact hb) x hx), fut5.owned, fun hn => Nat.le_trans hb (fut5.len (by rw [hH]; exact Nat.le_refl _) |> fun h => by rw [hH]; exact h), fut5.same⟩⟩
      obtain ⟨hlo, Ds, m1, m2, m3⟩ := hfr.df
      have hmarks := hfr.df.fut hfr.sr.hr fut5
      obtain ⟨hlo5, Ds5, n1, n2, n3⟩ := hmarks
      refine ⟨hlo5, D :: Ds, ?_, ?_, ?_⟩
      · rw [List.nodup_cons]
        refine ⟨fun h => ?_, m1⟩
        have := (m3 D h).2
        rw [Array.getElem?_eq_none (by omega)] at this
        simp at this
      · rw [List.map_cons, ← m2]; rfl
      · intro D' hD'
        rw [List.mem_cons] at hD'
        rcases hD' with rfl | hD'
        · exact ⟨hlo D' (by omega), (World.putObj_heap_other (by omega)).trans hDh⟩
        · have h3 := (m3 D' hD').2
          have hlt : D' < c.w.heap.size := by
            rcases Nat.lt_or_ge D' c.w.heap.size with e | e
            · exact e
            · rw [Array.getElem?_eq_none e] at h3; simp at h3
          refine ⟨(m3 D' hD').1, (fut5.keep D' hlt fun h => (owned_cells hfr.sr.hr h).2 (nocells_of h3 (by simp))).trans h3⟩
    rcases hJ with ⟨c', hc', hsr, hfut, hGl, hO, hDh, hsz, h1, _⟩ | ⟨k, c', hc', hsr, hfut, hGl, hO, hDh, hsz, _, h2⟩
    · obtain ⟨hl, hrn⟩ := h1 rfl
      rw [List.drop_of_length_le (Nat.le_refl _), rnds] at hrn
      simp only [Option.some.injEq, Prod.mk.injEq] at hrn
      obtain ⟨rfl, hHc⟩ := hrn
      obtain ⟨w4, r1, d, r2, r3, r4⟩ := last .ready none (by simp) c' hc' hsr hfut hDh hsz hl hHc
      refine ⟨none, w4, r1, ?_⟩
      rw [← r2]
      exact hQ d _ r3 r4
    · obtain ⟨code, hcode, hl, hHc⟩ := h2 rfl
      obtain ⟨w4, r1, d, r2, r3, r4⟩ := last .done (some code) (by simp) c' hc' hsr hfut hDh hsz hl hHc
      refine ⟨some code, w4, r1, ?_⟩
      rw [← r2]
      cases e with
      | normal => simp [codeOf] at hcode
      | ret =>
        simp only [codeOf, Option.some.injEq] at hcode
        subst hcode
        exact wpIn_ret (hQ d _ r3 r4)
      | exit i =>
        simp only [codeOf, Option.some.injEq] at hcode
        subst hcode
        exact wpIn_exit (hQ d _ r3 r4)

end
end Go.Am
