/- A range over a function: what the machine says of it, the program does. Condition: the environment is the program's. -/
import Derived.Test.YtafgdbaekppjcaaGreatDoorAmX
set_option linter.unusedSectionVars false
set_option linter.unusedVariables false
set_option linter.unusedSimpArgs false
namespace Go.Am
open Go.MapKept
section
variable {P : Program} {E : Env} {ex : EX}
theorem grow_sound {F : Fo} {c : Ctx} (h : SR F c) (o : Go.Obj) (hn : ∀ cells elem q, o ≠ Go.Obj.cells cells elem q) : Went F c { c with w := c.w.alloc o } := by
  have hk : ∀ b : Nat, b < c.w.heap.size → (c.w.alloc o).heap[b]? = c.w.heap[b]? := (heap_alloc c.w o).2
  have hlt : ∀ b, (c.w.heap[b]?).isSome → b < c.w.heap.size := by
    intro b hs
    rcases Nat.lt_or_ge b c.w.heap.size with e | e
    · exact e
    · rw [Array.getElem?_eq_none e] at hs; simp at hs
  have hV : ∀ x v, V c x v → V { c with w := c.w.alloc o } x v := fun x v hx =>
    V.mono (c := c) (d := { c with w := c.w.alloc o }) (fun b hb hs => ⟨hk b (hlt b hs), hb⟩) (fun _ _ _ _ _ h => h) (fun _ _ _ _ _ h => h) (fun _ _ _ _ _ _ h => h) (fun _ _ h => h) hx
  have hsz : c.w.heap.size ≤ (c.w.alloc o).heap.size := by rw [World.size_alloc]; omega
  refine ⟨⟨⟨?_, h.hr.inj⟩, h.hO, fun b hf => Nat.lt_of_lt_of_le (h.hF b hf) hsz, h.disj, h.x.keep (fun id o' h1 h2 => ⟨h1, rfl, hk _ (h.sp_lt h1 h2).1⟩) hV⟩, hV,
    fun n => ⟨hsz, fun b hb _ _ => hk b hb, fun x v _ hx => hV x v hx, fun b ho => .inl ho, fun hn => hn, same_alloc _ _ hn, fun b hb => .inl hb⟩⟩
  intro id nl sz es h1 h2
  obtain ⟨cells, elem, g1, g2, g3, g4, g5⟩ := h.hr.back id nl sz es h1 h2
  refine ⟨cells, elem, (hk _ (hlt _ (by rw [g1]; rfl))).trans g1, g2, g3, g4, fun i hi => ⟨(g5 i hi).1, fun j hj => ?_⟩⟩
  obtain ⟨u, hu, hv⟩ := (g5 i hi).2 j hj
  exact ⟨u, hu, hV _ _ hv⟩
theorem drop_sound {F : Fo} {c : Ctx} (h : SR F c) {id : Nat} {o : Obj} (hid : c.H[id]? = some o) (ho : o.sp = true) (wo : Go.Obj) (hn : ∀ cells elem q, wo ≠ Go.Obj.cells cells elem q) :
    ∃ d : Ctx, d.w = c.w.putObj (c.ι id) wo ∧ d.H = c.H.set id .dead ∧ Went F c d := by
  obtain ⟨w0, g1, g2⟩ := h.x.xr id o hid ho
  have hidlt := lt_of_some hid
  let H' := c.H.set id .dead
  have hget : ∀ (j : Nat) (o' : Obj), o' ≠ .dead → H'[j]? = some o' → j ≠ id ∧ c.H[j]? = some o' := by
    intro j o' hd hs
    by_cases hj : j = id
    · subst hj; simp [H', hidlt] at hs; exact (hd hs.symm).elim
    · refine ⟨hj, ?_⟩
      rw [← hs]; simp only [H']; rw [List.getElem?_set_ne (fun q => hj q.symm)]
  have hown : ∀ b, Owned H' c.ι b → Owned c.H c.ι b := by
    rintro b ⟨j, nl, sz, es, q1, q2, q3⟩
    exact ⟨j, nl, sz, es, (hget _ _ (by simp) q1).2, q2, q3⟩
  have hB : ¬ Owned c.H c.ι (c.ι id) := (h.sp_lt hid ho).2
  let d : Ctx := ⟨c.w.putObj (c.ι id) wo, fun b => F b ∨ Owned H' c.ι b, c.ι, c.K, H'⟩
  have hk : ∀ b, b ≠ c.ι id → d.w.heap[b]? = c.w.heap[b]? := fun b hb => World.putObj_heap_other hb
  have hHas : ∀ i, Has c i → Has d i := by
    rintro i ⟨h1, h2⟩
    refine ⟨by simpa [d, H'] using h1, fun e => ?_⟩
    exact h2 (hget _ _ (by simp) e).2
  have hsp : ∀ j o', d.H[j]? = some o' → o'.sp = true → c.H[j]? = some o' ∧ d.ι j = c.ι j ∧ d.w.heap[c.ι j]? = c.w.heap[c.ι j]? := by
    intro j o' h1 h2
    obtain ⟨h3, h4⟩ := hget j o' (by rintro rfl; simp [Obj.sp] at h2) h1
    exact ⟨h4, rfl, hk _ fun e => h3 (h.x.xi j id o' o h4 h2 hid ho e)⟩
  have hV : ∀ x v, V c x v → V d x v := by
    intro x v hx
    refine V.monoW ?_ ?_ ?_ ?_ (fun i b hs => hs.keep hHas hsp) hx
    · intro b p u hb hc
      have hne : b ≠ c.ι id := by
        rintro rfl
        unfold World.cell? at hc
        rw [g1] at hc
        cases w0 with
        | cells c1 e1 q1 => exact g2.nocells _ _ _ rfl
        | _ => simp at hc
      refine ⟨by rw [← hc]; simp only [World.cell?, hk b hne], ?_⟩
      rintro (hf | ho')
      · exact hb ((h.hO b).2 (.inl hf))
      · exact hb ((h.hO b).2 (.inr (hown b ho')))
    · rintro i e p l v ⟨q1, q2, q3⟩
      exact ⟨hHas i q1, q2, fun nl sz es hs => q3 nl sz es (hget _ _ (by simp) hs).2⟩
    · rintro i e p l v ⟨q1, q, q2, q3, q4⟩
      exact ⟨hHas i q1, q, q2, q3, fun nl sz es hs => q4 nl sz es (hget _ _ (by simp) hs).2⟩
    · rintro i e p l k v ⟨q1, q, q2, q3, q4⟩
      exact ⟨hHas i q1, q, q2, q3, fun nl sz es hs => q4 nl sz es (hget _ _ (by simp) hs).2⟩
  have hsz : d.w.heap.size = c.w.heap.size := World.putObj_size
  refine ⟨d, rfl, rfl, ⟨⟨?_, ?_⟩, fun b => Iff.rfl, fun b hf => by rw [hsz]; exact h.hF b hf, fun b hb => h.disj b (hown b hb), h.x.keep hsp hV⟩, hV,
    fun n => ⟨by rw [hsz]; exact Nat.le_refl _, fun b _ _ hs => hk b fun e => hs ⟨id, o, hid, ho, e.symm⟩, fun x v _ hx => hV x v hx, fun b hb => .inl (hown b hb), fun hn => by simpa [d, H'] using hn, same_set g1 rfl g2.nocells hn, fun b hb => .inl (ownedS_keep hsp hb)⟩⟩
  · intro i nl sz es hs hbk
    have hs' := (hget _ _ (by simp) hs).2
    obtain ⟨cells, elem, q1, q2, q3, q4, q5⟩ := h.hr.back i nl sz es hs' hbk
    have hne : c.ι i ≠ c.ι id := fun e => hB (by rw [← e]; exact ⟨i, nl, sz, es, hs', hbk, rfl⟩)
    refine ⟨cells, elem, (hk _ hne).trans q1, q2, q3, .inr ⟨i, nl, sz, es, hs, hbk, rfl⟩, fun q hq => ⟨(q5 q hq).1, fun j hj => ?_⟩⟩
    obtain ⟨u, hu, hv⟩ := (q5 q hq).2 j hj
    exact ⟨u, hu, hV _ _ hv⟩
  · intro i i' _ _ _ _ _ _ h1 h2 h3 h4 he hlt
    exact h.hr.inj i i' _ _ _ _ _ _ (hget _ _ (by simp) h1).2 h2 (hget _ _ (by simp) h3).2 h4 he hlt
theorem rfn_sound (henv : EnvOk P E) (hsnd : ∀ hs code, Snd P E ex (comp P hs code) code) {hs : List (Nat × Hint)} {g : Operand} {ps : Array Tmp} {asg body : Code} (hna : noRF asg = true) (hnb : noRF body = true)
    {lo : Nat → Prop} {F : Nat → Prop} {c : Ctx} {base : Nat} {s : St} {a : Act} (hfr : FR lo (fo P F) E.glob c s a) (hb : base ≤ c.H.length) {f : Nat} {cap : List AV}
    (hg : (cx g).ev E.glob s.tmps = .fn f cap) {u : AV} {H' : List Obj} (hr : cHF E.fns ex (some f) (.yld s.H.length :: cap) (s.H ++ [.lp .ready s.tmps ps.toList (comp P hs asg) (comp P hs body)]) = some (u, H'))
    {e : Ex} (he : lpEnd H' s.H.length = some e) {Q : Exit → Act → World → Prop}
    (hQ : ∀ d a', FR lo (fo P F) E.glob d ⟨s.tmps, H'.set s.H.length .dead⟩ a' → Fut base c d → Q (exitOf e) a' d.w) : (Code.rangeFunc g ps asg body).wpIn (wd none) 0 P Q a c.w := by
  have hH := hfr.hH
  have hent : ∀ args w, (callFunc f args).run P w = .ok (.enter f args) w := by
    have : ∃ rf, E.fns f = some rf := by
      unfold cHF at hr
      dsimp only at hr
      split at hr
      · rename_i rf hrf; exact ⟨rf, hrf⟩
      · simp at hr
    obtain ⟨rf, hrf⟩ := this
    obtain ⟨fn, hs, hf, hc⟩ := henv.fns f rf hrf
    obtain ⟨code, hb, hn, _⟩ := compF_some hc
    exact fun args w => run_enter hf hn hb args w
  have hgv := ev_V hfr.tr hfr.gl g
  rw [hg] at hgv
  generalize hgval : a.eval g = gv at hgv
  cases hgv with
  | fn _ _ vs hvs hcv =>
  refine wpIn_rangeFunc ?_
  intro fn hfn
  -- the mark and the record
  have w1 := grow_sound hfr.sr (.deferred (some [])) (by simp)
  have hD0 : (c.w.alloc (.deferred (some []))).heap[c.w.heap.size]? = some (.deferred (some [])) := (heap_alloc c.w _).1
  have hsz1 : (c.w.alloc (.deferred (some []))).heap.size = c.w.heap.size + 1 := World.size_alloc ..
  obtain ⟨d1, m1, m2, m3, m4, m5⟩ := madeS w1.1 (pl := c.H.length) (.inr rfl) (.lp .ready s.tmps ps.toList (comp P hs asg) (comp P hs body)) rfl
    (.loop { state := .ready, pending := none, fn, tmps := a.tmps, params := ps, assign := asg, body, defers := c.w.heap.size }) (by simp)
    (fun d hv => ⟨_, rfl, (hfr.tr.went w1.2.1).went hv, rfl, ⟨hs, rfl, hna⟩, ⟨hs, rfl, hnb⟩, rfl, rfl⟩)
  have hw01 : Went (fo P F) c d1 := w1.trans m3
  have hH1 : d1.H = s.H ++ [.lp .ready s.tmps ps.toList (comp P hs asg) (comp P hs body)] := by
    rw [m2]; unfold putObj; rw [if_neg (Nat.lt_irrefl _)]; rw [show ({ c with w := c.w.alloc (.deferred (some [])) } : Ctx).H = s.H from hH]
  have hlen1 : d1.H.length = s.H.length + 1 := by rw [hH1]; simp
  have hpl : c.H.length = s.H.length := by rw [hH]
  rw [hpl] at m4 m5
  have hblk : ({ c with w := c.w.alloc (.deferred (some [])) } : Ctx).w.heap.size = c.w.heap.size + 1 := hsz1
  rw [hblk] at m4 m5
  rw [← hH1] at hr
  have hD1 : d1.w.heap[c.w.heap.size]? = some (.deferred (some [])) := by
    rw [m1]; exact ((heap_alloc _ _).2 _ (by rw [hblk]; omega)).trans hD0
  have hszd1 : d1.w.heap.size = c.w.heap.size + 2 := by rw [m1, World.size_alloc, hblk]
  refine ⟨c.w.heap.size + 1, [{ target := .collected c.w.heap.size, args := #[] }], d1.w, { target := .fn (.func f) vs, args := #[.func (.yield (c.w.heap.size + 1)) #[] #[]] }, d1.w, f,
    #[.func (.yield (c.w.heap.size + 1)) #[] #[]] ++ vs, d1.w, ?_, ?_, fun _ _ => trivial, ?_, fun h => by simp [wd, Fence.wide] at h, ?_⟩
  · rw [m1]; exact run_enterLoop_outer _ _ _ _ _
  · simp only [resolve, hgval]
    simp [go_sem]
  · simp [invoke, go_sem, hent]
  have hcall := cH_sound henv hsnd (c := d1) (vs := (.func (.yield (c.w.heap.size + 1)) #[] #[]) :: vs.toList) hr m3.1 (hfr.gl.fut henv.glob (hw01.2.2 0)) (by simp [hvs]) (fun i hi hj => by
    cases i with
    | zero => exact .yld _ _ m4
    | succ i => exact hw01.2.1 _ _ (hcv i (by simpa using hi) (by simpa using hj)))
  have harr : ((Value.func (.yield (c.w.heap.size + 1)) #[] #[]) :: vs.toList).toArray = #[.func (.yield (c.w.heap.size + 1)) #[] #[]] ++ vs := by apply Array.ext'; simp
  rw [harr] at hcall
  refine (wd_calls (ρ := none) (n := 0) hcall).mono ?_
  rintro ev w2 ⟨v, d, rfl, rfl, h1, h2, h3, _⟩
  -- behind
  obtain ⟨t', ps', asg', body', st, hid, hst⟩ : ∃ t' ps' asg' body' st, d.H[s.H.length]? = some (.lp st t' ps' asg' body') ∧ (st = .ready ∧ e = .normal ∨ st = .done e) := by
    rw [h1]
    unfold lpEnd at he
    split at he
    · rename_i hq; injection he with he; exact ⟨_, _, _, _, _, hq, .inl ⟨rfl, he.symm⟩⟩
    · rename_i hq; injection he with he; subst he; exact ⟨_, _, _, _, _, hq, .inr rfl⟩
    · simp at he
  have hbd : c.w.heap.size + 1 = d.ι s.H.length := h3.same_blk (by rw [hlen1]; omega) m4 hid rfl
  obtain ⟨wo, g1, r, rfl, _, _, _, _, g6⟩ := h2.x.xr _ _ hid rfl
  rw [← hbd] at g1
  have hnb : r.state ≠ .busy := by
    rcases hst with ⟨rfl, _⟩ | rfl
    · intro q; have := g6.1; rw [this] at q; cases q
    · intro q; have := g6.1; rw [this] at q; cases q
  obtain ⟨d2, n1, n2, n3⟩ := drop_sound h2 hid rfl (.loop { r with state := .exhausted }) (by simp)
  rw [← hbd] at n1
  have hf1 : Fut c.H.length c d1 := hw01.2.2 _
  have hf2 : Fut c.H.length d1 d2 := Fut.trans ⟨h3.size, h3.keep, fun x v hx => h3.vals x v (bel_mono (by rw [hlen1, hpl]; omega) x hx), h3.owned, fun _ => by have := h3.len (Nat.le_refl _); omega, h3.same, h3.ownedS⟩ (n3.2.2 _)
  have hfut : Fut c.H.length c d2 := hf1.trans hf2
  have hfutb : Fut base c d2 := ⟨hfut.size, hfut.keep, fun x v hx => hfut.vals x v (bel_mono hb x hx), hfut.owned, fun _ => Nat.le_trans hb (hfut.len (Nat.le_refl _)), hfut.same, hfut.ownedS⟩
  have hDd : d2.w.heap[c.w.heap.size]? = some (.deferred (some [])) := by
    rw [hf2.keep _ (by rw [hszd1]; omega) ?_ ?_, hD1]
    · rintro ⟨id, nl, sz, es, q1, q2, q3⟩
      obtain ⟨cells, elem, q4, _⟩ := m3.1.hr.back id nl sz es q1 q2
      rw [q3, hD1] at q4; simp at q4
    · rintro ⟨id, o, q1, q2, q3⟩
      obtain ⟨wo, q4, q5⟩ := m3.1.x.xr id o q1 q2
      rw [q3, hD1] at q4; injection q4 with q4
      exact q5.nodef _ q4.symm
  have hfr2 : FR lo (fo P F) E.glob d2 ⟨s.tmps, H'.set s.H.length .dead⟩ { a with defers := [{ target := .collected c.w.heap.size, args := #[] }] ++ a.defers } := by
    refine ⟨n3.1, ⟨hfr.tr.1, fun i hi hj => hfut.vals _ _ ((hfr.tr.2 i hi hj).bel) (hfr.tr.2 i hi hj)⟩, by rw [n2, h1], ?_, hfr.gl.fut henv.glob hfut⟩
    obtain ⟨hlo, Ds, k1, k2, k3⟩ := hfr.df
    obtain ⟨hlo5, Ds5, _, _, _⟩ := hfr.df.fut hfr.sr hfut
    refine ⟨hlo5, c.w.heap.size :: Ds, ?_, ?_, ?_⟩
    · rw [List.nodup_cons]
      refine ⟨fun h => ?_, k1⟩
      have := (k3 _ h).2
      rw [Array.getElem?_eq_none (Nat.le_refl _)] at this
      simp at this
    · rw [List.map_cons, ← k2]; rfl
    · intro D' hD'
      rcases List.mem_cons.1 hD' with rfl | hD'
      · exact ⟨hlo _ (Nat.le_refl _), hDd⟩
      · have h3 := (k3 D' hD').2
        have hlt : D' < c.w.heap.size := (Array.getElem?_eq_some_iff.1 h3).1
        refine ⟨(k3 D' hD').1, (hfut.keep D' hlt ?_ ?_).trans h3⟩
        · rintro ⟨id, nl, sz, es, q1, q2, q3⟩
          obtain ⟨cells, elem, q4, _⟩ := hfr.sr.hr.back id nl sz es q1 q2
          rw [q3, h3] at q4; simp at q4
        · rintro ⟨id, o, q1, q2, q3⟩
          obtain ⟨wo, q4, q5⟩ := hfr.sr.x.xr id o q1 q2
          rw [q3, h3] at q4; injection q4 with q4
          exact q5.nodef _ q4.symm
  refine ⟨r.pending, _, run_endLoop (P := P) g1 hnb, ?_⟩
  rw [← n1]
  rcases hst with ⟨rfl, rfl⟩ | rfl
  · rw [g6.2]
    exact hQ d2 _ hfr2 hfutb
  · rw [g6.2.1]
    cases e with
    | normal => exact (g6.2.2 rfl).elim
    | ret => exact wpIn_ret (hQ d2 _ hfr2 hfutb)
    | exit i => exact wpIn_exit (hQ d2 _ hfr2 hfutb)
end
end Go.Am
