/- A round of a loop over a function: what the machine says of it, the program does. Condition: the environment is the program's. -/
import Derived.Test.YtafgdbaekppjcaaGreatDoorAmW
set_option linter.unusedSectionVars false
set_option linter.unusedVariables false
set_option linter.unusedSimpArgs false
namespace Go.Am
section
variable {P : Program} {E : Env} {ex : EX}
theorem TR_putP {c : Ctx} : ∀ (ps : List Nat) (xs : List AV) (vs : List Value) {t : List AV} {ts : Array Value}, TR c t ts → xs.length = ps.length → vs.length = ps.length → (∀ i (hi : i < xs.length) (hj : i < vs.length), V c xs[i] vs[i]) →
    TR c (putP ps xs t) ((ps.zip vs).foldl (fun t (p, v) => t.setIfInBounds p v) ts)
  | [], [], [], _, _, h, _, _, _ => by simpa [putP] using h
  | p :: ps, x :: xs, v :: vs, t, ts, h, h1, h2, hv => by
    rw [putP, List.zip_cons_cons, List.foldl_cons]
    refine TR_putP ps xs vs ?_ (by simpa using h1) (by simpa using h2) (fun i hi hj => hv (i + 1) (by simpa using hi) (by simpa using hj))
    refine ⟨by simp [h.1], fun i hi hj => ?_⟩
    have hx := hv 0 (by simp) (by simp)
    by_cases hd : p = i
    · subst hd
      have e1 : (t.set p x)[p]'hi = x := by simp
      have e2 : (ts.setIfInBounds p v)[p]'hj = v := by simp
      rw [e1, e2]; exact hx
    · have e1 : (t.set p x)[i]'hi = t[i]'(by simpa using hi) := by rw [List.getElem_set_ne hd]
      have hj' : i < (ts.setIfInBounds p v).size := hj
      have e2 : (ts.setIfInBounds p v)[i]'hj' = ts[i]'(by simpa using hj') := by rw [Array.getElem_setIfInBounds_ne (by simpa using hj') hd]
      show V c ((t.set p x)[i]'hi) ((ts.setIfInBounds p v)[i]'hj')
      rw [e1, e2]; exact h.2 i _ _
  | [], _ :: _, _, _, _, _, h1, _, _ => by simp at h1
  | [], [], _ :: _, _, _, _, _, h2, _ => by simp at h2
  | _ :: _, [], _, _, _, _, h1, _, _ => by simp at h1
  | _ :: _, _ :: _, [], _, _, _, _, h2, _ => by simp at h2
theorem lpSet_sound {F : Fo} {c : Ctx} (h : SR F c) {x y : Ls} {l : Nat} {H' : List Obj} (hs : lpSet x y c.H l = some H') :
    ∃ r : Loop, c.w.heap[c.ι l]? = some (.loop r) ∧ LsR x r.state r.pending ∧ ∀ r' : Loop, r'.tmps = r.tmps → r'.params = r.params → r'.assign = r.assign → r'.body = r.body → LsR y r'.state r'.pending →
      ∃ d : Ctx, d.w = c.w.putObj (c.ι l) (.loop r') ∧ d.H = H' ∧ Went F c d ∧ d.ι l = c.ι l := by
  unfold lpSet at hs
  split at hs
  case h_2 => simp at hs
  rename_i s t ps asg body hid
  split at hs
  case isFalse => simp at hs
  rename_i hsx
  subst hsx
  injection hs with hs; subst hs
  obtain ⟨wo, g1, r, rfl, g2, g3, g4, g5, g6⟩ := h.x.xr l _ hid rfl
  refine ⟨r, g1, g6, fun r' e1 e2 e3 e4 e5 => ?_⟩
  exact setS h hid rfl (.lp y t ps asg body) rfl (.loop r') _ rfl (by simp) fun d hv => ⟨r', rfl, by rw [e1]; exact g2.went hv, by rw [e2]; exact g3, by rw [e3]; exact g4, by rw [e4]; exact g5, e5⟩
theorem Fut.same_blk {n : Nat} {c d : Ctx} (h : Fut n c d) {l b : Nat} (hl : l < n) (hb : SV c l b) {o : Obj} (hid : d.H[l]? = some o) (ho : o.sp = true) : b = d.ι l := by
  have := h.vals (.yld l) (.func (.yield b) #[] #[]) (by simpa [AV.bel] using hl) (.yld l b hb)
  cases this with
  | yld _ _ hs => exact hs.2 o hid ho
theorem rnd_sound (henv : EnvOk P E) (hsnd : ∀ hs code, Snd P E ex (comp P hs code) code) {F : Nat → Prop} {c : Ctx} (hsr : SR (fo P F) c) (hgl : Glob c E.glob) {l b : Nat} (hb : SV c l b) {xs : List AV} {vs : Array Value} (hl : vs.size = xs.length)
    (hv : ∀ i (hi : i < xs.length) (hj : i < vs.size), V c xs[i] vs[i]) {v : AV} {H' : List Obj} (hr : rnd ex (.yld l :: xs) c.H = some (v, H')) :
    ∃ fn tmps asg body, (Instr.yield b vs).run P c.w = .ok (.round b fn tmps asg body) c.w ∧
      RoundIn Fence.wide 0 P b fn tmps asg body c.w fun e w' => ∃ u, ∃ d : Ctx, e = .returned u ∧ d.w = w' ∧ d.H = H' ∧ SR (fo P F) d ∧ Fut c.H.length c d ∧ V d v u := by
  unfold rnd at hr
  dsimp only at hr
  split at hr
  case h_2 => simp at hr
  rename_i t ps asg body hid
  split at hr
  case isFalse => simp at hr
  rename_i hxl
  split at hr
  case h_2 => simp at hr
  rename_i s1 hex1
  split at hr
  case h_2 => simp at hr
  rename_i H1 hH1
  have hll : l < c.H.length := lt_of_some hid
  have hbl := hb.2 _ hid rfl
  obtain ⟨wo, g1, r, rfl, g2, g3, ⟨hs1, ha1, ha2⟩, ⟨hs2, hb1, hb2⟩, g6⟩ := hsr.x.xr l _ hid rfl
  rw [← hbl] at g1
  have hpsz : vs.size = r.params.size := by rw [hl, hxl, ← g3]; simp
  refine ⟨r.fn, _, r.assign, r.body, run_yield (P := P) g1 hpsz, roundIn_of_wpIn trivial ?_⟩
  subst ha1; subst hb1
  have htr : TR c (putP ps xs t) ((r.params.zip vs).foldl (fun t (p, v) => t.setIfInBounds p v) r.tmps) := by
    have := TR_putP (c := c) ps xs vs.toList g2 hxl (by simp; omega) (fun i hi hj => hv i hi (by simpa using hj))
    rw [← Array.foldl_toList, Array.toList_zip, g3]
    exact this
  have hfr0 : FR (fun _ => True) (fo P F) E.glob c ⟨putP ps xs t, c.H⟩ { tmps := (r.params.zip vs).foldl (fun t (p, v) => t.setIfInBounds p v) r.tmps, defers := [] } := ⟨hsr, htr, rfl, Marks.nil (fun _ _ => trivial), hgl⟩
  refine hsnd hs1 r.assign (some b) (.inr ha2) (fun _ => True) _ c c.H.length _ .normal s1 _ hfr0 (Nat.le_refl _) hex1 _ fun d1 a1 hd1 hf1 => ?_
  have hH1' := hd1.hH
  rw [← hH1'] at hH1
  obtain ⟨r1, k1, k2, k3⟩ := lpSet_sound hd1.sr hH1
  have hob : ∃ o, d1.H[l]? = some o ∧ o.sp = true := by
    unfold lpSet at hH1
    split at hH1
    · rename_i hq; exact ⟨_, hq, rfl⟩
    · simp at hH1
  obtain ⟨o1, hid1, ho1⟩ := hob
  have hb1' : b = d1.ι l := hf1.same_blk hll hb hid1 ho1
  rw [← hb1'] at k1
  refine ⟨_, run_beginRound (P := P) k1 k2.1, ?_⟩
  obtain ⟨d2, q1, q2, q3, q4⟩ := k3 { r1 with state := .busy } rfl rfl rfl rfl rfl
  rw [← hb1'] at q1 q4
  have hgl2 : Glob d2 E.glob := hd1.gl.fut henv.glob (q3.2.2 0)
  have hfr2 : FR (fun _ => True) (fo P F) E.glob d2 ⟨s1.tmps, H1⟩ a1 := ⟨q3.1, hd1.tr.went q3.2.1, q2, hd1.df.fut hd1.sr (q3.2.2 0), hgl2⟩
  have hlen2 : c.H.length ≤ d2.H.length := (q3.2.2 _).len (hf1.len (Nat.le_refl _))
  rw [← q1]
  have hb2' : SV d2 l b := by
    have := (hf1.trans (q3.2.2 c.H.length)).vals (.yld l) (.func (.yield b) #[] #[]) (by simpa [AV.bel] using hll) (.yld l b hb)
    cases this with
    | yld _ _ hs => exact hs
  obtain ⟨e2, s2, hex2, H2, y, hH2, hy, hvy, hH2'⟩ : ∃ e2 s2, ex (comp P hs2 r.body) c.H.length ⟨s1.tmps, H1⟩ = some (e2, s2) ∧ ∃ H2 y, lpSet .busy y s2.H l = some H2 ∧ y = (match e2 with | .normal => .ready | e => .done e) ∧ v = .bool (match e2 with | .normal => true | _ => false) ∧ H2 = H' := by
    split at hr
    · rename_i s2 h2
      split at hr
      case h_2 => simp at hr
      rename_i H2 hH2
      simp only [Option.some.injEq, Prod.mk.injEq] at hr
      exact ⟨.normal, s2, h2, H2, _, hH2, rfl, hr.1.symm, hr.2⟩
    · rename_i e2 s2 hne h2
      split at hr
      case h_2 => simp at hr
      rename_i H2 hH2
      simp only [Option.some.injEq, Prod.mk.injEq] at hr
      cases e2 with
      | normal => exact (hne rfl).elim
      | exit i => exact ⟨.exit i, s2, h2, H2, _, hH2, rfl, hr.1.symm, hr.2⟩
      | ret => exact ⟨.ret, s2, h2, H2, _, hH2, rfl, hr.1.symm, hr.2⟩
    · simp at hr
  subst hH2'
  refine hsnd hs2 r.body (some b) (.inr hb2) (fun _ => True) _ d2 c.H.length _ e2 s2 a1 hfr2 hlen2 hex2 _ fun d3 a3 hd3 hf3 => ?_
  rw [← hd3.hH] at hH2
  obtain ⟨r3, m1, m2, m3⟩ := lpSet_sound hd3.sr hH2
  have hob : ∃ o, d3.H[l]? = some o ∧ o.sp = true := by
    unfold lpSet at hH2
    split at hH2
    · rename_i hq; exact ⟨_, hq, rfl⟩
    · simp at hH2
  obtain ⟨o3, hid3, ho3⟩ := hob
  have hb3' : b = d3.ι l := hf3.same_blk hll hb2' hid3 ho3
  rw [← hb3'] at m1
  have fin : ∀ jump : Option Code, LsR y (if jump.isNone then .ready else .done) jump → v = .bool jump.isNone → ∃ v' w', (Instr.endRound b jump).run P d3.w = .ok v' w' ∧ ∃ u, ∃ d : Ctx, Ending.returned v' = .returned u ∧ d.w = w' ∧ d.H = H2 ∧ SR (fo P F) d ∧ Fut c.H.length c d ∧ V d v u := by
    intro jump hst hvj
    obtain ⟨d4, n1, n2, n3, _⟩ := m3 { r3 with state := if jump.isNone then .ready else .done, pending := jump } rfl rfl rfl rfl hst
    rw [← hb3'] at n1
    refine ⟨_, _, run_endRound (P := P) jump m1, _, d4, rfl, n1, n2, n3.1, ?_, by rw [hvj]; exact .bool _⟩
    exact ((hf1.trans (q3.2.2 _)).trans hf3).trans (n3.2.2 _)
  cases e2 with
  | normal => exact fin none (by rw [hy]; exact ⟨rfl, rfl⟩) hvy
  | ret => exact fin (some .ret) (by rw [hy]; exact ⟨rfl, rfl, by simp⟩) hvy
  | exit i => exact fin (some (.exit i)) (by rw [hy]; exact ⟨rfl, rfl, by simp⟩) hvy
end
end Go.Am
