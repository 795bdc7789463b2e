/- A function that yields: its pieces between the yields, by the machine. Condition: the environment is the program's. -/
import Derived.Test.YtiicggigpcfefaaAmWr
namespace Go.Am.As
section
variable {P : Program} {E : Env} {hp : Nat → Bool}

def mk (D : Nat) : Deferred := { target := .collected D, args := #[] }

/-- the frame of a function that yields: O are the blocks of the one that ranges, Ds marks of loops -/
structure FT (O : Nat → Prop) (G : Nat → List AV) (c : Ctx) (τ : T) (H : List Obj) (a : Act) (Ds : List Nat) : Prop where
  ex : ∃ l, Rel τ l ∧ TR c l a.tmps
  sr : SR O c
  hH : c.H = H
  gl : Glob c G
  nd : Ds.Nodup
  df : a.defers = Ds.map mk
  mks : ∀ D ∈ Ds, ¬ O D ∧ c.w.heap[D]? = some (.deferred (some []))

/-- the blocks of the function -/
def Mine (c : Ctx) (Ds : List Nat) (b : Nat) : Prop := Owned c.H c.ι b ∨ b ∈ Ds

theorem lt_heap {w : World} {b : Nat} {o : Go.Obj} (h : w.heap[b]? = some o) : b < w.heap.size := by
  rcases Nat.lt_or_ge b w.heap.size with e | e
  · exact e
  · rw [Array.getElem?_eq_none e] at h; simp at h

theorem FT.lt {O G c τ H a Ds} (h : FT O G c τ H a Ds) : ∀ b, Mine c Ds b → b < c.w.heap.size := fun b hb =>
  hb.elim (fun h' => (owned_cells h.sr.hr h').1) (fun h' => lt_heap (h.mks b h').2)

theorem FT.fr {O G c τ H a Ds} (h : FT O G c τ H a Ds) : ∃ l, Rel τ l ∧ FR (fun b => ¬ O b ∧ (b ∈ Ds ∨ c.w.heap.size ≤ b)) O G c ⟨l, H⟩ a := by
  obtain ⟨l, h1, h2⟩ := h.ex
  refine ⟨l, h1, h.sr, h2, h.hH, ⟨fun b hb => ⟨fun ho => ?_, .inr hb⟩, Ds, h.nd, h.df, fun D hD => ⟨⟨(h.mks D hD).1, .inl hD⟩, (h.mks D hD).2⟩⟩, h.gl⟩
  have := h.sr.hF b ho; omega

theorem FT.of {O G c τ H a} {lo : Nat → Prop} {l : List AV} (hr : Rel τ l) (hfr : FR lo O G c ⟨l, H⟩ a) (hlo : ∀ b, lo b → ¬ O b) : ∃ Ds, FT O G c τ H a Ds ∧ ∀ D ∈ Ds, lo D := by
  obtain ⟨_, Ds, m1, m2, m3⟩ := hfr.df
  exact ⟨Ds, ⟨⟨l, hr, hfr.tr⟩, hfr.sr, hfr.hH, hfr.gl, m1, m2, fun D hD => ⟨hlo D (m3 D hD).1, (m3 D hD).2⟩⟩, fun D hD => (m3 D hD).1⟩

/-- what the one that ranges knows, behind steps of the function -/
theorem mine_step {O : Nat → Prop} {G} {c d : Ctx} {τ τ' : T} {H H' : List Obj} {a a' : Act} {Ds Ds' : List Nat} (h : FT O G c τ H a Ds) (h' : FT O G d τ' H' a' Ds') (hf : Fut 0 c d) (hD : ∀ D ∈ Ds', D ∈ Ds ∨ c.w.heap.size ≤ D) :
    Moved (Mine c Ds) c.w d.w ∧ (∀ b, Mine d Ds' b → Mine c Ds b ∨ c.w.heap.size ≤ b) ∧ ∀ b, Mine d Ds' b → b < d.w.heap.size :=
  ⟨hf.moved fun b hb => .inl hb, fun b hb => hb.elim (fun e => (hf.owned b e).imp .inl id) (fun e => (hD b e).imp .inr id), h'.lt⟩

theorem FT.piece (henv : EnvOk P E) {O : Nat → Prop} {c : Ctx} {τ : T} {H : List Obj} {a : Act} {Ds : List Nat} (h : FT O E.glob c τ H a Ds) {hs : List (Nat × Hint)} {code : Code} {rc : RC} (hc : comp P hs code = rc)
    {N : ST → Prop} {X : Nat → ST → Prop} {R : ST → Prop} (hw : W E hp rc 0 N X R ⟨τ, H⟩) {Q : Exit → Act → World → Prop}
    (hQ : ∀ d a' e σ Ds', FT O E.glob d σ.tmps σ.H a' Ds' → Fut 0 c d → (∀ D ∈ Ds', D ∈ Ds ∨ c.w.heap.size ≤ D) → (match e with | .normal => N σ | .exit i => X i σ | .ret => R σ) → Q (exitOf e) a' d.w) :
    code.wpIn (wd none) 0 P Q a c.w := by
  subst hc
  obtain ⟨n, e, σ, hex, q⟩ := hw
  obtain ⟨l, hr, hfr⟩ := h.fr
  obtain ⟨s', hex', hr'⟩ := execT_sound E hp n (comp P hs code) 0 ⟨τ, H⟩ ⟨l, H⟩ e σ ⟨hr, rfl⟩ hex
  refine (exec_sound henv n).2 hs code none (.inl rfl) _ O c 0 ⟨l, H⟩ e s' a hfr (Nat.zero_le _) hex' Q fun d a' hd hfut => ?_
  obtain ⟨Ds', h1, h2⟩ := FT.of (lo := fun b => ¬ O b ∧ (b ∈ Ds ∨ c.w.heap.size ≤ b)) (H := σ.H) hr'.1 (by rw [hr'.2]; exact hd) fun b hb => hb.1
  cases e <;> exact hQ d a' _ σ Ds' h1 hfut (fun D hD => (h2 D hD).2) q

theorem FT.ops (henv : EnvOk P E) {O : Nat → Prop} {c : Ctx} {τ : T} {H : List Obj} {a : Act} {Ds : List Nat} (h : FT O E.glob c τ H a Ds) {ops : Array Oper} {rl : List ROp} (hrl : ops.toList.map (compOper P ops) = rl)
    (pre l2 : List Nat) (hpre : ∀ i ∈ pre, i < ops.size) {os : List ROp} (hos : (pre.map fun i => rl.getD i default) = os) {K : T → List Obj → Prop} (hw : WO E hp false os τ H K) {Q : Exit → Act → World → Prop}
    (hQ : ∀ d a' τ' H' Ds', FT O E.glob d τ' H' a' Ds' → Fut 0 c d → (∀ D ∈ Ds', D ∈ Ds ∨ c.w.heap.size ≤ D) → K τ' H' → wpOpsIn (wd none) 0 P ops Q l2 a' d.w) :
    wpOpsIn (wd none) 0 P ops Q (pre ++ l2) a c.w := by
  subst hos
  obtain ⟨n, t', H', hex, q⟩ := hw
  obtain ⟨l, hr, hfr⟩ := h.fr
  obtain ⟨l', hex', hr'⟩ := runOpsT_sound E.glob hp (cIT_le E.fns (execT_sound E hp n)) (cHT_le E.fns (execT_sound E hp n)) _ hr hex
  refine ops_sound henv (exec_sound henv n).2 (.inl rfl) ops rl l2 pre (fun i hi => ⟨hpre i hi, ?_⟩) hfr (Nat.zero_le _) hex' fun d a' hd hfut => ?_
  · have := hpre i hi
    rw [← hrl, List.getD_eq_getElem?_getD, List.getElem?_eq_getElem (by simpa using this)]
    simp
  obtain ⟨Ds', h1, h2⟩ := FT.of (lo := fun b => ¬ O b ∧ (b ∈ Ds ∨ c.w.heap.size ≤ b)) hr' hd fun b hb => hb.1
  exact hQ d a' t' H' Ds' h1 hfut (fun D hD => (h2 D hD).2) q

theorem FT.ghost (henv : EnvOk P E) {O : Nat → Prop} {c : Ctx} {τ : T} {H : List Obj} {a : Act} {Ds : List Nat} (h : FT O E.glob c τ H a Ds) {gs : List GA} {σ : ST} (hg : ghostsT 0 gs ⟨τ, H⟩ = some σ) :
    ∃ d Ds', d.w = c.w ∧ FT O E.glob d σ.tmps σ.H a Ds' ∧ Fut 0 c d ∧ ∀ D ∈ Ds', D ∈ Ds ∨ c.w.heap.size ≤ D := by
  obtain ⟨l, hr, hfr⟩ := h.fr
  obtain ⟨s', hg', hr'⟩ := ghostsT_sound gs (s := ⟨l, H⟩) ⟨hr, rfl⟩ hg
  obtain ⟨d, h1, h2, h3⟩ := ghosts_sound henv.glob gs hfr hg'
  obtain ⟨Ds', h4, h5⟩ := FT.of (lo := fun b => ¬ O b ∧ (b ∈ Ds ∨ c.w.heap.size ≤ b)) (H := σ.H) hr'.1 (by rw [hr'.2]; exact h2) fun b hb => hb.1
  exact ⟨d, Ds', h1, h4, h3, fun D hD => (h5 D hD).2⟩

theorem W_ghost {gs : List GA} {N : ST → Prop} {X : Nat → ST → Prop} {R : ST → Prop} {s : ST} (h : W E hp (.gh [] .skip gs) 0 N X R s) : ∃ σ, ghostsT 0 gs s = some σ ∧ N σ := by
  obtain ⟨n, e, σ, hex, q⟩ := h
  cases n with
  | zero => simp [execT] at hex
  | succ n =>
    cases n with
    | zero => simp [execT, ghostsT] at hex
    | succ n =>
      simp only [execT, ghostsT] at hex
      split at hex
      case h_2 => simp at hex
      rename_i σ' hσ
      simp only [Option.some.injEq, Prod.mk.injEq] at hex
      obtain ⟨rfl, rfl⟩ := hex
      exact ⟨σ', hσ, q⟩

/-- others have moved -/
theorem FT.turn {O O' : Nat → Prop} {G} {c : Ctx} {τ : T} {H : List Obj} {a : Act} {Ds : List Nat} (h : FT O G c τ H a Ds) {w' : World} (hm : Moved O c.w w') (hO : ∀ b, O' b → O b ∨ c.w.heap.size ≤ b) (hlt : ∀ b, O' b → b < w'.heap.size) :
    FT O' G (turned c O' w') τ H a Ds := by
  obtain ⟨sr2, v2⟩ := ctx_turn (F2 := O') h.sr hm (fun b h => .inl h) hO hlt
  obtain ⟨l, h1, h2⟩ := h.ex
  refine ⟨⟨l, h1, h2.1, fun i hi hj => v2 _ _ (h2.2 i hi hj)⟩, sr2, h.hH, fun g => v2 _ _ (h.gl g), h.nd, h.df, fun D hD => ?_⟩
  have hD' := h.mks D hD
  have := lt_heap hD'.2
  refine ⟨fun ho => (hO D ho).elim hD'.1 (fun e => by omega), (hm.keep D this hD'.1).trans hD'.2⟩

/-- the value of a slot -/
theorem FT.slot {O : Nat → Prop} {G} {c : Ctx} {τ : T} {H : List Obj} {a : Act} {Ds : List Nat} (h : FT O G c τ H a Ds) (y : Operand) : V c (evT G τ (cx y)) (a.eval y) := by
  obtain ⟨l, h1, h2⟩ := h.ex
  rw [h1.ev]
  exact ev_V h2 h.gl y

theorem FT.put {O : Nat → Prop} {G} {c : Ctx} {τ : T} {H : List Obj} {a : Act} {Ds : List Nat} (h : FT O G c τ H a Ds) (d : Option Nat) {x : AV} {v : Value} (hv : V c x v) : FT O G c (putD τ d x) H (a.put d v) Ds := by
  obtain ⟨l, h1, h2⟩ := h.ex
  exact ⟨⟨_, h1.putD d x, h2.put d hv⟩, h.sr, h.hH, h.gl, h.nd, by rw [put_defers]; exact h.df, h.mks⟩

/-- the operation that yields -/
theorem FT.yield {O : Nat → Prop} {G} {c : Ctx} {τ : T} {H : List Obj} {a : Act} {Ds : List Nat} (h : FT O G c τ H a Ds) {ops : Array Oper} {i lid : Nat} {rest : List Nat} {o : Oper} {cl : Call} {y : Operand}
    (ho : ops[i]? = some o) (hg : o.guard = none) (hop : o.op = .call cl) (hcal : cl.callee = .value y) (hy : evT G τ (cx y) = .yld lid) {Q : Exit → Act → World → Prop} {R : Ending → World → Prop}
    (hY : YieldAt Fence.wide 0 P lid (cl.args.map a.eval) c.w R) (hR : ∀ e w', R e w' → ∃ v, e = .returned v ∧ wpOpsIn (wd none) 0 P ops Q rest (a.put o.dst v) w') :
    wpOpsIn (wd none) 0 P ops Q (i :: rest) a c.w := by
  have hyv := h.slot y
  rw [hy] at hyv
  generalize hyv' : a.eval y = yv at hyv
  cases hyv
  obtain ⟨fn, tmps, assign, body, hrun, hround⟩ := hY
  have hwant : Region.wanted o (yielded ops a.tmps) = true := by simp [Region.wanted, hg]
  simp only [wpOpsIn, ho, hwant, if_true, Oper.wpIn]
  refine ⟨fun _ _ => trivial, ?_⟩
  have hs : (o.semAt (wd none).round a.eval).run P c.w = .ok (.round lid fn tmps assign body) c.w := by
    show (execOp a.eval o).run P c.w = _
    rw [← hrun]
    simp only [execOp, hop, resolve, hcal, hyv', Deferred.ofValue]
    simp [invoke]
  rw [hs, Oper.uponIn_round]
  refine ⟨fun h => by simp [wd, Fence.wide] at h, hround.mono ?_⟩
  intro e w' hr
  obtain ⟨v, rfl, h'⟩ := hR e w' hr
  exact h'

/-- the end: marks are shut -/
theorem FT.leave {O : Nat → Prop} {G} {c : Ctx} {τ : T} {H : List Obj} {a : Act} {Ds : List Nat} (h : FT O G c τ H a Ds) {fn : Func} (hres : fn.results = #[]) {R : Ending → World → Prop}
    (hR : ∀ w', Moved (Mine c Ds) c.w w' → w'.heap.size = c.w.heap.size → R (.returned (.tuple #[])) w') : LeavesInM Fence.wide 0 P fn a.tmps R a.defers .returning c.w := by
  rw [h.df]
  refine leaves_marks Ds c.w h.nd (fun D hD => (h.mks D hD).2) fun w' hs hk => ⟨_, results_none hres _ _ _, hR w' ⟨Nat.le_of_eq hs.size.symm, fun b _ hn => (hk b).elim id fun hD => (hn (.inr hD)).elim, hs.same⟩ hs.size⟩

end
end Go.Am.As
