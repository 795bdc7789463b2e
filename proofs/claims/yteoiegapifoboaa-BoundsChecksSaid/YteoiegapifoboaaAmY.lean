/- THE ABSTRACT MACHINE IS SOUND: what it computes, the program's code and calls do, in whatever memory and order. Condition: the environment is the program's. -/
import Derived.Test.YteoiegapifoboaaAmX
namespace Go.Am
section
variable {P : Program} {E : Env} {hp : Nat → Bool}

theorem sched_mem {ops : Array Oper} {rops : List ROp} (hd : drawOk ops rops = true) (mixed : Bool) (τ : Nat) : ∀ i ∈ Region.schedule mixed ops τ, i < ops.size := by
  simp only [drawOk, Bool.and_eq_true] at hd
  obtain ⟨⟨⟨h1, h2⟩, h3⟩, h4⟩ := hd
  unfold Region.schedule
  intro i hi
  split at hi
  · exact ((lin_ok (ranked_of h1) _).2.1 i).1 hi
  · split at hi
    · exact ((lin_ok (ranked_of h2) _).2.1 i).1 hi
    · exact ((lin_ok (ranked_of h3) _).2.1 i).1 hi

theorem sched_memW {ops : Array Oper} {rops : List ROp} {ps : List (Nat × Nat)} (hd : drawOkW ops rops ps = true) (mixed : Bool) (τ : Nat) : ∀ i ∈ Region.schedule mixed ops τ, i < ops.size := by
  simp only [drawOkW, Bool.and_eq_true] at hd
  obtain ⟨⟨⟨h1, h2⟩, h3⟩, h4⟩ := hd
  unfold Region.schedule
  intro i hi
  split at hi
  · exact ((lin_ok (ranked_of h1) _).2.1 i).1 hi
  · split at hi
    · exact ((lin_ok (ranked_of h2) _).2.1 i).1 hi
    · exact ((lin_ok (ranked_of h3) _).2.1 i).1 hi

theorem places_ops : ∀ (k : Nat) (rops : List ROp), (places k rops).map (·.2) = rops
  | _, [] => rfl
  | k, o :: os => by simp only [places, List.map_cons, places_ops]

theorem hint_sound {n : Nat} {r : RC} {code : Code} (h : Hint) (hG : ∀ g, AV.bels 0 (E.glob g) = true) (h1 : Snd P E (exec E hp (n + 1)) r code) (h0 : Snd P E (exec E hp n) r code) :
    Snd P E (exec E hp (n + 1)) (withHint h r) code := by
  unfold withHint
  split
  · exact h1
  · intro F c base s e s' a hfr hb hex Q hQ
    simp only [exec] at hex
    split at hex
    case h_2 => simp at hex
    rename_i s0 hs0
    obtain ⟨d, d1, d2, d3⟩ := ghosts_sound hG h.pre hfr hs0
    have hb' : base ≤ d.H.length := d3.len hb
    split at hex
    · rename_i s1 hs1
      split at hex
      case h_2 => simp at hex
      rename_i s2 hs2
      simp only [Option.some.injEq, Prod.mk.injEq] at hex
      obtain ⟨rfl, rfl⟩ := hex
      rw [← d1]
      refine h0 F d base s0 .normal s1 a d2 hb' hs1 Q fun d' a' hd' hfut => ?_
      obtain ⟨d'', e1, e2, e3⟩ := ghosts_sound hG h.post hd' hs2
      rw [← e1]
      exact hQ d'' a' e2 ((d3.trans hfut).trans e3)
    · rename_i r' hne
      rw [← d1]
      exact h0 F d base s0 e s' a d2 hb' hex Q fun d' a' hd' hfut => hQ d' a' hd' (d3.trans hfut)

def inner (P : Program) (hs : List (Nat × Hint)) : Code → RC
  | .region _ ops dr =>
    if dr then compDraw ops (ops.toList.map (compOper P ops))
       else .reg (ops.toList.map (compOper P ops))
  | .cond c a b => .cond (cx c) (comp P hs a) (comp P hs b)
  | .block id b => .block id (comp P hs b)
  | c => comp P hs c

theorem comp_inner (hs : List (Nat × Hint)) (code : Code) : ∃ h, comp P hs code = withHint h (inner P hs code) := by
  cases code with
  | region id ops dr => exact ⟨_, rfl⟩
  | cond c a b => exact ⟨_, rfl⟩
  | block id b => exact ⟨_, rfl⟩
  | _ => exact ⟨{}, rfl⟩

theorem loop_rounds {b' : RC} {b : Code} : ∀ k, (∀ m, m < k → Snd P E (exec E hp m) b' b) → ∀ (F : Nat → Prop) (c : Ctx) (base : Nat) (s : St) (e : Ex) (s' : St) (a : Act), FR F E.glob c s a → base ≤ c.H.length →
    exec E hp k (.loop b') base s = some (e, s') → ∀ Q : Exit → Act → World → Prop, (∀ d a', FR F E.glob d s' a' → Fut base c d → Q (exitOf e) a' d.w) → Code.rounds P b Q k a c.w := by
  intro k
  induction k with
  | zero => intro _ F c base s e s' a _ _ hex; simp [exec] at hex
  | succ k ih =>
    intro hm F c base s e s' a hfr hb hex Q hQ
    rw [rounds_succ]
    simp only [exec] at hex
    split at hex
    · rename_i s1 hs1
      refine hm k (Nat.lt_succ_self _) F c base s .normal s1 a hfr hb hs1 _ fun d a' hd hfut => ?_
      exact ih (fun m hlt => hm m (by omega)) F d base s1 e s' a' hd (hfut.len hb) hex Q fun d' a'' hd' hfut' => hQ d' a'' hd' (hfut.trans hfut')
    · rename_i r' hne
      refine hm k (Nat.lt_succ_self _) F c base s e s' a hfr hb hex _ fun d a' hd hfut => ?_
      cases e with
      | normal => exact (hne s' hex).elim
      | exit id => exact hQ d a' hd hfut
      | ret => exact hQ d a' hd hfut

theorem exec_sound (henv : EnvOk P E) : ∀ n, (∀ hs code, Snd P E (exec E hp n) (inner P hs code) code) ∧ (∀ hs code, Snd P E (exec E hp n) (comp P hs code) code) := by
  intro n
  induction n using Nat.strongRecOn with
  | _ n ih =>
  cases n with
  | zero => exact ⟨fun hs code F c base s e s' a _ _ hex => by simp [exec] at hex, fun hs code F c base s e s' a _ _ hex => by simp [exec] at hex⟩
  | succ n =>
    have hin : ∀ hs code, Snd P E (exec E hp (n + 1)) (inner P hs code) code := by
      intro hs code F c base s e s' a hfr hb hex Q hQ
      have IH := (ih n (Nat.lt_succ_self _)).2
      cases code with
      | skip =>
        simp only [inner, comp, exec, Option.some.injEq, Prod.mk.injEq] at hex
        obtain ⟨rfl, rfl⟩ := hex
        exact wp_skip (hQ c a hfr (Fut.refl _ _))
      | ret =>
        simp only [inner, comp, exec, Option.some.injEq, Prod.mk.injEq] at hex
        obtain ⟨rfl, rfl⟩ := hex
        exact wp_ret (hQ c a hfr (Fut.refl _ _))
      | exit id =>
        simp only [inner, comp, exec, Option.some.injEq, Prod.mk.injEq] at hex
        obtain ⟨rfl, rfl⟩ := hex
        exact wp_exit (hQ c a hfr (Fut.refl _ _))
      | seq x y =>
        simp only [inner, comp, exec] at hex
        refine wp_seq ?_
        split at hex
        · rename_i s1 hs1
          refine IH hs x F c base s .normal s1 a hfr hb hs1 _ fun d a' hd hfut => ?_
          exact IH hs y F d base s1 e s' a' hd (hfut.len hb) hex Q fun d' a'' hd' hfut' => hQ d' a'' hd' (hfut.trans hfut')
        · rename_i r' hne
          refine IH hs x F c base s e s' a hfr hb hex _ fun d a' hd hfut => ?_
          cases e with
          | normal => exact (hne s' hex).elim
          | exit id => exact hQ d a' hd hfut
          | ret => exact hQ d a' hd hfut
      | cond x y z =>
        simp only [inner, exec] at hex
        have hx := ev_V hfr.tr hfr.gl x
        split at hex
        · rename_i hbv
          rw [hbv] at hx
          generalize hxv : a.eval x = xv at hx
          cases hx
          exact wp_cond_true hxv (IH hs y F c base s e s' a hfr hb hex Q hQ)
        · rename_i hbv
          rw [hbv] at hx
          generalize hxv : a.eval x = xv at hx
          cases hx
          exact wp_cond_false hxv (IH hs z F c base s e s' a hfr hb hex Q hQ)
        · simp at hex
      | block id x =>
        simp only [inner, exec] at hex
        refine wp_block ?_
        split at hex
        · rename_i i s1 hs1
          split at hex
          · rename_i hi
            simp only [Option.some.injEq, Prod.mk.injEq] at hex
            obtain ⟨rfl, rfl⟩ := hex
            refine IH hs x F c base s (.exit i) s1 a hfr hb hs1 _ fun d a' hd hfut => ?_
            simp only [exitOf, Exit.inBlock, hi, if_true]
            exact hQ d a' hd hfut
          · rename_i hi
            simp only [Option.some.injEq, Prod.mk.injEq] at hex
            obtain ⟨rfl, rfl⟩ := hex
            refine IH hs x F c base s (.exit i) s1 a hfr hb hs1 _ fun d a' hd hfut => ?_
            simp only [exitOf, Exit.inBlock, hi, if_false]
            exact hQ d a' hd hfut
        · rename_i r' hne
          refine IH hs x F c base s e s' a hfr hb hex _ fun d a' hd hfut => ?_
          cases e with
          | normal => exact hQ d a' hd hfut
          | exit i => exact (hne i s' hex).elim
          | ret => exact hQ d a' hd hfut
      | loop x =>
        have hex' : exec E hp (n + 1) (.loop (withHint (hintOf hs (1000000 + (firstReg x).getD 999999)) (comp P hs x))) base s = some (e, s') := hex
        refine wp_loop_rounds (n + 1) (loop_rounds (n + 1) (fun m hm => ?_) F c base s e s' a hfr hb hex' Q hQ)
        cases m with
        | zero => exact fun F c base s e s' a _ _ hex => by simp [exec] at hex
        | succ m => exact hint_sound _ henv.glob ((ih (m + 1) hm).2 hs x) ((ih m (by omega)).2 hs x)
      | region id ops dr =>
        have hlen : (ops.toList.map (compOper P ops)).length = ops.size := by simp
        cases dr with
        | false =>
          simp only [inner, Bool.false_eq_true, if_false, exec] at hex
          split at hex
          case h_2 => simp at hex
          rename_i t' H' hr
          simp only [Option.some.injEq, Prod.mk.injEq] at hex
          obtain ⟨rfl, rfl⟩ := hex
          refine wp_region (ops_sound (hp := hp) henv IH (.inl rfl) ops (List.range ops.size) (fun i hi => List.mem_range.1 hi) hfr hb (t' := t') (H' := H') ?_ fun d a' hd hfut => hQ d a' hd hfut)
          rw [← hlen, pick_range]; exact hr
        | true =>
          simp only [inner, if_true] at hex
          unfold compDraw at hex
          split at hex
          · rename_i hdr
            simp only [exec] at hex
            split at hex
            case h_2 => simp at hex
            rename_i t' H' hr
            simp only [Option.some.injEq, Prod.mk.injEq] at hex
            obtain ⟨rfl, rfl⟩ := hex
            refine wp_region_draw fun τ => ?_
            have hr' := draw_any E.glob _ hdr hlen (P.follows .mixedOrders) τ hr
            have hw := hfr.sr.drawn (c.w.drawn + 1)
            have hfr' : FR F E.glob { c with w := { c.w with drawn := c.w.drawn + 1 } } s a := hfr.went henv.glob hw hfr.hH rfl
            exact ops_sound (c := { c with w := { c.w with drawn := c.w.drawn + 1 } }) henv IH (.inr rfl) ops _ (sched_mem hdr _ _) hfr' hb hr' fun d a' hd hfut => hQ d a' hd ((hw.2.2 base).trans hfut)
          · dsimp only at hex
            generalize dynPairs (Region.before ops).toList (ops.toList.map (compOper P ops)) = ps at hex
            generalize allocs (ops.toList.map (compOper P ops)) = k at hex
            have hpl := places_ops 0 (ops.toList.map (compOper P ops))
            generalize places 0 (ops.toList.map (compOper P ops)) = rl at hex hpl
            split at hex
            case isFalse => simp [exec] at hex
            rename_i hdr
            simp only [exec] at hex
            split at hex
            case h_2 => simp at hex
            rename_i t' H' fs hr
            split at hex
            case isFalse => simp at hex
            rename_i hps
            simp only [Option.some.injEq, Prod.mk.injEq] at hex
            obtain ⟨rfl, rfl⟩ := hex
            refine wp_region_draw fun τ => ?_
            rw [← hpl] at hdr
            obtain ⟨fs', hr'⟩ := draw_anyD E.glob _ hdr (by have := congrArg List.length hpl; simpa using this) (P.follows .mixedOrders) τ hr hps
            have hw := hfr.sr.drawn (c.w.drawn + 1)
            have hfr' : FR F E.glob { c with w := { c.w with drawn := c.w.drawn + 1 } } s a := hfr.went henv.glob hw hfr.hH rfl
            obtain ⟨d1, e1, e2, e3, e4, e5, e6⟩ := rsv_sound (G := E.glob) hfr'.sr k
            have hfr2 : FR F E.glob d1 ⟨s.tmps, s.H ++ List.replicate k .rsv⟩ a := ⟨e3, hfr'.tr.went e4, by rw [e2, hfr'.hH], hfr'.df, e6 hfr'.gl⟩
            have hlen1 : base ≤ d1.H.length := (e5 base).len hb
            have e1' : ({ c.w with drawn := c.w.drawn + 1 } : World) = d1.w := e1.symm
            rw [e1']
            exact opsD_sound henv IH ops rl hpl _ (sched_memW hdr _ _) hfr2 hlen1 hr' fun d a' hd hfut => hQ d a' hd (((hw.2.2 base).trans (e5 base)).trans hfut)
      | _ => simp [inner, comp, exec] at hex
    refine ⟨hin, fun hs code => ?_⟩
    obtain ⟨h, he⟩ := comp_inner (P := P) hs code
    rw [he]
    exact hint_sound h henv.glob (hin hs code) ((ih n (Nat.lt_succ_self _)).1 hs code)

/-- what a call of f at plain values comes to -/
def Pu (E : Env) (hp : Nat → Bool) (f : Nat) (xs : List AV) (r : AV) : Prop := ∃ n, cIF E.fns (exec E hp n) f xs = some r

/-- THE CALL: in whatever world in which the values stand for the program's. -/
theorem Pu.calls (henv : EnvOk P E) {f : Nat} {xs : List AV} {r : AV} (h : Pu E hp f xs r) {c : Ctx} (hO : ∀ b, ¬ c.O b) (hH : c.H = []) (hgl : Glob c E.glob)
    {vs : List Value} (hl : vs.length = xs.length) (hv : ∀ i (hi : i < xs.length) (hj : i < vs.length), V c xs[i] vs[i]) :
    Calls P f vs.toArray c.w fun e w' => ∃ v, e = .returned v ∧ (c.w.heap.size ≤ w'.heap.size ∧ Same c.w w') ∧ (∀ b, b < c.w.heap.size → w'.heap[b]? = c.w.heap[b]?) ∧ r.bel 0 = true ∧
      ∀ c' : Ctx, c'.w = w' → (∀ b, ¬ c'.O b) → V c' r v := by
  obtain ⟨n, hn⟩ := h
  have hsr : SR (fun _ => False) c := by
    refine ⟨⟨fun id nl sz es h1 => by rw [hH] at h1; simp at h1, fun id id' _ _ _ _ _ _ h1 => by rw [hH] at h1; simp at h1⟩, fun b => ⟨fun h => (hO b h).elim, fun h => h.elim (fun h => h.elim) ?_⟩, fun b h => h.elim, fun b _ h => h⟩
    rintro ⟨id, nl, sz, es, h1, _⟩
    rw [hH] at h1; simp at h1
  refine (cI_sound henv (exec_sound henv n).2 hn hsr hH hgl hl hv).mono ?_
  rintro e w' ⟨v, rfl, h1, h2, h3, h4⟩
  exact ⟨v, rfl, h1, h2, h3, fun c' hw hO' => h4 c' hw fun b hb => (hO' b hb).elim⟩

end
end Go.Am
