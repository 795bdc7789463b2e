/- The code computes the models, printed by a program of mine (dec.py). No condition. -/
import Derived.Test.YtiicggigpcfefaaG17p0
import Derived.Test.YtiicggigpcfefaaG17r
namespace G17
open Go Go.Pl Go.Am Go.Am.As
set_option linter.unusedVariables false
set_option linter.unusedSimpArgs false
set_option maxHeartbeats 1000000

theorem p67 (a0 : (List Bool)) (a1 : Bool) (r : Bool) (h : m67 a0 a1 = some r) : Pt E0 hp 67 [.ro (a0.map cB), .bool a1] (.bool r) := by
  unfold m67 at h
  refine Pt_W (fn67) rfl (by decide) ?_
  refine W_seq ?_
  refine W_gh ?_
  refine W_reg ?_
  refine O_p 1 ?_
  refine O_nil ?_
  refine Gh_e ⟨⟨9, [(0, .ro (a0.map cB)), (1, .bool a1)]⟩, []⟩ ?_
  refine W_seq ?_
  refine W_gh ?_
  refine W_reg ?_
  refine O_p 2 ?_
  refine O_call (fun v => .i v) h (.inr rfl) (ys := [.ro (a0.map cB), .bool a1]) (fun _ e => p80 _ _ _ e) (by kernel_rfl) (by kernel_rfl) (bels_cons (ro_bel okB.bel _) (bels_cons rfl rfl)) (fun v1 e_v1 h => ?_)
  refine O_p 2 ?_
  refine O_nil ?_
  refine Gh_e ⟨⟨9, [(4, .bool (decide (v1 ≥ 0)))]⟩, []⟩ ?_
  refine W_ret ?_
  replace h := Option.some.inj h; subst h
  exact Fin_free (l := [.bool (decide (v1 ≥ 0))]) (by kernel_rfl) (by kernel_rfl) rfl

theorem p41 (a0 : SSequence) (r : Int) (h : m41 a0 = some r) : Pt E0 hp 41 [.agg (cSSequence a0)] (.i r) := by
  unfold m41 at h
  refine Pt_W (fn41) rfl (by decide) ?_
  refine W_seq ?_
  refine W_gh ?_
  refine W_reg ?_
  refine O_p 2 ?_
  refine O_nil ?_
  refine Gh_e ⟨⟨65, [(1, .po 0 0)]⟩, [.lv 2 [.i a0.Actuators, .ro (a0.Steps.map cSStep)]]⟩ ?_
  refine W_seq ?_
  refine W_gh ?_
  refine W_block ?_
  refine W_seq ?_
  refine W_cut ⟨⟨65, [(1, .po 0 0), (10, .bool ((decide (a0.Actuators < 1)) || (decide (a0.Actuators > 6))))]⟩, [.lv 2 [.i a0.Actuators, .ro (a0.Steps.map cSStep)]]⟩ ?_ ?_
  · generalize e_g1 : ((decide (a0.Actuators < 1)) || (decide (a0.Actuators > 6))) = g1
    refine W_gh ?_
    refine W_reg ?_
    refine O_p 4 ?_
    refine O_fork (n := 14) (decide (a0.Actuators < 1)) (by kernel_rfl) (fun c2 => ?_) (fun c2 => ?_)
    · skip
      refine O_p 5 ?_
      refine O_nil ?_
      refine Gh_e ⟨⟨65, [(1, .po 0 0), (10, .bool true)]⟩, [.lv 2 [.i a0.Actuators, .ro (a0.Steps.map cSStep)]]⟩ ?_
      have q := e_g1; simp only [c2, cond_true, cond_false, Bool.true_and, Bool.false_and, Bool.true_or, Bool.false_or] at q; subst q
      show _ = _
      kernel_rfl
    · skip
      refine O_p 5 ?_
      refine O_nil ?_
      refine Gh_e ⟨⟨65, [(1, .po 0 0), (10, .bool (decide (a0.Actuators > 6)))]⟩, [.lv 2 [.i a0.Actuators, .ro (a0.Steps.map cSStep)]]⟩ ?_
      have q := e_g1; simp only [c2, cond_true, cond_false, Bool.true_and, Bool.false_and, Bool.true_or, Bool.false_or] at q; subst q
      show _ = _
      kernel_rfl
  · refine W_gh ?_
    refine W_cond (c := ((decide (a0.Actuators < 1)) || (decide (a0.Actuators > 6)))) (by kernel_rfl) (fun c3 => ?_) (fun c3 => ?_)
    · replace h := fork_t c3 h
      refine W_seq ?_
      refine W_reg ?_
      refine O_p 1 ?_
      refine O_nil ?_
      refine W_ret ?_
      replace h := Option.some.inj h; subst h
      exact Fin_free (l := [.i 2]) (by kernel_rfl) (by kernel_rfl) rfl
    · replace h := fork_f c3 h
      refine W_seq ?_
      refine W_gh ?_
      refine W_reg ?_
      refine O_p 2 ?_
      refine O_len (l := a0.Steps) cSStep (by kernel_rfl) (by kernel_rfl) ?_
      refine O_p 2 ?_
      refine O_nil ?_
      refine Gh_e ⟨⟨65, [(1, .po 0 0), (10, .bool ((decide (a0.Actuators < 1)) || (decide (a0.Actuators > 6)))), (19, .bool ((a0.Steps.length : Int) == 0))]⟩, [.lv 2 [.i a0.Actuators, .ro (a0.Steps.map cSStep)]]⟩ ?_
      refine W_gh ?_
      refine W_cond (c := ((a0.Steps.length : Int) == 0)) (by kernel_rfl) (fun c4 => ?_) (fun c4 => ?_)
      · replace h := fork_t c4 h
        refine W_seq ?_
        refine W_reg ?_
        refine O_p 1 ?_
        refine O_nil ?_
        refine W_ret ?_
        replace h := Option.some.inj h; subst h
        exact Fin_free (l := [.i 13]) (by kernel_rfl) (by kernel_rfl) rfl
      · replace h := fork_f c4 h
        refine W_seq ?_
        refine W_gh ?_
        refine W_reg ?_
        refine O_p 2 ?_
        refine O_len (l := a0.Steps) cSStep (by kernel_rfl) (by kernel_rfl) ?_
        refine O_p 2 ?_
        refine O_nil ?_
        refine Gh_e ⟨⟨65, [(1, .po 0 0), (10, .bool ((decide (a0.Actuators < 1)) || (decide (a0.Actuators > 6)))), (19, .bool ((a0.Steps.length : Int) == 0)), (24, .bool (decide ((a0.Steps.length : Int) > 64)))]⟩, [.lv 2 [.i a0.Actuators, .ro (a0.Steps.map cSStep)]]⟩ ?_
        refine W_gh ?_
        refine W_cond (c := (decide ((a0.Steps.length : Int) > 64))) (by kernel_rfl) (fun c5 => ?_) (fun c5 => ?_)
        · replace h := fork_t c5 h
          refine W_seq ?_
          refine W_reg ?_
          refine O_p 1 ?_
          refine O_nil ?_
          refine W_ret ?_
          replace h := Option.some.inj h; subst h
          exact Fin_free (l := [.i 5]) (by kernel_rfl) (by kernel_rfl) rfl
        · replace h := fork_f c5 h
          refine W_skip ?_
          refine Gh_e ⟨⟨65, [(1, .po 0 0), (10, .bool ((decide (a0.Actuators < 1)) || (decide (a0.Actuators > 6)))), (19, .bool ((a0.Steps.length : Int) == 0))]⟩, [.lv 2 [.i a0.Actuators, .ro (a0.Steps.map cSStep)]]⟩ ?_
          refine Gh_e ⟨⟨65, [(1, .po 0 0), (10, .bool ((decide (a0.Actuators < 1)) || (decide (a0.Actuators > 6))))]⟩, [.lv 2 [.i a0.Actuators, .ro (a0.Steps.map cSStep)]]⟩ ?_
          refine Gh_e ⟨⟨65, [(1, .po 0 0)]⟩, [.lv 2 [.i a0.Actuators, .ro (a0.Steps.map cSStep)]]⟩ ?_
          refine Gh_e ⟨⟨65, [(1, .po 0 0)]⟩, [.lv 2 [.i a0.Actuators, .ro (a0.Steps.map cSStep)]]⟩ ?_
          refine W_seq ?_
          refine W_reg ?_
          refine O_p 2 ?_
          refine O_nil ?_
          refine W_seq ?_
          refine W_seq ?_
          refine W_gh ?_
          refine W_reg ?_
          refine O_p 2 ?_
          refine O_len (l := a0.Steps) cSStep (by kernel_rfl) (by kernel_rfl) ?_
          refine O_p 1 ?_
          refine O_nil ?_
          refine Gh_e ⟨⟨65, [(1, .po 0 0), (3, .po 1 0), (4, .po 2 0), (30, .ro (a0.Steps.map cSStep)), (31, .i (a0.Steps.length : Int)), (32, .i 0)]⟩, [.lv 2 [.i a0.Actuators, .ro (a0.Steps.map cSStep)], .lv 6 ((Arr.rep 6 false).1.map AV.bool), .lv 6 ((Arr.rep 6 false).1.map AV.bool)]⟩ ?_
          refine W_loop (fun s6 : (Arr 6 Bool) × (Arr 6 Bool) × Int => ⟨⟨65, [(1, .po 0 0), (3, .po 1 0), (4, .po 2 0), (30, .ro (a0.Steps.map cSStep)), (31, .i (a0.Steps.length : Int)), (32, .i s6.2.2)]⟩, [.lv 2 [.i a0.Actuators, .ro (a0.Steps.map cSStep)], .lv 6 (s6.1.1.map AV.bool), .lv 6 (s6.2.1.1.map AV.bool)]⟩) (fun w7 : (Arr 6 Bool) × (Arr 6 Bool) => ⟨⟨65, [(1, .po 0 0), (3, .po 1 0), (4, .po 2 0)]⟩, [.lv 2 [.i a0.Actuators, .ro (a0.Steps.map cSStep)], .lv 6 (w7.1.1.map AV.bool), .lv 6 (w7.2.1.map AV.bool)]⟩) h (by kernel_rfl) (fun s6 c h => ?_) (fun w7 h => ?_)
          · refine W_gh ?_
            refine W_seq ?_
            refine W_reg ?_
            refine O_p 1 ?_
            refine O_nil ?_
            refine W_seq ?_
            refine W_gh ?_
            refine W_cond (c := (decide (s6.2.2 < (a0.Steps.length : Int)))) (by kernel_rfl) (fun c8 => ?_) (fun c8 => ?_)
            · replace h := fork_t c8 h
              refine W_skip ?_
              refine Gh_e ⟨⟨65, [(1, .po 0 0), (3, .po 1 0), (4, .po 2 0), (30, .ro (a0.Steps.map cSStep)), (31, .i (a0.Steps.length : Int)), (32, .i s6.2.2)]⟩, [.lv 2 [.i a0.Actuators, .ro (a0.Steps.map cSStep)], .lv 6 (s6.1.1.map AV.bool), .lv 6 (s6.2.1.1.map AV.bool)]⟩ ?_
              refine W_seq ?_
              refine W_gh ?_
              refine W_block ?_
              refine W_seq ?_
              refine W_gh ?_
              refine W_reg ?_
              refine O_idx (kd := .i64) cSStep h (fun _ => rfl) (by kernel_rfl) (by kernel_rfl) (by kernel_rfl) (fun v9 e_v9 h => ?_)
              refine O_p 3 ?_
              refine O_nil ?_
              refine Gh_e ⟨⟨65, [(1, .po 0 0), (3, .po 1 0), (4, .po 2 0), (6, .po 3 0), (30, .ro (a0.Steps.map cSStep)), (31, .i (a0.Steps.length : Int)), (32, .i s6.2.2)]⟩, [.lv 2 [.i a0.Actuators, .ro (a0.Steps.map cSStep)], .lv 6 (s6.1.1.map AV.bool), .lv 6 (s6.2.1.1.map AV.bool), .lv 2 [.ro (v9.Strokes.map cSStroke), .i v9.Wait]]⟩ ?_
              refine W_seq ?_
              refine W_seq ?_
              refine W_gh ?_
              refine W_reg ?_
              refine O_p 2 ?_
              refine O_ldW (id := 1) (c1 := AV.bool) (a := s6.1) (by kernel_rfl) (by kernel_rfl) (by kernel_rfl) ?_
              refine O_call (fun v => .i v) h (.inr rfl) (ys := [.agg (cSSequence a0), .agg (cSStep v9), .agg ((cA AV.bool) s6.1)]) (fun _ e => p65 _ _ _ _ e) (by kernel_rfl) (by kernel_rfl) (bels_cons (okSSequence.bel _) (bels_cons (okSStep.bel _) (bels_cons ((okA 6 (fun _ => rfl) (fun _ => rfl)).bel _) rfl))) (fun v10 e_v10 h => ?_)
              refine O_p 1 ?_
              refine O_nil ?_
              refine Gh_e ⟨⟨65, [(1, .po 0 0), (3, .po 1 0), (4, .po 2 0), (6, .po 3 0), (7, .i v10), (30, .ro (a0.Steps.map cSStep)), (31, .i (a0.Steps.length : Int)), (32, .i s6.2.2)]⟩, [.lv 2 [.i a0.Actuators, .ro (a0.Steps.map cSStep)], .lv 6 (s6.1.1.map AV.bool), .lv 6 (s6.2.1.1.map AV.bool), .lv 2 [.ro (v9.Strokes.map cSStroke), .i v9.Wait]]⟩ ?_
              refine W_seq ?_
              refine W_gh ?_
              refine W_reg ?_
              refine O_p 2 ?_
              refine O_nil ?_
              refine Gh_e ⟨⟨65, [(1, .po 0 0), (3, .po 1 0), (4, .po 2 0), (6, .po 3 0), (7, .i v10), (30, .ro (a0.Steps.map cSStep)), (31, .i (a0.Steps.length : Int)), (32, .i s6.2.2), (41, .bool (v10 != 0))]⟩, [.lv 2 [.i a0.Actuators, .ro (a0.Steps.map cSStep)], .lv 6 (s6.1.1.map AV.bool), .lv 6 (s6.2.1.1.map AV.bool), .lv 2 [.ro (v9.Strokes.map cSStroke), .i v9.Wait]]⟩ ?_
              refine W_gh ?_
              refine W_cond (c := (v10 != 0)) (by kernel_rfl) (fun c11 => ?_) (fun c11 => ?_)
              · replace h := fork_t c11 h
                refine W_seq ?_
                refine W_gh ?_
                refine W_reg ?_
                refine O_p 2 ?_
                refine O_nil ?_
                refine Gh_e ⟨⟨65, [(1, .po 0 0), (2, .i v10), (3, .po 1 0), (4, .po 2 0), (6, .po 3 0), (30, .ro (a0.Steps.map cSStep)), (31, .i (a0.Steps.length : Int)), (32, .i s6.2.2), (41, .bool (v10 != 0))]⟩, [.lv 2 [.i a0.Actuators, .ro (a0.Steps.map cSStep)], .lv 6 (s6.1.1.map AV.bool), .lv 6 (s6.2.1.1.map AV.bool), .lv 2 [.ro (v9.Strokes.map cSStroke), .i v9.Wait]]⟩ ?_
                refine W_ret ?_
                replace h := Option.some.inj h; subst h
                refine ⟨_, rfl, fun h => ?_⟩
                replace h := Option.some.inj h; subst h
                exact Fin_free (l := [.i v10]) (by kernel_rfl) (by kernel_rfl) rfl
              · replace h := fork_f c11 h
                refine W_skip ?_
                refine Gh_e ⟨⟨65, [(1, .po 0 0), (3, .po 1 0), (4, .po 2 0), (6, .po 3 0), (30, .ro (a0.Steps.map cSStep)), (31, .i (a0.Steps.length : Int)), (32, .i s6.2.2)]⟩, [.lv 2 [.i a0.Actuators, .ro (a0.Steps.map cSStep)], .lv 6 (s6.1.1.map AV.bool), .lv 6 (s6.2.1.1.map AV.bool), .lv 2 [.ro (v9.Strokes.map cSStroke), .i v9.Wait]]⟩ ?_
                refine W_seq ?_
                refine W_gh ?_
                refine W_reg ?_
                refine O_ldW (id := 1) (c1 := AV.bool) (a := s6.1) (by kernel_rfl) (by kernel_rfl) (by kernel_rfl) ?_
                refine O_p 1 ?_
                refine O_call (fun v => .agg (v.1.map AV.bool)) h (.inr rfl) (ys := [.agg ((cA AV.bool) s6.1), .agg (cSStep v9)]) (fun _ e => p66 _ _ _ e) (by kernel_rfl) (by kernel_rfl) (bels_cons ((okA 6 (fun _ => rfl) (fun _ => rfl)).bel _) (bels_cons (okSStep.bel _) rfl)) (fun v12 e_v12 h => ?_)
                refine O_stB (id := 1) (c1 := AV.bool) (a := v12) (old := (s6.1.1.map AV.bool)) (by kernel_rfl) (by kernel_rfl) (by kernel_rfl) (by kernel_rfl) (fun _ => rfl) (by simp [Arr.len]) ?_
                refine O_nil ?_
                refine Gh_e ⟨⟨65, [(1, .po 0 0), (3, .po 1 0), (4, .po 2 0), (6, .po 3 0), (30, .ro (a0.Steps.map cSStep)), (31, .i (a0.Steps.length : Int)), (32, .i s6.2.2)]⟩, [.lv 2 [.i a0.Actuators, .ro (a0.Steps.map cSStep)], .lv 6 (v12.1.map AV.bool), .lv 6 (s6.2.1.1.map AV.bool), .lv 2 [.ro (v9.Strokes.map cSStroke), .i v9.Wait]]⟩ ?_
                refine W_seq ?_
                refine W_gh ?_
                refine W_reg ?_
                refine O_p 2 ?_
                refine O_len (l := v9.Strokes) cSStroke (by kernel_rfl) (by kernel_rfl) ?_
                refine O_p 1 ?_
                refine O_nil ?_
                refine Gh_e ⟨⟨65, [(1, .po 0 0), (3, .po 1 0), (4, .po 2 0), (30, .ro (a0.Steps.map cSStep)), (31, .i (a0.Steps.length : Int)), (32, .i s6.2.2), (47, .ro (v9.Strokes.map cSStroke)), (48, .i (v9.Strokes.length : Int)), (49, .i 0)]⟩, [.lv 2 [.i a0.Actuators, .ro (a0.Steps.map cSStep)], .lv 6 (v12.1.map AV.bool), .lv 6 (s6.2.1.1.map AV.bool), .lv 2 [.ro (v9.Strokes.map cSStroke), .i v9.Wait]]⟩ ?_
                refine W_loopS (fun s13 : (Arr 6 Bool) × Int => ⟨⟨65, [(1, .po 0 0), (3, .po 1 0), (4, .po 2 0), (30, .ro (a0.Steps.map cSStep)), (31, .i (a0.Steps.length : Int)), (32, .i s6.2.2), (47, .ro (v9.Strokes.map cSStroke)), (48, .i (v9.Strokes.length : Int)), (49, .i s13.2)]⟩, [.lv 2 [.i a0.Actuators, .ro (a0.Steps.map cSStep)], .lv 6 (v12.1.map AV.bool), .lv 6 (s13.1.1.map AV.bool), .lv 2 [.ro (v9.Strokes.map cSStroke), .i v9.Wait]]⟩) (fun w14 : (Arr 6 Bool) => ⟨⟨65, [(1, .po 0 0), (3, .po 1 0), (4, .po 2 0), (30, .ro (a0.Steps.map cSStep)), (31, .i (a0.Steps.length : Int)), (32, .i s6.2.2)]⟩, [.lv 2 [.i a0.Actuators, .ro (a0.Steps.map cSStep)], .lv 6 (v12.1.map AV.bool), .lv 6 (w14.1.map AV.bool), .lv 2 [.ro (v9.Strokes.map cSStroke), .i v9.Wait]]⟩) h (by kernel_rfl) (fun s13 c h => ?_) (fun w14 e_w14 h => ?_)
                · refine W_gh ?_
                  refine W_seq ?_
                  refine W_reg ?_
                  refine O_p 1 ?_
                  refine O_nil ?_
                  refine W_seq ?_
                  refine W_gh ?_
                  refine W_cond (c := (decide (s13.2 < (v9.Strokes.length : Int)))) (by kernel_rfl) (fun c15 => ?_) (fun c15 => ?_)
                  · replace h := fork_t c15 h
                    refine W_skip ?_
                    refine Gh_e ⟨⟨65, [(1, .po 0 0), (3, .po 1 0), (4, .po 2 0), (30, .ro (a0.Steps.map cSStep)), (31, .i (a0.Steps.length : Int)), (32, .i s6.2.2), (47, .ro (v9.Strokes.map cSStroke)), (48, .i (v9.Strokes.length : Int)), (49, .i s13.2)]⟩, [.lv 2 [.i a0.Actuators, .ro (a0.Steps.map cSStep)], .lv 6 (v12.1.map AV.bool), .lv 6 (s13.1.1.map AV.bool), .lv 2 [.ro (v9.Strokes.map cSStroke), .i v9.Wait]]⟩ ?_
                    refine W_seq ?_
                    refine W_gh ?_
                    refine W_block ?_
                    refine W_seq ?_
                    refine W_gh ?_
                    refine W_reg ?_
                    refine O_idx (kd := .i64) cSStroke h (fun _ => rfl) (by kernel_rfl) (by kernel_rfl) (by kernel_rfl) (fun v16 e_v16 h => ?_)
                    refine O_p 3 ?_
                    refine O_nil ?_
                    refine Gh_e ⟨⟨65, [(1, .po 0 0), (3, .po 1 0), (4, .po 2 0), (9, .po 4 0), (30, .ro (a0.Steps.map cSStep)), (31, .i (a0.Steps.length : Int)), (32, .i s6.2.2), (47, .ro (v9.Strokes.map cSStroke)), (48, .i (v9.Strokes.length : Int)), (49, .i s13.2)]⟩, [.lv 2 [.i a0.Actuators, .ro (a0.Steps.map cSStep)], .lv 6 (v12.1.map AV.bool), .lv 6 (s13.1.1.map AV.bool), .lv 2 [.ro (v9.Strokes.map cSStroke), .i v9.Wait], .lv 2 [.i v16.Actuator, .bool v16.Out]]⟩ ?_
                    refine W_gh ?_
                    refine W_reg ?_
                    refine O_p 2 ?_
                    refine O_iadB (kd := .i64) (id := 2) AV.bool h (by kernel_rfl) (by kernel_rfl) (by kernel_rfl) (by kernel_rfl) (fun v17 e_v17 h => ?_)
                    refine O_stA (id := 2) AV.bool e_v17 (by kernel_rfl) (by kernel_rfl) (by kernel_rfl) (v := true) (by kernel_rfl) (fun _ => rfl) (fun _ => rfl) ?_
                    refine O_nil ?_
                    refine Gh_e ⟨⟨65, [(1, .po 0 0), (3, .po 1 0), (4, .po 2 0), (30, .ro (a0.Steps.map cSStep)), (31, .i (a0.Steps.length : Int)), (32, .i s6.2.2), (47, .ro (v9.Strokes.map cSStroke)), (48, .i (v9.Strokes.length : Int)), (49, .i s13.2)]⟩, [.lv 2 [.i a0.Actuators, .ro (a0.Steps.map cSStep)], .lv 6 (v12.1.map AV.bool), .lv 6 ((s13.1.put v16.Actuator.toNat true).1.map AV.bool), .lv 2 [.ro (v9.Strokes.map cSStroke), .i v9.Wait], .lv 2 [.i v16.Actuator, .bool v16.Out]]⟩ ?_
                    refine Gh_one (s1 := ⟨⟨65, [(1, .po 0 0), (3, .po 1 0), (4, .po 2 0), (30, .ro (a0.Steps.map cSStep)), (31, .i (a0.Steps.length : Int)), (32, .i s6.2.2), (47, .ro (v9.Strokes.map cSStroke)), (48, .i (v9.Strokes.length : Int)), (49, .i s13.2)]⟩, [.lv 2 [.i a0.Actuators, .ro (a0.Steps.map cSStep)], .lv 6 (v12.1.map AV.bool), .lv 6 ((s13.1.put v16.Actuator.toNat true).1.map AV.bool), .lv 2 [.ro (v9.Strokes.map cSStroke), .i v9.Wait], .lv 2 [.i v16.Actuator, .bool v16.Out]]⟩) (by kernel_rfl) ?_
                    refine Gh_at (s1 := ⟨⟨65, [(1, .po 0 0), (3, .po 1 0), (4, .po 2 0), (30, .ro (a0.Steps.map cSStep)), (31, .i (a0.Steps.length : Int)), (32, .i s6.2.2), (47, .ro (v9.Strokes.map cSStroke)), (48, .i (v9.Strokes.length : Int)), (49, .i s13.2)]⟩, [.lv 2 [.i a0.Actuators, .ro (a0.Steps.map cSStep)], .lv 6 (v12.1.map AV.bool), .lv 6 ((s13.1.put v16.Actuator.toNat true).1.map AV.bool), .lv 2 [.ro (v9.Strokes.map cSStroke), .i v9.Wait], .lv 2 [.i v16.Actuator, .bool v16.Out]]⟩) (by kernel_rfl) ?_
                    refine Gh_trunc (s1 := ⟨⟨65, [(1, .po 0 0), (3, .po 1 0), (4, .po 2 0), (30, .ro (a0.Steps.map cSStep)), (31, .i (a0.Steps.length : Int)), (32, .i s6.2.2), (47, .ro (v9.Strokes.map cSStroke)), (48, .i (v9.Strokes.length : Int)), (49, .i s13.2)]⟩, [.lv 2 [.i a0.Actuators, .ro (a0.Steps.map cSStep)], .lv 6 (v12.1.map AV.bool), .lv 6 ((s13.1.put v16.Actuator.toNat true).1.map AV.bool), .lv 2 [.ro (v9.Strokes.map cSStroke), .i v9.Wait]]⟩) (by kernel_rfl) (tb_ref rfl (tb_ref rfl (tb_ref rfl (tb_free (ro_bel okSStep.bel _) (tb_free rfl (tb_free rfl (tb_free (ro_bel okSStroke.bel _) (tb_free rfl (tb_free rfl rfl))))))))) (H1 := [.lv 2 [.i a0.Actuators, .ro (a0.Steps.map cSStep)], .lv 6 (v12.1.map AV.bool), .lv 6 ((s13.1.put v16.Actuator.toNat true).1.map AV.bool), .lv 2 [.ro (v9.Strokes.map cSStroke), .i v9.Wait]]) (by kernel_rfl) (ob_boxn (bn_free rfl (bn_free (ro_bel okSStep.bel _) rfl)) (ob_boxn (bels_mono (Nat.zero_le _) _ (bels_arr (fun _ => rfl) _)) (ob_boxn (bels_mono (Nat.zero_le _) _ (bels_arr (fun _ => rfl) _)) (ob_boxn (bn_free (ro_bel okSStroke.bel _) (bn_free rfl rfl)) rfl)))) (by kernel_rfl) ?_
                    refine Gh_nil ?_
                    refine W_gh ?_
                    refine W_reg ?_
                    refine O_p 2 ?_
                    refine O_nil ?_
                    refine Gh_e ⟨⟨65, [(1, .po 0 0), (3, .po 1 0), (4, .po 2 0), (30, .ro (a0.Steps.map cSStep)), (31, .i (a0.Steps.length : Int)), (32, .i s6.2.2), (47, .ro (v9.Strokes.map cSStroke)), (48, .i (v9.Strokes.length : Int)), (49, .i (addI .i64 s13.2 1))]⟩, [.lv 2 [.i a0.Actuators, .ro (a0.Steps.map cSStep)], .lv 6 (v12.1.map AV.bool), .lv 6 ((s13.1.put v16.Actuator.toNat true).1.map AV.bool), .lv 2 [.ro (v9.Strokes.map cSStroke), .i v9.Wait]]⟩ ?_
                    refine Gh_one (s1 := ⟨⟨65, [(1, .po 0 0), (3, .po 1 0), (4, .po 2 0), (30, .ro (a0.Steps.map cSStep)), (31, .i (a0.Steps.length : Int)), (32, .i s6.2.2), (47, .ro (v9.Strokes.map cSStroke)), (48, .i (v9.Strokes.length : Int)), (49, .i (addI .i64 s13.2 1))]⟩, [.lv 2 [.i a0.Actuators, .ro (a0.Steps.map cSStep)], .lv 6 (v12.1.map AV.bool), .lv 6 ((s13.1.put v16.Actuator.toNat true).1.map AV.bool), .lv 2 [.ro (v9.Strokes.map cSStroke), .i v9.Wait]]⟩) (by kernel_rfl) ?_
                    refine Gh_trunc0 (by kernel_rfl) ?_
                    refine Gh_nil ?_
                    replace h := Option.some.inj h; subst h
                    exact ⟨_, rfl, by kernel_rfl⟩
                  · replace h := fork_f c15 h
                    refine W_exit ?_
                    refine X_hit ?_
                    refine Gh_one (s1 := ⟨⟨65, [(1, .po 0 0), (3, .po 1 0), (4, .po 2 0), (30, .ro (a0.Steps.map cSStep)), (31, .i (a0.Steps.length : Int)), (32, .i s6.2.2)]⟩, [.lv 2 [.i a0.Actuators, .ro (a0.Steps.map cSStep)], .lv 6 (v12.1.map AV.bool), .lv 6 (s13.1.1.map AV.bool), .lv 2 [.ro (v9.Strokes.map cSStroke), .i v9.Wait]]⟩) (by kernel_rfl) ?_
                    refine Gh_trunc0 (by kernel_rfl) ?_
                    refine Gh_nil ?_
                    replace h := Option.some.inj h; subst h
                    exact ⟨_, rfl, by kernel_rfl⟩
                · refine Gh_one (s1 := ⟨⟨65, [(1, .po 0 0), (3, .po 1 0), (4, .po 2 0), (30, .ro (a0.Steps.map cSStep)), (31, .i (a0.Steps.length : Int)), (32, .i s6.2.2)]⟩, [.lv 2 [.i a0.Actuators, .ro (a0.Steps.map cSStep)], .lv 6 (v12.1.map AV.bool), .lv 6 (w14.1.map AV.bool), .lv 2 [.ro (v9.Strokes.map cSStroke), .i v9.Wait]]⟩) (by kernel_rfl) ?_
                  refine Gh_at (s1 := ⟨⟨65, [(1, .po 0 0), (3, .po 1 0), (4, .po 2 0), (30, .ro (a0.Steps.map cSStep)), (31, .i (a0.Steps.length : Int)), (32, .i s6.2.2)]⟩, [.lv 2 [.i a0.Actuators, .ro (a0.Steps.map cSStep)], .lv 6 (v12.1.map AV.bool), .lv 6 (w14.1.map AV.bool), .lv 2 [.ro (v9.Strokes.map cSStroke), .i v9.Wait]]⟩) (by kernel_rfl) ?_
                  refine Gh_trunc (s1 := ⟨⟨65, [(1, .po 0 0), (3, .po 1 0), (4, .po 2 0), (30, .ro (a0.Steps.map cSStep)), (31, .i (a0.Steps.length : Int)), (32, .i s6.2.2)]⟩, [.lv 2 [.i a0.Actuators, .ro (a0.Steps.map cSStep)], .lv 6 (v12.1.map AV.bool), .lv 6 (w14.1.map AV.bool)]⟩) (by kernel_rfl) (tb_ref rfl (tb_ref rfl (tb_ref rfl (tb_free (ro_bel okSStep.bel _) (tb_free rfl (tb_free rfl rfl)))))) (H1 := [.lv 2 [.i a0.Actuators, .ro (a0.Steps.map cSStep)], .lv 6 (v12.1.map AV.bool), .lv 6 (w14.1.map AV.bool)]) (by kernel_rfl) (ob_boxn (bn_free rfl (bn_free (ro_bel okSStep.bel _) rfl)) (ob_boxn (bels_mono (Nat.zero_le _) _ (bels_arr (fun _ => rfl) _)) (ob_boxn (bels_mono (Nat.zero_le _) _ (bels_arr (fun _ => rfl) _)) rfl))) (by kernel_rfl) ?_
                  refine Gh_nil ?_
                  refine W_gh ?_
                  refine W_reg ?_
                  refine O_p 2 ?_
                  refine O_nil ?_
                  refine Gh_e ⟨⟨65, [(1, .po 0 0), (3, .po 1 0), (4, .po 2 0), (30, .ro (a0.Steps.map cSStep)), (31, .i (a0.Steps.length : Int)), (32, .i (addI .i64 s6.2.2 1))]⟩, [.lv 2 [.i a0.Actuators, .ro (a0.Steps.map cSStep)], .lv 6 (v12.1.map AV.bool), .lv 6 (w14.1.map AV.bool)]⟩ ?_
                  refine Gh_one (s1 := ⟨⟨65, [(1, .po 0 0), (3, .po 1 0), (4, .po 2 0), (30, .ro (a0.Steps.map cSStep)), (31, .i (a0.Steps.length : Int)), (32, .i (addI .i64 s6.2.2 1))]⟩, [.lv 2 [.i a0.Actuators, .ro (a0.Steps.map cSStep)], .lv 6 (v12.1.map AV.bool), .lv 6 (w14.1.map AV.bool)]⟩) (by kernel_rfl) ?_
                  refine Gh_trunc0 (by kernel_rfl) ?_
                  refine Gh_nil ?_
                  replace h := Option.some.inj h; subst h
                  exact ⟨_, rfl, by kernel_rfl⟩
            · replace h := fork_f c8 h
              refine W_exit ?_
              refine X_hit ?_
              refine Gh_one (s1 := ⟨⟨65, [(1, .po 0 0), (3, .po 1 0), (4, .po 2 0)]⟩, [.lv 2 [.i a0.Actuators, .ro (a0.Steps.map cSStep)], .lv 6 (s6.1.1.map AV.bool), .lv 6 (s6.2.1.1.map AV.bool)]⟩) (by kernel_rfl) ?_
              refine Gh_trunc0 (by kernel_rfl) ?_
              refine Gh_nil ?_
              replace h := Option.some.inj h; subst h
              exact ⟨_, rfl, by kernel_rfl⟩
          · refine W_seq ?_
            refine W_seq ?_
            refine W_gh ?_
            refine W_reg ?_
            refine O_ldW (id := 1) (c1 := AV.bool) (a := w7.1) (by kernel_rfl) (by kernel_rfl) (by kernel_rfl) ?_
            refine O_p 1 ?_
            refine O_eqArrB (a := w7.1) (b := (Arr.rep 6 false)) (by kernel_rfl) ⟨by kernel_rfl, by kernel_rfl⟩ (by kernel_rfl) ?_
            refine O_nil ?_
            refine Gh_e ⟨⟨65, [(1, .po 0 0), (4, .po 2 0), (60, .bool ((w7.1.1 == (Arr.rep 6 false).1) != true))]⟩, [.lv 2 [.i a0.Actuators, .ro (a0.Steps.map cSStep)], .lv 6 (w7.1.1.map AV.bool), .lv 6 (w7.2.1.map AV.bool)]⟩ ?_
            refine W_gh ?_
            refine W_cond (c := ((w7.1.1 == (Arr.rep 6 false).1) != true)) (by kernel_rfl) (fun c18 => ?_) (fun c18 => ?_)
            · replace h := fork_t c18 h
              refine W_seq ?_
              refine W_reg ?_
              refine O_p 1 ?_
              refine O_nil ?_
              refine W_ret ?_
              replace h := Option.some.inj h; subst h
              exact Fin_free (l := [.i 9]) (by kernel_rfl) (by kernel_rfl) rfl
            · replace h := fork_f c18 h
              refine W_skip ?_
              refine Gh_e ⟨⟨65, [(1, .po 0 0), (4, .po 2 0)]⟩, [.lv 2 [.i a0.Actuators, .ro (a0.Steps.map cSStep)], .lv 6 (w7.1.1.map AV.bool), .lv 6 (w7.2.1.map AV.bool)]⟩ ?_
              refine W_seq ?_
              refine W_seq ?_
              refine W_gh ?_
              refine W_reg ?_
              refine O_p 2 ?_
              refine O_slcA (id := 2) (kl := .i64) (kh := .i64) (c1 := AV.bool) cB (fun _ => rfl) (fun _ => rfl) (fun _ => rfl) h (by kernel_rfl) (by kernel_rfl) (by kernel_rfl) (by kernel_rfl) (by kernel_rfl) (fun v19 e_v19 y_v19 f_v19 h => ?_)
              refine O_lent (fun v => .bool v) h (.inr rfl) (ys := [.ro (v19.map cB), .bool false]) (fun _ e => p67 _ _ _ e) (by kernel_rfl) (snaps_of (xs := [y_v19, .bool false]) (by kernel_rfl) (mapO_cons (f_v19 (by kernel_rfl)) (mapO_cons (pk_free rfl) rfl))) (fun _ => rfl) (fun v20 e_v20 h => ?_)
              refine O_nil ?_
              refine Gh_e ⟨⟨65, [(64, .bool v20)]⟩, [.lv 2 [.i a0.Actuators, .ro (a0.Steps.map cSStep)], .lv 6 (w7.1.1.map AV.bool), .lv 6 (w7.2.1.map AV.bool)]⟩ ?_
              refine W_gh ?_
              refine W_cond (c := v20) (by kernel_rfl) (fun c21 => ?_) (fun c21 => ?_)
              · replace h := fork_t c21 h
                refine W_seq ?_
                refine W_reg ?_
                refine O_p 1 ?_
                refine O_nil ?_
                refine W_ret ?_
                replace h := Option.some.inj h; subst h
                exact Fin_free (l := [.i 13]) (by kernel_rfl) (by kernel_rfl) rfl
              · replace h := fork_f c21 h
                refine W_skip ?_
                refine Gh_e ⟨⟨65, []⟩, [.lv 2 [.i a0.Actuators, .ro (a0.Steps.map cSStep)], .lv 6 (w7.1.1.map AV.bool), .lv 6 (w7.2.1.map AV.bool)]⟩ ?_
                refine W_seq ?_
                refine W_reg ?_
                refine O_p 1 ?_
                refine O_nil ?_
                refine W_ret ?_
                replace h := Option.some.inj h; subst h
                exact Fin_free (l := [.i 0]) (by kernel_rfl) (by kernel_rfl) rfl

theorem p73 (a0 : Int) (r : Bool) (h : m73 a0 = some r) : Pt E0 hp 73 [.i a0] (.bool r) := by
  unfold m73 at h
  refine Pt_W (fn73) rfl (by decide) ?_
  refine W_seq ?_
  refine W_gh ?_
  refine W_reg ?_
  refine O_p 1 ?_
  refine O_nil ?_
  refine Gh_e ⟨⟨9, [(0, .i a0)]⟩, []⟩ ?_
  refine W_seq ?_
  refine W_cut ⟨⟨9, [(2, .bool ((decide (a0 ≥ 0)) && (decide (a0 ≤ 1000000))))]⟩, []⟩ ?_ ?_
  · generalize e_g1 : ((decide (a0 ≥ 0)) && (decide (a0 ≤ 1000000))) = g1
    refine W_gh ?_
    refine W_reg ?_
    refine O_p 3 ?_
    refine O_fork (n := 5) (decide (a0 ≥ 0)) (by kernel_rfl) (fun c2 => ?_) (fun c2 => ?_)
    · skip
      refine O_p 4 ?_
      refine O_nil ?_
      refine Gh_e ⟨⟨9, [(2, .bool (decide (a0 ≤ 1000000)))]⟩, []⟩ ?_
      have q := e_g1; simp only [c2, cond_true, cond_false, Bool.true_and, Bool.false_and, Bool.true_or, Bool.false_or] at q; subst q
      show _ = _
      kernel_rfl
    · skip
      refine O_p 4 ?_
      refine O_nil ?_
      refine Gh_e ⟨⟨9, [(2, .bool false)]⟩, []⟩ ?_
      have q := e_g1; simp only [c2, cond_true, cond_false, Bool.true_and, Bool.false_and, Bool.true_or, Bool.false_or] at q; subst q
      show _ = _
      kernel_rfl
  · refine W_ret ?_
    replace h := Option.some.inj h; subst h
    exact Fin_free (l := [.bool ((decide (a0 ≥ 0)) && (decide (a0 ≤ 1000000)))]) (by kernel_rfl) (by kernel_rfl) rfl

theorem p50 (a0 : SSpan) (r : Int) (h : m50 a0 = some r) : Pt E0 hp 50 [.agg (cSSpan a0)] (.i r) := by
  unfold m50 at h
  refine Pt_W (fn50) rfl (by decide) ?_
  refine W_seq ?_
  refine W_gh ?_
  refine W_reg ?_
  refine O_p 2 ?_
  refine O_nil ?_
  refine Gh_e ⟨⟨20, [(1, .po 0 0)]⟩, [.lv 2 [.i a0.Low, .i a0.High]]⟩ ?_
  refine W_seq ?_
  refine W_gh ?_
  refine W_block ?_
  refine W_seq ?_
  refine W_joinS (fun v : Bool => ⟨⟨20, [(1, .po 0 0), (3, .bool v)]⟩, [.lv 2 [.i a0.Low, .i a0.High]]⟩) h (fun w h => ?_) (fun w1 e_w1 h => ?_)
  · refine W_gh ?_
    refine W_reg ?_
    refine O_p 2 ?_
    refine O_call (fun v => .bool v) h (.inr rfl) (ys := [.i a0.Low]) (fun _ e => p73 _ _ e) (by kernel_rfl) (by kernel_rfl) (bels_cons rfl rfl) (fun v2 e_v2 h => ?_)
    refine O_p 2 ?_
    refine O_fork (n := 8) (!v2) (by kernel_rfl) (fun c3 => ?_) (fun c3 => ?_)
    · replace h := fork_t c3 h
      refine O_p 6 ?_
      refine O_nil ?_
      refine Gh_e ⟨⟨20, [(1, .po 0 0), (3, .bool true)]⟩, [.lv 2 [.i a0.Low, .i a0.High]]⟩ ?_
      replace h := Option.some.inj h; subst h
      show _ = _
      kernel_rfl
    · replace h := fork_f c3 h
      refine O_p 2 ?_
      refine O_call (fun v => .bool v) h (.inr rfl) (ys := [.i a0.High]) (fun _ e => p73 _ _ e) (by kernel_rfl) (by kernel_rfl) (bels_cons rfl rfl) (fun v4 e_v4 h => ?_)
      refine O_p 3 ?_
      refine O_nil ?_
      refine Gh_e ⟨⟨20, [(1, .po 0 0), (3, .bool (!v4))]⟩, [.lv 2 [.i a0.Low, .i a0.High]]⟩ ?_
      replace h := Option.some.inj h; subst h
      show _ = _
      kernel_rfl
  · refine W_gh ?_
    refine W_cond (c := w1) (by kernel_rfl) (fun c5 => ?_) (fun c5 => ?_)
    · replace h := fork_t c5 h
      refine W_seq ?_
      refine W_reg ?_
      refine O_p 1 ?_
      refine O_nil ?_
      refine W_ret ?_
      replace h := Option.some.inj h; subst h
      exact Fin_free (l := [.i 2]) (by kernel_rfl) (by kernel_rfl) rfl
    · replace h := fork_f c5 h
      refine W_seq ?_
      refine W_gh ?_
      refine W_reg ?_
      refine O_p 6 ?_
      refine O_nil ?_
      refine Gh_e ⟨⟨20, [(3, .bool w1), (14, .bool (decide (a0.Low > a0.High)))]⟩, [.lv 2 [.i a0.Low, .i a0.High]]⟩ ?_
      refine W_gh ?_
      refine W_cond (c := (decide (a0.Low > a0.High))) (by kernel_rfl) (fun c6 => ?_) (fun c6 => ?_)
      · replace h := fork_t c6 h
        refine W_seq ?_
        refine W_reg ?_
        refine O_p 1 ?_
        refine O_nil ?_
        refine W_ret ?_
        replace h := Option.some.inj h; subst h
        exact Fin_free (l := [.i 9]) (by kernel_rfl) (by kernel_rfl) rfl
      · replace h := fork_f c6 h
        refine W_skip ?_
        refine Gh_e ⟨⟨20, [(3, .bool w1)]⟩, [.lv 2 [.i a0.Low, .i a0.High]]⟩ ?_
        refine Gh_e ⟨⟨20, []⟩, [.lv 2 [.i a0.Low, .i a0.High]]⟩ ?_
        refine Gh_e ⟨⟨20, []⟩, [.lv 2 [.i a0.Low, .i a0.High]]⟩ ?_
        refine W_seq ?_
        refine W_reg ?_
        refine O_p 1 ?_
        refine O_nil ?_
        refine W_ret ?_
        replace h := Option.some.inj h; subst h
        exact Fin_free (l := [.i 0]) (by kernel_rfl) (by kernel_rfl) rfl

theorem p46 (a0 : SSequence) (a1 : SPlant) (r : (Int × (List SStep) × (List STravel))) (h : m46 a0 a1 = some r) : Pt E0 hp 46 [.agg (cSSequence a0), .agg (cSPlant a1)] (.fn 70 [.pro [.i r.1, .ro (r.2.1.map cSStep)], .pro [.ro (r.2.2.map cSTravel)]]) := by
  unfold m46 at h
  refine Pt_W (fn46) rfl (by decide) ?_
  refine W_seq ?_
  refine W_gh ?_
  refine W_reg ?_
  refine O_p 3 ?_
  refine O_nil ?_
  refine Gh_e ⟨⟨6, [(2, .po 0 0), (3, .po 1 0)]⟩, [.lv 2 [.i a0.Actuators, .ro (a0.Steps.map cSStep)], .lv 1 [.ro (a1.Travels.map cSTravel)]]⟩ ?_
  refine W_seq ?_
  refine W_gh ?_
  refine W_reg ?_
  refine O_p 2 ?_
  refine O_nil ?_
  refine Gh_e ⟨⟨6, [(4, .fn 70 [.po 0 0, .po 1 0])]⟩, [.lv 2 [.i a0.Actuators, .ro (a0.Steps.map cSStep)], .lv 1 [.ro (a1.Travels.map cSTravel)]]⟩ ?_
  refine W_ret ?_
  replace h := Option.some.inj h; subst h
  exact Fin_pk (l := [.fn 70 [.po 0 0, .po 1 0]]) (by kernel_rfl) (pk_fn (d := 5) (mapO_cons (pkc_box (id := 0) (nl := .norm) (sz := 2) (cs := [.i a0.Actuators, .ro (a0.Steps.map cSStep)]) (by kernel_rfl) (mapO_bels (bels_cons rfl (bels_cons (ro_bel okSStep.bel _) rfl)))) (mapO_cons (pkc_box (id := 1) (nl := .norm) (sz := 1) (cs := [.ro (a1.Travels.map cSTravel)]) (by kernel_rfl) (mapO_bels (bels_cons (ro_bel okSTravel.bel _) rfl))) rfl)))

theorem p55 (a0 : SPlant) (a1 : SStroke) (r : SSpan) (h : m55 a0 a1 = some r) : Pt E0 hp 55 [.agg (cSPlant a0), .agg (cSStroke a1)] (.agg [.i r.Low, .i r.High]) := by
  unfold m55 at h
  refine Pt_W (fn55) rfl (by decide) ?_
  refine W_seq ?_
  refine W_gh ?_
  refine W_reg ?_
  refine O_p 3 ?_
  refine O_nil ?_
  refine Gh_e ⟨⟨22, [(2, .po 0 0), (3, .po 1 0), (4, .po 2 0)]⟩, [.lv 1 [.ro (a0.Travels.map cSTravel)], .lv 2 [.i a1.Actuator, .bool a1.Out], .lv 2 [.i 0, .i 0]]⟩ ?_
  refine W_seq ?_
  refine W_reg ?_
  refine O_p 1 ?_
  refine O_nil ?_
  refine W_seq ?_
  refine W_seq ?_
  refine W_gh ?_
  refine W_reg ?_
  refine O_p 2 ?_
  refine O_nil ?_
  refine Gh_e ⟨⟨22, [(2, .po 0 0), (3, .po 1 0), (4, .po 2 0), (5, .i 0), (8, .bool a1.Out)]⟩, [.lv 1 [.ro (a0.Travels.map cSTravel)], .lv 2 [.i a1.Actuator, .bool a1.Out], .lv 2 [.i 0, .i 0]]⟩ ?_
  refine W_cut ⟨⟨22, [(2, .po 0 0), (3, .po 1 0), (4, .po 2 0), (5, .i (bif a1.Out then 1 else 0))]⟩, [.lv 1 [.ro (a0.Travels.map cSTravel)], .lv 2 [.i a1.Actuator, .bool a1.Out], .lv 2 [.i 0, .i 0]]⟩ ?_ ?_
  · generalize e_g1 : ((bif a1.Out then 1 else 0) : Int) = g1
    refine W_gh ?_
    refine W_cond (c := a1.Out) (by kernel_rfl) (fun c2 => ?_) (fun c2 => ?_)
    · skip
      refine W_reg ?_
      refine O_p 1 ?_
      refine O_nil ?_
      refine Gh_e ⟨⟨22, [(2, .po 0 0), (3, .po 1 0), (4, .po 2 0), (5, .i 1)]⟩, [.lv 1 [.ro (a0.Travels.map cSTravel)], .lv 2 [.i a1.Actuator, .bool a1.Out], .lv 2 [.i 0, .i 0]]⟩ ?_
      have q := e_g1; simp only [c2, cond_true, cond_false, Bool.true_and, Bool.false_and, Bool.true_or, Bool.false_or] at q; subst q
      show _ = _
      kernel_rfl
    · skip
      refine W_skip ?_
      refine Gh_e ⟨⟨22, [(2, .po 0 0), (3, .po 1 0), (4, .po 2 0), (5, .i 0)]⟩, [.lv 1 [.ro (a0.Travels.map cSTravel)], .lv 2 [.i a1.Actuator, .bool a1.Out], .lv 2 [.i 0, .i 0]]⟩ ?_
      have q := e_g1; simp only [c2, cond_true, cond_false, Bool.true_and, Bool.false_and, Bool.true_or, Bool.false_or] at q; subst q
      show _ = _
      kernel_rfl
  · refine W_seq ?_
    refine W_gh ?_
    refine W_reg ?_
    refine O_p 4 ?_
    refine O_idx (kd := .i64) cSTravel h (fun _ => rfl) (by kernel_rfl) (by kernel_rfl) (by kernel_rfl) (fun v3 e_v3 h => ?_)
    refine O_p 3 ?_
    refine O_nil ?_
    refine Gh_e ⟨⟨22, [(4, .po 2 0), (5, .i (bif a1.Out then 1 else 0)), (6, .po 3 0)]⟩, [.lv 1 [.ro (a0.Travels.map cSTravel)], .lv 2 [.i a1.Actuator, .bool a1.Out], .lv 2 [.i 0, .i 0], .lv 4 [.i v3.Out.Low, .i v3.Out.High, .i v3.In.Low, .i v3.In.High]]⟩ ?_
    refine W_seq ?_
    refine W_gh ?_
    refine W_reg ?_
    refine O_p 6 ?_
    refine O_idxL (kd := .i64) (l := [(v3.In.Low, v3.In.High), (v3.Out.Low, v3.Out.High)]) (cP2 cI_i64) h (fun _ => rfl) rfl (by kernel_rfl) (by kernel_rfl) (by kernel_rfl) (fun v4 e_v4 h => ?_)
    refine O_p 1 ?_
    refine O_nil ?_
    refine Gh_e ⟨⟨22, [(4, .po 2 0)]⟩, [.lv 1 [.ro (a0.Travels.map cSTravel)], .lv 2 [.i a1.Actuator, .bool a1.Out], .lv 2 [.i v4.1, .i v4.2], .lv 4 [.i v3.Out.Low, .i v3.Out.High, .i v3.In.Low, .i v3.In.High]]⟩ ?_
    refine W_ret ?_
    replace h := Option.some.inj h; subst h
    exact Fin_free (l := [.agg [.i v4.1, .i v4.2]]) (by kernel_rfl) (by kernel_rfl) rfl

theorem p76 (a0 : SStroke) (a1 : (List STravel)) (r : Int) (h : m76 a0 a1 = some r) : Pt E0 hp 76 [.agg (cSStroke a0), .pro [.ro (a1.map cSTravel)]] (.i r) := by
  unfold m76 at h
  refine Pt_W (fn76) rfl (by decide) ?_
  refine W_seq ?_
  refine W_gh ?_
  refine W_reg ?_
  refine O_p 2 ?_
  refine O_nil ?_
  refine Gh_e ⟨⟨8, [(1, .pro [.ro (a1.map cSTravel)]), (2, .po 0 0)]⟩, [.lv 2 [.i a0.Actuator, .bool a0.Out]]⟩ ?_
  refine W_seq ?_
  refine W_gh ?_
  refine W_reg ?_
  refine O_p 2 ?_
  refine O_call (fun v => .agg [.i v.Low, .i v.High]) h (.inr rfl) (ys := [.agg (cSPlant (⟨a1⟩ : SPlant)), .agg (cSStroke a0)]) (fun _ e => p55 _ _ _ e) (by kernel_rfl) (by kernel_rfl) (bels_cons (okSPlant.bel _) (bels_cons (okSStroke.bel _) rfl)) (fun v1 e_v1 h => ?_)
  refine O_p 2 ?_
  refine O_nil ?_
  refine Gh_e ⟨⟨8, [(3, .i v1.Low)]⟩, [.lv 2 [.i a0.Actuator, .bool a0.Out]]⟩ ?_
  refine W_ret ?_
  replace h := Option.some.inj h; subst h
  exact Fin_free (l := [.i v1.Low]) (by kernel_rfl) (by kernel_rfl) rfl

theorem p75_76 (a0 : (List SStroke)) (a1 : (List STravel)) (r : Int) (h : m75_76 a0 a1 = some r) : Pt E0 hp 75 [.ro (a0.map cSStroke), .fn 76 [.pro [.ro (a1.map cSTravel)]]] (.i r) := by
  unfold m75_76 at h
  refine Pt_W (fn75) rfl (by decide) ?_
  refine W_seq ?_
  refine W_gh ?_
  refine W_reg ?_
  refine O_p 1 ?_
  refine O_nil ?_
  refine Gh_e ⟨⟨21, [(0, .ro (a0.map cSStroke)), (1, .fn 76 [.pro [.ro (a1.map cSTravel)]])]⟩, []⟩ ?_
  refine W_seq ?_
  refine W_reg ?_
  refine O_p 1 ?_
  refine O_nil ?_
  refine W_seq ?_
  refine W_seq ?_
  refine W_gh ?_
  refine W_reg ?_
  refine O_p 1 ?_
  refine O_len (l := a0) cSStroke (by kernel_rfl) (by kernel_rfl) ?_
  refine O_p 1 ?_
  refine O_nil ?_
  refine Gh_e ⟨⟨21, [(1, .fn 76 [.pro [.ro (a1.map cSTravel)]]), (5, .i 0), (8, .ro (a0.map cSStroke)), (9, .i (a0.length : Int)), (10, .i 0)]⟩, []⟩ ?_
  refine W_loopS (fun s1 : Int × Int => ⟨⟨21, [(1, .fn 76 [.pro [.ro (a1.map cSTravel)]]), (5, .i s1.2), (8, .ro (a0.map cSStroke)), (9, .i (a0.length : Int)), (10, .i s1.1)]⟩, []⟩) (fun w2 : Int => ⟨⟨21, [(5, .i w2)]⟩, []⟩) h (by kernel_rfl) (fun s1 c h => ?_) (fun w2 e_w2 h => ?_)
  · refine W_gh ?_
    refine W_seq ?_
    refine W_reg ?_
    refine O_p 1 ?_
    refine O_nil ?_
    refine W_seq ?_
    refine W_gh ?_
    refine W_cond (c := (decide (s1.1 < (a0.length : Int)))) (by kernel_rfl) (fun c3 => ?_) (fun c3 => ?_)
    · replace h := fork_t c3 h
      refine W_skip ?_
      refine Gh_e ⟨⟨21, [(1, .fn 76 [.pro [.ro (a1.map cSTravel)]]), (5, .i s1.2), (8, .ro (a0.map cSStroke)), (9, .i (a0.length : Int)), (10, .i s1.1)]⟩, []⟩ ?_
      refine W_seq ?_
      refine W_gh ?_
      refine W_block ?_
      refine W_seq ?_
      refine W_gh ?_
      refine W_reg ?_
      refine O_idx (kd := .i64) cSStroke h (fun _ => rfl) (by kernel_rfl) (by kernel_rfl) (by kernel_rfl) (fun v4 e_v4 h => ?_)
      refine O_p 3 ?_
      refine O_nil ?_
      refine Gh_e ⟨⟨21, [(1, .fn 76 [.pro [.ro (a1.map cSTravel)]]), (5, .i s1.2), (7, .po 0 0), (8, .ro (a0.map cSStroke)), (9, .i (a0.length : Int)), (10, .i s1.1)]⟩, [.lv 2 [.i v4.Actuator, .bool v4.Out]]⟩ ?_
      refine W_gh ?_
      refine W_reg ?_
      refine O_p 3 ?_
      refine O_callv (f := 76) (cap := [.pro [.ro (a1.map cSTravel)]]) (fun v => .i v) h (.inr rfl) (by kernel_rfl) (ys := [.agg (cSStroke v4), .pro [.ro (a1.map cSTravel)]]) (fun _ e => p76 _ _ _ e) (by kernel_rfl) (by kernel_rfl) (bels_cons (okSStroke.bel _) (bels_cons (bels_cons (ro_bel okSTravel.bel _) rfl) rfl)) (fun v5 e_v5 h => ?_)
      refine O_p 2 ?_
      refine O_nil ?_
      refine Gh_one (s1 := ⟨⟨21, [(1, .fn 76 [.pro [.ro (a1.map cSTravel)]]), (5, .i (maxI s1.2 v5)), (8, .ro (a0.map cSStroke)), (9, .i (a0.length : Int)), (10, .i s1.1)]⟩, [.lv 2 [.i v4.Actuator, .bool v4.Out]]⟩) (by kernel_rfl) ?_
      refine Gh_trunc0 (by kernel_rfl) ?_
      refine Gh_nil ?_
      refine Gh_one (s1 := ⟨⟨21, [(1, .fn 76 [.pro [.ro (a1.map cSTravel)]]), (5, .i (maxI s1.2 v5)), (8, .ro (a0.map cSStroke)), (9, .i (a0.length : Int)), (10, .i s1.1)]⟩, [.lv 2 [.i v4.Actuator, .bool v4.Out]]⟩) (by kernel_rfl) ?_
      refine Gh_at (s1 := ⟨⟨21, [(1, .fn 76 [.pro [.ro (a1.map cSTravel)]]), (5, .i (maxI s1.2 v5)), (8, .ro (a0.map cSStroke)), (9, .i (a0.length : Int)), (10, .i s1.1)]⟩, [.lv 2 [.i v4.Actuator, .bool v4.Out]]⟩) (by kernel_rfl) ?_
      refine Gh_trunc (s1 := ⟨⟨21, [(1, .fn 76 [.pro [.ro (a1.map cSTravel)]]), (5, .i (maxI s1.2 v5)), (8, .ro (a0.map cSStroke)), (9, .i (a0.length : Int)), (10, .i s1.1)]⟩, []⟩) (by kernel_rfl) (tb_free (bels_cons (bels_cons (ro_bel okSTravel.bel _) rfl) rfl) (tb_free rfl (tb_free (ro_bel okSStroke.bel _) (tb_free rfl (tb_free rfl rfl))))) (H1 := []) (by kernel_rfl) rfl (by kernel_rfl) ?_
      refine Gh_nil ?_
      refine W_gh ?_
      refine W_reg ?_
      refine O_p 2 ?_
      refine O_nil ?_
      refine Gh_e ⟨⟨21, [(1, .fn 76 [.pro [.ro (a1.map cSTravel)]]), (5, .i (maxI s1.2 v5)), (8, .ro (a0.map cSStroke)), (9, .i (a0.length : Int)), (10, .i (addI .i64 s1.1 1))]⟩, []⟩ ?_
      refine Gh_one (s1 := ⟨⟨21, [(1, .fn 76 [.pro [.ro (a1.map cSTravel)]]), (5, .i (maxI s1.2 v5)), (8, .ro (a0.map cSStroke)), (9, .i (a0.length : Int)), (10, .i (addI .i64 s1.1 1))]⟩, []⟩) (by kernel_rfl) ?_
      refine Gh_trunc0 (by kernel_rfl) ?_
      refine Gh_nil ?_
      replace h := Option.some.inj h; subst h
      exact ⟨_, rfl, by kernel_rfl⟩
    · replace h := fork_f c3 h
      refine W_exit ?_
      refine X_hit ?_
      refine Gh_one (s1 := ⟨⟨21, [(5, .i s1.2)]⟩, []⟩) (by kernel_rfl) ?_
      refine Gh_trunc0 (by kernel_rfl) ?_
      refine Gh_nil ?_
      replace h := Option.some.inj h; subst h
      exact ⟨_, rfl, by kernel_rfl⟩
  · refine W_seq ?_
    refine W_gh ?_
    refine W_reg ?_
    refine O_p 2 ?_
    refine O_nil ?_
    refine Gh_e ⟨⟨21, [(4, .i w2)]⟩, []⟩ ?_
    refine W_ret ?_
    replace h := Option.some.inj h; subst h
    exact Fin_free (l := [.i w2]) (by kernel_rfl) (by kernel_rfl) rfl

theorem p77 (a0 : SStroke) (a1 : (List STravel)) (r : Int) (h : m77 a0 a1 = some r) : Pt E0 hp 77 [.agg (cSStroke a0), .pro [.ro (a1.map cSTravel)]] (.i r) := by
  unfold m77 at h
  refine Pt_W (fn77) rfl (by decide) ?_
  refine W_seq ?_
  refine W_gh ?_
  refine W_reg ?_
  refine O_p 2 ?_
  refine O_nil ?_
  refine Gh_e ⟨⟨8, [(1, .pro [.ro (a1.map cSTravel)]), (2, .po 0 0)]⟩, [.lv 2 [.i a0.Actuator, .bool a0.Out]]⟩ ?_
  refine W_seq ?_
  refine W_gh ?_
  refine W_reg ?_
  refine O_p 2 ?_
  refine O_call (fun v => .agg [.i v.Low, .i v.High]) h (.inr rfl) (ys := [.agg (cSPlant (⟨a1⟩ : SPlant)), .agg (cSStroke a0)]) (fun _ e => p55 _ _ _ e) (by kernel_rfl) (by kernel_rfl) (bels_cons (okSPlant.bel _) (bels_cons (okSStroke.bel _) rfl)) (fun v1 e_v1 h => ?_)
  refine O_p 2 ?_
  refine O_nil ?_
  refine Gh_e ⟨⟨8, [(3, .i v1.High)]⟩, [.lv 2 [.i a0.Actuator, .bool a0.Out]]⟩ ?_
  refine W_ret ?_
  replace h := Option.some.inj h; subst h
  exact Fin_free (l := [.i v1.High]) (by kernel_rfl) (by kernel_rfl) rfl

theorem p75_77 (a0 : (List SStroke)) (a1 : (List STravel)) (r : Int) (h : m75_77 a0 a1 = some r) : Pt E0 hp 75 [.ro (a0.map cSStroke), .fn 77 [.pro [.ro (a1.map cSTravel)]]] (.i r) := by
  unfold m75_77 at h
  refine Pt_W (fn75) rfl (by decide) ?_
  refine W_seq ?_
  refine W_gh ?_
  refine W_reg ?_
  refine O_p 1 ?_
  refine O_nil ?_
  refine Gh_e ⟨⟨21, [(0, .ro (a0.map cSStroke)), (1, .fn 77 [.pro [.ro (a1.map cSTravel)]])]⟩, []⟩ ?_
  refine W_seq ?_
  refine W_reg ?_
  refine O_p 1 ?_
  refine O_nil ?_
  refine W_seq ?_
  refine W_seq ?_
  refine W_gh ?_
  refine W_reg ?_
  refine O_p 1 ?_
  refine O_len (l := a0) cSStroke (by kernel_rfl) (by kernel_rfl) ?_
  refine O_p 1 ?_
  refine O_nil ?_
  refine Gh_e ⟨⟨21, [(1, .fn 77 [.pro [.ro (a1.map cSTravel)]]), (5, .i 0), (8, .ro (a0.map cSStroke)), (9, .i (a0.length : Int)), (10, .i 0)]⟩, []⟩ ?_
  refine W_loopS (fun s1 : Int × Int => ⟨⟨21, [(1, .fn 77 [.pro [.ro (a1.map cSTravel)]]), (5, .i s1.2), (8, .ro (a0.map cSStroke)), (9, .i (a0.length : Int)), (10, .i s1.1)]⟩, []⟩) (fun w2 : Int => ⟨⟨21, [(5, .i w2)]⟩, []⟩) h (by kernel_rfl) (fun s1 c h => ?_) (fun w2 e_w2 h => ?_)
  · refine W_gh ?_
    refine W_seq ?_
    refine W_reg ?_
    refine O_p 1 ?_
    refine O_nil ?_
    refine W_seq ?_
    refine W_gh ?_
    refine W_cond (c := (decide (s1.1 < (a0.length : Int)))) (by kernel_rfl) (fun c3 => ?_) (fun c3 => ?_)
    · replace h := fork_t c3 h
      refine W_skip ?_
      refine Gh_e ⟨⟨21, [(1, .fn 77 [.pro [.ro (a1.map cSTravel)]]), (5, .i s1.2), (8, .ro (a0.map cSStroke)), (9, .i (a0.length : Int)), (10, .i s1.1)]⟩, []⟩ ?_
      refine W_seq ?_
      refine W_gh ?_
      refine W_block ?_
      refine W_seq ?_
      refine W_gh ?_
      refine W_reg ?_
      refine O_idx (kd := .i64) cSStroke h (fun _ => rfl) (by kernel_rfl) (by kernel_rfl) (by kernel_rfl) (fun v4 e_v4 h => ?_)
      refine O_p 3 ?_
      refine O_nil ?_
      refine Gh_e ⟨⟨21, [(1, .fn 77 [.pro [.ro (a1.map cSTravel)]]), (5, .i s1.2), (7, .po 0 0), (8, .ro (a0.map cSStroke)), (9, .i (a0.length : Int)), (10, .i s1.1)]⟩, [.lv 2 [.i v4.Actuator, .bool v4.Out]]⟩ ?_
      refine W_gh ?_
      refine W_reg ?_
      refine O_p 3 ?_
      refine O_callv (f := 77) (cap := [.pro [.ro (a1.map cSTravel)]]) (fun v => .i v) h (.inr rfl) (by kernel_rfl) (ys := [.agg (cSStroke v4), .pro [.ro (a1.map cSTravel)]]) (fun _ e => p77 _ _ _ e) (by kernel_rfl) (by kernel_rfl) (bels_cons (okSStroke.bel _) (bels_cons (bels_cons (ro_bel okSTravel.bel _) rfl) rfl)) (fun v5 e_v5 h => ?_)
      refine O_p 2 ?_
      refine O_nil ?_
      refine Gh_one (s1 := ⟨⟨21, [(1, .fn 77 [.pro [.ro (a1.map cSTravel)]]), (5, .i (maxI s1.2 v5)), (8, .ro (a0.map cSStroke)), (9, .i (a0.length : Int)), (10, .i s1.1)]⟩, [.lv 2 [.i v4.Actuator, .bool v4.Out]]⟩) (by kernel_rfl) ?_
      refine Gh_trunc0 (by kernel_rfl) ?_
      refine Gh_nil ?_
      refine Gh_one (s1 := ⟨⟨21, [(1, .fn 77 [.pro [.ro (a1.map cSTravel)]]), (5, .i (maxI s1.2 v5)), (8, .ro (a0.map cSStroke)), (9, .i (a0.length : Int)), (10, .i s1.1)]⟩, [.lv 2 [.i v4.Actuator, .bool v4.Out]]⟩) (by kernel_rfl) ?_
      refine Gh_at (s1 := ⟨⟨21, [(1, .fn 77 [.pro [.ro (a1.map cSTravel)]]), (5, .i (maxI s1.2 v5)), (8, .ro (a0.map cSStroke)), (9, .i (a0.length : Int)), (10, .i s1.1)]⟩, [.lv 2 [.i v4.Actuator, .bool v4.Out]]⟩) (by kernel_rfl) ?_
      refine Gh_trunc (s1 := ⟨⟨21, [(1, .fn 77 [.pro [.ro (a1.map cSTravel)]]), (5, .i (maxI s1.2 v5)), (8, .ro (a0.map cSStroke)), (9, .i (a0.length : Int)), (10, .i s1.1)]⟩, []⟩) (by kernel_rfl) (tb_free (bels_cons (bels_cons (ro_bel okSTravel.bel _) rfl) rfl) (tb_free rfl (tb_free (ro_bel okSStroke.bel _) (tb_free rfl (tb_free rfl rfl))))) (H1 := []) (by kernel_rfl) rfl (by kernel_rfl) ?_
      refine Gh_nil ?_
      refine W_gh ?_
      refine W_reg ?_
      refine O_p 2 ?_
      refine O_nil ?_
      refine Gh_e ⟨⟨21, [(1, .fn 77 [.pro [.ro (a1.map cSTravel)]]), (5, .i (maxI s1.2 v5)), (8, .ro (a0.map cSStroke)), (9, .i (a0.length : Int)), (10, .i (addI .i64 s1.1 1))]⟩, []⟩ ?_
      refine Gh_one (s1 := ⟨⟨21, [(1, .fn 77 [.pro [.ro (a1.map cSTravel)]]), (5, .i (maxI s1.2 v5)), (8, .ro (a0.map cSStroke)), (9, .i (a0.length : Int)), (10, .i (addI .i64 s1.1 1))]⟩, []⟩) (by kernel_rfl) ?_
      refine Gh_trunc0 (by kernel_rfl) ?_
      refine Gh_nil ?_
      replace h := Option.some.inj h; subst h
      exact ⟨_, rfl, by kernel_rfl⟩
    · replace h := fork_f c3 h
      refine W_exit ?_
      refine X_hit ?_
      refine Gh_one (s1 := ⟨⟨21, [(5, .i s1.2)]⟩, []⟩) (by kernel_rfl) ?_
      refine Gh_trunc0 (by kernel_rfl) ?_
      refine Gh_nil ?_
      replace h := Option.some.inj h; subst h
      exact ⟨_, rfl, by kernel_rfl⟩
  · refine W_seq ?_
    refine W_gh ?_
    refine W_reg ?_
    refine O_p 2 ?_
    refine O_nil ?_
    refine Gh_e ⟨⟨21, [(4, .i w2)]⟩, []⟩ ?_
    refine W_ret ?_
    replace h := Option.some.inj h; subst h
    exact Fin_free (l := [.i w2]) (by kernel_rfl) (by kernel_rfl) rfl

theorem p57 (a0 : SPlant) (a1 : SStep) (r : SSpan) (h : m57 a0 a1 = some r) : Pt E0 hp 57 [.agg (cSPlant a0), .agg (cSStep a1)] (.agg [.i r.Low, .i r.High]) := by
  unfold m57 at h
  refine Pt_W (fn57) rfl (by decide) ?_
  refine W_seq ?_
  refine W_gh ?_
  refine W_reg ?_
  refine O_p 3 ?_
  refine O_nil ?_
  refine Gh_e ⟨⟨14, [(2, .po 0 0), (3, .po 1 0), (4, .po 2 0)]⟩, [.lv 1 [.ro (a0.Travels.map cSTravel)], .lv 2 [.ro (a1.Strokes.map cSStroke), .i a1.Wait], .lv 2 [.i 0, .i 0]]⟩ ?_
  refine W_seq ?_
  refine W_gh ?_
  refine W_draw ?_
  refine O_p 3 ?_
  refine O_lent (fun v => .i v) h (.inr rfl) (ys := [.ro (a1.Strokes.map cSStroke), .fn 76 [.pro [.ro (a0.Travels.map cSTravel)]]]) (fun _ e => p75_76 _ _ _ e) (by kernel_rfl) (snaps_of (xs := [.ro (a1.Strokes.map cSStroke), .fn 76 [.po 0 0]]) (by kernel_rfl) (mapO_cons (pk_free (ro_bel okSStroke.bel _)) (mapO_cons (pk_fn (d := 5) (mapO_cons (pkc_box (id := 0) (nl := .norm) (sz := 1) (cs := [.ro (a0.Travels.map cSTravel)]) (by kernel_rfl) (mapO_bels (bels_cons (ro_bel okSTravel.bel _) rfl))) rfl)) rfl))) (fun _ => rfl) (fun v1 e_v1 h => ?_)
  refine O_p 3 ?_
  refine O_lent (fun v => .i v) h (.inr rfl) (ys := [.ro (a1.Strokes.map cSStroke), .fn 77 [.pro [.ro (a0.Travels.map cSTravel)]]]) (fun _ e => p75_77 _ _ _ e) (by kernel_rfl) (snaps_of (xs := [.ro (a1.Strokes.map cSStroke), .fn 77 [.po 0 0]]) (by kernel_rfl) (mapO_cons (pk_free (ro_bel okSStroke.bel _)) (mapO_cons (pk_fn (d := 5) (mapO_cons (pkc_box (id := 0) (nl := .norm) (sz := 1) (cs := [.ro (a0.Travels.map cSTravel)]) (by kernel_rfl) (mapO_bels (bels_cons (ro_bel okSTravel.bel _) rfl))) rfl)) rfl))) (fun _ => rfl) (fun v2 e_v2 h => ?_)
  refine O_p 2 ?_
  refine O_nil ?_
  refine Gh_e ⟨⟨14, [(4, .po 2 0)]⟩, [.lv 1 [.ro (a0.Travels.map cSTravel)], .lv 2 [.ro (a1.Strokes.map cSStroke), .i a1.Wait], .lv 2 [.i v1, .i v2]]⟩ ?_
  refine W_ret ?_
  replace h := Option.some.inj h; subst h
  exact Fin_free (l := [.agg [.i v1, .i v2]]) (by kernel_rfl) (by kernel_rfl) rfl

theorem p54 (a0 : SSpan) (a1 : SSpan) (r : SSpan) (h : m54 a0 a1 = some r) : Pt E0 hp 54 [.agg (cSSpan a0), .agg (cSSpan a1)] (.agg [.i r.Low, .i r.High]) := by
  unfold m54 at h
  refine Pt_W (fn54) rfl (by decide) ?_
  refine W_seq ?_
  refine W_gh ?_
  refine W_reg ?_
  refine O_p 3 ?_
  refine O_nil ?_
  refine Gh_e ⟨⟨16, [(2, .po 0 0), (3, .po 1 0), (4, .po 2 0)]⟩, [.lv 2 [.i a0.Low, .i a0.High], .lv 2 [.i a1.Low, .i a1.High], .lv 2 [.i 0, .i 0]]⟩ ?_
  refine W_seq ?_
  refine W_gh ?_
  refine W_reg ?_
  refine O_p 12 ?_
  refine O_nil ?_
  refine Gh_e ⟨⟨16, [(4, .po 2 0)]⟩, [.lv 2 [.i a0.Low, .i a0.High], .lv 2 [.i a1.Low, .i a1.High], .lv 2 [.i (addI .i64 a0.Low a1.Low), .i (addI .i64 a0.High a1.High)]]⟩ ?_
  refine W_ret ?_
  replace h := Option.some.inj h; subst h
  exact Fin_free (l := [.agg [.i (addI .i64 a0.Low a1.Low), .i (addI .i64 a0.High a1.High)]]) (by kernel_rfl) (by kernel_rfl) rfl

theorem p56 (a0 : SSpan) (a1 : Int) (r : SSpan) (h : m56 a0 a1 = some r) : Pt E0 hp 56 [.agg (cSSpan a0), .i a1] (.agg [.i r.Low, .i r.High]) := by
  unfold m56 at h
  refine Pt_W (fn56) rfl (by decide) ?_
  refine W_seq ?_
  refine W_gh ?_
  refine W_reg ?_
  refine O_p 2 ?_
  refine O_nil ?_
  refine Gh_e ⟨⟨10, [(1, .i a1), (2, .po 0 0), (4, .po 1 0)]⟩, [.lv 2 [.i a0.Low, .i a0.High], .lv 2 [.i 0, .i 0]]⟩ ?_
  refine W_seq ?_
  refine W_gh ?_
  refine W_reg ?_
  refine O_p 4 ?_
  refine O_call (fun v => .agg [.i v.Low, .i v.High]) h (.inr rfl) (ys := [.agg (cSSpan a0), .agg (cSSpan (⟨a1, a1⟩ : SSpan))]) (fun _ e => p54 _ _ _ e) (by kernel_rfl) (by kernel_rfl) (bels_cons (okSSpan.bel _) (bels_cons (okSSpan.bel _) rfl)) (fun v1 e_v1 h => ?_)
  refine O_p 1 ?_
  refine O_nil ?_
  refine Gh_e ⟨⟨10, [(4, .po 1 0)]⟩, [.lv 2 [.i a0.Low, .i a0.High], .lv 2 [.i v1.Low, .i v1.High]]⟩ ?_
  refine W_ret ?_
  replace h := Option.some.inj h; subst h
  exact Fin_free (l := [.agg [.i v1.Low, .i v1.High]]) (by kernel_rfl) (by kernel_rfl) rfl

theorem p48 (a0 : SSequence) (a1 : SPlant) (r : SSpan) (h : m48 a0 a1 = some r) : Pt E0 hp 48 [.agg (cSSequence a0), .agg (cSPlant a1)] (.agg [.i r.Low, .i r.High]) := by
  unfold m48 at h
  refine Pt_W (fn48) rfl (by decide) ?_
  refine W_seq ?_
  refine W_gh ?_
  refine W_reg ?_
  refine O_p 3 ?_
  refine O_nil ?_
  refine Gh_e ⟨⟨16, [(2, .po 0 0), (3, .po 1 0), (4, .po 2 0)]⟩, [.lv 2 [.i a0.Actuators, .ro (a0.Steps.map cSStep)], .lv 1 [.ro (a1.Travels.map cSTravel)], .lv 2 [.i 0, .i 0]]⟩ ?_
  refine W_seq ?_
  refine W_reg ?_
  refine O_p 1 ?_
  refine O_nil ?_
  refine W_seq ?_
  refine W_seq ?_
  refine W_gh ?_
  refine W_reg ?_
  refine O_p 2 ?_
  refine O_call (fun v => .fn 70 [.pro [.i v.1, .ro (v.2.1.map cSStep)], .pro [.ro (v.2.2.map cSTravel)]]) h (.inr rfl) (ys := [.agg (cSSequence a0), .agg (cSPlant a1)]) (fun _ e => p46 _ _ _ e) (by kernel_rfl) (by kernel_rfl) (bels_cons (okSSequence.bel _) (bels_cons (okSPlant.bel _) rfl)) (fun v1 e_v1 h => ?_)
  refine O_nil ?_
  refine Gh_e ⟨⟨16, [(4, .po 2 0), (5, .po 3 0), (10, .fn 70 [.pro [.i v1.1, .ro (v1.2.1.map cSStep)], .pro [.ro (v1.2.2.map cSTravel)]])]⟩, [.lv 2 [.i a0.Actuators, .ro (a0.Steps.map cSStep)], .lv 1 [.ro (a1.Travels.map cSTravel)], .lv 2 [.i 0, .i 0], .lv 2 [.i 0, .i 0]]⟩ ?_
  obtain ⟨y2, e_y2, h⟩ := bind_some h
  refine W_rfn (i := 0) (L := 4) C70 (fun s3 : Int × Int => [.lv 2 [.i a0.Actuators, .ro (a0.Steps.map cSStep)], .lv 1 [.ro (a1.Travels.map cSTravel)], .lv 2 [.i 0, .i 0], .lv 2 [.i s3.1, .i s3.2]]) (fun w5 : Int × Int => ⟨⟨16, [(4, .po 2 0), (5, .po 3 0)]⟩, [.lv 2 [.i a0.Actuators, .ro (a0.Steps.map cSStep)], .lv 1 [.ro (a1.Travels.map cSTravel)], .lv 2 [.i 0, .i 0], .lv 2 [.i w5.1, .i w5.2]]⟩) (gen70 _ _ _ _ e_y2) h (by kernel_rfl) (bels_cons (bels_cons rfl (bels_cons (ro_bel okSStep.bel _) rfl)) (bels_cons (bels_cons (ro_bel okSTravel.bel _) rfl) rfl)) (fun _ => rfl) (fun _ => rfl) (by kernel_rfl) (by kernel_rfl) (fun s3 x4 c h => ?_) (fun s3 => ?_) (fun w5 h => ?_)
  · refine W_at (s1 := ⟨⟨16, [(4, .po 2 0), (5, .po 3 0), (10, .fn 70 [.pro [.i v1.1, .ro (v1.2.1.map cSStep)], .pro [.ro (v1.2.2.map cSTravel)]]), (11, .i x4.1), (12, .agg [.i x4.2.Begin.Low, .i x4.2.Begin.High, .i x4.2.Moved.Low, .i x4.2.Moved.High, .i x4.2.End.Low, .i x4.2.End.High])]⟩, [.lv 2 [.i a0.Actuators, .ro (a0.Steps.map cSStep)], .lv 1 [.ro (a1.Travels.map cSTravel)], .lv 2 [.i 0, .i 0], .lv 2 [.i s3.1, .i s3.2]]⟩) (by kernel_rfl) ?_
    refine W_gh ?_
    refine W_reg ?_
    refine O_p 2 ?_
    refine O_nil ?_
    refine Gh_e ⟨⟨16, [(4, .po 2 0), (5, .po 3 0), (7, .po 4 0), (10, .fn 70 [.pro [.i v1.1, .ro (v1.2.1.map cSStep)], .pro [.ro (v1.2.2.map cSTravel)]]), (11, .i x4.1)]⟩, [.lv 2 [.i a0.Actuators, .ro (a0.Steps.map cSStep)], .lv 1 [.ro (a1.Travels.map cSTravel)], .lv 2 [.i 0, .i 0], .lv 2 [.i s3.1, .i s3.2], .lv 6 [.i x4.2.Begin.Low, .i x4.2.Begin.High, .i x4.2.Moved.Low, .i x4.2.Moved.High, .i x4.2.End.Low, .i x4.2.End.High]]⟩ ?_
    refine W_gh ?_
    refine W_block ?_
    refine W_gh ?_
    refine W_reg ?_
    refine O_p 3 ?_
    refine O_nil ?_
    refine Gh_e ⟨⟨16, [(4, .po 2 0), (10, .fn 70 [.pro [.i v1.1, .ro (v1.2.1.map cSStep)], .pro [.ro (v1.2.2.map cSTravel)]]), (11, .i x4.1)]⟩, [.lv 2 [.i a0.Actuators, .ro (a0.Steps.map cSStep)], .lv 1 [.ro (a1.Travels.map cSTravel)], .lv 2 [.i 0, .i 0], .lv 2 [.i x4.2.End.Low, .i x4.2.End.High], .lv 6 [.i x4.2.Begin.Low, .i x4.2.Begin.High, .i x4.2.Moved.Low, .i x4.2.Moved.High, .i x4.2.End.Low, .i x4.2.End.High]]⟩ ?_
    refine Gh_one (s1 := ⟨⟨16, [(4, .po 2 0), (10, .fn 70 [.pro [.i v1.1, .ro (v1.2.1.map cSStep)], .pro [.ro (v1.2.2.map cSTravel)]]), (11, .i x4.1)]⟩, [.lv 2 [.i a0.Actuators, .ro (a0.Steps.map cSStep)], .lv 1 [.ro (a1.Travels.map cSTravel)], .lv 2 [.i 0, .i 0], .lv 2 [.i x4.2.End.Low, .i x4.2.End.High], .lv 6 [.i x4.2.Begin.Low, .i x4.2.Begin.High, .i x4.2.Moved.Low, .i x4.2.Moved.High, .i x4.2.End.Low, .i x4.2.End.High]]⟩) (by kernel_rfl) ?_
    refine Gh_at (s1 := ⟨⟨16, [(4, .po 2 0), (10, .fn 70 [.pro [.i v1.1, .ro (v1.2.1.map cSStep)], .pro [.ro (v1.2.2.map cSTravel)]]), (11, .i x4.1)]⟩, [.lv 2 [.i a0.Actuators, .ro (a0.Steps.map cSStep)], .lv 1 [.ro (a1.Travels.map cSTravel)], .lv 2 [.i 0, .i 0], .lv 2 [.i x4.2.End.Low, .i x4.2.End.High], .lv 6 [.i x4.2.Begin.Low, .i x4.2.Begin.High, .i x4.2.Moved.Low, .i x4.2.Moved.High, .i x4.2.End.Low, .i x4.2.End.High]]⟩) (by kernel_rfl) ?_
    refine Gh_trunc (s1 := ⟨⟨16, [(4, .po 2 0), (10, .fn 70 [.pro [.i v1.1, .ro (v1.2.1.map cSStep)], .pro [.ro (v1.2.2.map cSTravel)]]), (11, .i x4.1)]⟩, [.lv 2 [.i a0.Actuators, .ro (a0.Steps.map cSStep)], .lv 1 [.ro (a1.Travels.map cSTravel)], .lv 2 [.i 0, .i 0], .lv 2 [.i x4.2.End.Low, .i x4.2.End.High]]⟩) (by kernel_rfl) (tb_ref rfl (tb_free (bels_cons (bels_cons rfl (bels_cons (ro_bel okSStep.bel _) rfl)) (bels_cons (bels_cons (ro_bel okSTravel.bel _) rfl) rfl)) (tb_free rfl rfl))) (H1 := [.lv 2 [.i a0.Actuators, .ro (a0.Steps.map cSStep)], .lv 1 [.ro (a1.Travels.map cSTravel)], .lv 2 [.i 0, .i 0], .lv 2 [.i x4.2.End.Low, .i x4.2.End.High]]) (by kernel_rfl) (ob_boxn (bn_free rfl (bn_free (ro_bel okSStep.bel _) rfl)) (ob_boxn (bn_free (ro_bel okSTravel.bel _) rfl) (ob_boxn (bn_free rfl (bn_free rfl rfl)) (ob_boxn (bn_free rfl (bn_free rfl rfl)) rfl)))) (by kernel_rfl) ?_
    refine Gh_nil ?_
    replace h := Option.some.inj h; subst h
    exact ⟨_, rfl, by kernel_rfl⟩
  · refine Gh_e ⟨⟨16, [(4, .po 2 0), (5, .po 3 0)]⟩, [.lv 2 [.i a0.Actuators, .ro (a0.Steps.map cSStep)], .lv 1 [.ro (a1.Travels.map cSTravel)], .lv 2 [.i 0, .i 0], .lv 2 [.i s3.1, .i s3.2]]⟩ ?_
    refine Gh_one (s1 := ⟨⟨16, [(4, .po 2 0), (5, .po 3 0)]⟩, [.lv 2 [.i a0.Actuators, .ro (a0.Steps.map cSStep)], .lv 1 [.ro (a1.Travels.map cSTravel)], .lv 2 [.i 0, .i 0], .lv 2 [.i s3.1, .i s3.2]]⟩) (by kernel_rfl) ?_
    refine Gh_trunc0 (by kernel_rfl) ?_
    refine Gh_nil ?_
    show _ = _
    kernel_rfl
  · refine W_seq ?_
    refine W_gh ?_
    refine W_reg ?_
    refine O_p 2 ?_
    refine O_nil ?_
    refine Gh_e ⟨⟨16, [(4, .po 2 0)]⟩, [.lv 2 [.i a0.Actuators, .ro (a0.Steps.map cSStep)], .lv 1 [.ro (a1.Travels.map cSTravel)], .lv 2 [.i w5.1, .i w5.2], .lv 2 [.i w5.1, .i w5.2]]⟩ ?_
    refine W_ret ?_
    replace h := Option.some.inj h; subst h
    exact Fin_free (l := [.agg [.i w5.1, .i w5.2]]) (by kernel_rfl) (by kernel_rfl) rfl

theorem p17 (a0 : SSequence) (a1 : SPlant) (r : Int) (h : m17 a0 a1 = some r) : Pt E0 hp 17 [.agg (cSSequence a0), .agg (cSPlant a1)] (.i r) := by
  unfold m17 at h
  refine Pt_W (fn17) rfl (by decide) ?_
  refine W_seq ?_
  refine W_gh ?_
  refine W_reg ?_
  refine O_p 3 ?_
  refine O_nil ?_
  refine Gh_e ⟨⟨51, [(2, .po 0 0), (3, .po 1 0)]⟩, [.lv 2 [.i a0.Actuators, .ro (a0.Steps.map cSStep)], .lv 1 [.ro (a1.Travels.map cSTravel)]]⟩ ?_
  refine W_seq ?_
  refine W_seq ?_
  refine W_gh ?_
  refine W_reg ?_
  refine O_p 1 ?_
  refine O_call (fun v => .i v) h (.inr rfl) (ys := [.agg (cSSequence a0)]) (fun _ e => p41 _ _ e) (by kernel_rfl) (by kernel_rfl) (bels_cons (okSSequence.bel _) rfl) (fun v1 e_v1 h => ?_)
  refine O_p 1 ?_
  refine O_nil ?_
  refine Gh_e ⟨⟨51, [(2, .po 0 0), (3, .po 1 0), (5, .i v1)]⟩, [.lv 2 [.i a0.Actuators, .ro (a0.Steps.map cSStep)], .lv 1 [.ro (a1.Travels.map cSTravel)]]⟩ ?_
  refine W_seq ?_
  refine W_gh ?_
  refine W_reg ?_
  refine O_p 2 ?_
  refine O_nil ?_
  refine Gh_e ⟨⟨51, [(2, .po 0 0), (3, .po 1 0), (5, .i v1), (14, .bool (v1 != 0))]⟩, [.lv 2 [.i a0.Actuators, .ro (a0.Steps.map cSStep)], .lv 1 [.ro (a1.Travels.map cSTravel)]]⟩ ?_
  refine W_gh ?_
  refine W_cond (c := (v1 != 0)) (by kernel_rfl) (fun c2 => ?_) (fun c2 => ?_)
  · replace h := fork_t c2 h
    refine W_seq ?_
    refine W_gh ?_
    refine W_reg ?_
    refine O_p 2 ?_
    refine O_nil ?_
    refine Gh_e ⟨⟨51, [(2, .po 0 0), (3, .po 1 0), (4, .i v1), (14, .bool (v1 != 0))]⟩, [.lv 2 [.i a0.Actuators, .ro (a0.Steps.map cSStep)], .lv 1 [.ro (a1.Travels.map cSTravel)]]⟩ ?_
    refine W_ret ?_
    replace h := Option.some.inj h; subst h
    exact Fin_free (l := [.i v1]) (by kernel_rfl) (by kernel_rfl) rfl
  · replace h := fork_f c2 h
    refine W_skip ?_
    refine Gh_e ⟨⟨51, [(2, .po 0 0), (3, .po 1 0)]⟩, [.lv 2 [.i a0.Actuators, .ro (a0.Steps.map cSStep)], .lv 1 [.ro (a1.Travels.map cSTravel)]]⟩ ?_
    refine W_seq ?_
    refine W_seq ?_
    refine W_gh ?_
    refine W_reg ?_
    refine O_p 2 ?_
    refine O_len (l := a1.Travels) cSTravel (by kernel_rfl) (by kernel_rfl) ?_
    refine O_p 3 ?_
    refine O_nil ?_
    refine Gh_e ⟨⟨51, [(2, .po 0 0), (3, .po 1 0), (21, .bool ((a1.Travels.length : Int) != a0.Actuators))]⟩, [.lv 2 [.i a0.Actuators, .ro (a0.Steps.map cSStep)], .lv 1 [.ro (a1.Travels.map cSTravel)]]⟩ ?_
    refine W_gh ?_
    refine W_cond (c := ((a1.Travels.length : Int) != a0.Actuators)) (by kernel_rfl) (fun c3 => ?_) (fun c3 => ?_)
    · replace h := fork_t c3 h
      refine W_seq ?_
      refine W_reg ?_
      refine O_p 1 ?_
      refine O_nil ?_
      refine W_ret ?_
      replace h := Option.some.inj h; subst h
      exact Fin_free (l := [.i 8]) (by kernel_rfl) (by kernel_rfl) rfl
    · replace h := fork_f c3 h
      refine W_skip ?_
      refine Gh_e ⟨⟨51, [(2, .po 0 0), (3, .po 1 0)]⟩, [.lv 2 [.i a0.Actuators, .ro (a0.Steps.map cSStep)], .lv 1 [.ro (a1.Travels.map cSTravel)]]⟩ ?_
      refine W_seq ?_
      refine W_seq ?_
      refine W_gh ?_
      refine W_reg ?_
      refine O_p 2 ?_
      refine O_len (l := a1.Travels) cSTravel (by kernel_rfl) (by kernel_rfl) ?_
      refine O_p 1 ?_
      refine O_nil ?_
      refine Gh_e ⟨⟨51, [(2, .po 0 0), (3, .po 1 0), (23, .ro (a1.Travels.map cSTravel)), (24, .i (a1.Travels.length : Int)), (25, .i 0)]⟩, [.lv 2 [.i a0.Actuators, .ro (a0.Steps.map cSStep)], .lv 1 [.ro (a1.Travels.map cSTravel)]]⟩ ?_
      refine W_loop (fun s4 : Int => ⟨⟨51, [(2, .po 0 0), (3, .po 1 0), (23, .ro (a1.Travels.map cSTravel)), (24, .i (a1.Travels.length : Int)), (25, .i s4)]⟩, [.lv 2 [.i a0.Actuators, .ro (a0.Steps.map cSStep)], .lv 1 [.ro (a1.Travels.map cSTravel)]]⟩) (fun w5 : Unit => ⟨⟨51, [(2, .po 0 0), (3, .po 1 0)]⟩, [.lv 2 [.i a0.Actuators, .ro (a0.Steps.map cSStep)], .lv 1 [.ro (a1.Travels.map cSTravel)]]⟩) h (by kernel_rfl) (fun s4 c h => ?_) (fun w5 h => ?_)
      · refine W_gh ?_
        refine W_seq ?_
        refine W_reg ?_
        refine O_p 1 ?_
        refine O_nil ?_
        refine W_seq ?_
        refine W_gh ?_
        refine W_cond (c := (decide (s4 < (a1.Travels.length : Int)))) (by kernel_rfl) (fun c6 => ?_) (fun c6 => ?_)
        · replace h := fork_t c6 h
          refine W_skip ?_
          refine Gh_e ⟨⟨51, [(2, .po 0 0), (3, .po 1 0), (23, .ro (a1.Travels.map cSTravel)), (24, .i (a1.Travels.length : Int)), (25, .i s4)]⟩, [.lv 2 [.i a0.Actuators, .ro (a0.Steps.map cSStep)], .lv 1 [.ro (a1.Travels.map cSTravel)]]⟩ ?_
          refine W_seq ?_
          refine W_gh ?_
          refine W_block ?_
          refine W_seq ?_
          refine W_gh ?_
          refine W_reg ?_
          refine O_idx (kd := .i64) cSTravel h (fun _ => rfl) (by kernel_rfl) (by kernel_rfl) (by kernel_rfl) (fun v7 e_v7 h => ?_)
          refine O_p 3 ?_
          refine O_nil ?_
          refine Gh_e ⟨⟨51, [(2, .po 0 0), (3, .po 1 0), (7, .po 2 0), (23, .ro (a1.Travels.map cSTravel)), (24, .i (a1.Travels.length : Int)), (25, .i s4)]⟩, [.lv 2 [.i a0.Actuators, .ro (a0.Steps.map cSStep)], .lv 1 [.ro (a1.Travels.map cSTravel)], .lv 4 [.i v7.Out.Low, .i v7.Out.High, .i v7.In.Low, .i v7.In.High]]⟩ ?_
          refine W_seq ?_
          refine W_gh ?_
          refine W_reg ?_
          refine O_p 7 ?_
          refine O_nil ?_
          refine Gh_one (frz_own (id := 3) (nl := .norm) (sz := 2) (l := ([v7.Out, v7.In] : List SSpan)) okSSpan.bel (by kernel_rfl) (by kernel_rfl) rfl rfl (s1 := ⟨⟨51, [(2, .po 0 0), (3, .po 1 0), (7, .po 2 0), (23, .ro (a1.Travels.map cSTravel)), (24, .i (a1.Travels.length : Int)), (25, .i s4), (29, .po 2 0), (30, .agg [.i v7.Out.Low, .i v7.Out.High]), (31, .po 2 2), (32, .agg [.i v7.In.Low, .i v7.In.High]), (33, .ro (([v7.Out, v7.In] : List SSpan).map cSSpan)), (34, .i (2 : Int)), (35, .i 0)]⟩, [.lv 2 [.i a0.Actuators, .ro (a0.Steps.map cSStep)], .lv 1 [.ro (a1.Travels.map cSTravel)], .lv 4 [.i v7.Out.Low, .i v7.Out.High, .i v7.In.Low, .i v7.In.High], .dead]⟩) (by kernel_rfl)) ?_
          refine Gh_one (s1 := ⟨⟨51, [(2, .po 0 0), (3, .po 1 0), (23, .ro (a1.Travels.map cSTravel)), (24, .i (a1.Travels.length : Int)), (25, .i s4), (33, .ro (([v7.Out, v7.In] : List SSpan).map cSSpan)), (34, .i (2 : Int)), (35, .i 0)]⟩, [.lv 2 [.i a0.Actuators, .ro (a0.Steps.map cSStep)], .lv 1 [.ro (a1.Travels.map cSTravel)], .lv 4 [.i v7.Out.Low, .i v7.Out.High, .i v7.In.Low, .i v7.In.High], .dead]⟩) (by kernel_rfl) ?_
          refine Gh_at (s1 := ⟨⟨51, [(2, .po 0 0), (3, .po 1 0), (23, .ro (a1.Travels.map cSTravel)), (24, .i (a1.Travels.length : Int)), (25, .i s4), (33, .ro (([v7.Out, v7.In] : List SSpan).map cSSpan)), (34, .i (2 : Int)), (35, .i 0)]⟩, [.lv 2 [.i a0.Actuators, .ro (a0.Steps.map cSStep)], .lv 1 [.ro (a1.Travels.map cSTravel)], .lv 4 [.i v7.Out.Low, .i v7.Out.High, .i v7.In.Low, .i v7.In.High], .dead]⟩) (by kernel_rfl) ?_
          refine Gh_trunc (s1 := ⟨⟨51, [(2, .po 0 0), (3, .po 1 0), (23, .ro (a1.Travels.map cSTravel)), (24, .i (a1.Travels.length : Int)), (25, .i s4), (33, .ro (([v7.Out, v7.In] : List SSpan).map cSSpan)), (34, .i (2 : Int)), (35, .i 0)]⟩, [.lv 2 [.i a0.Actuators, .ro (a0.Steps.map cSStep)], .lv 1 [.ro (a1.Travels.map cSTravel)], .lv 4 [.i v7.Out.Low, .i v7.Out.High, .i v7.In.Low, .i v7.In.High]]⟩) (by kernel_rfl) (tb_ref rfl (tb_ref rfl (tb_free (ro_bel okSTravel.bel _) (tb_free rfl (tb_free rfl (tb_free (ro_bel okSSpan.bel _) (tb_free rfl (tb_free rfl rfl)))))))) (H1 := [.lv 2 [.i a0.Actuators, .ro (a0.Steps.map cSStep)], .lv 1 [.ro (a1.Travels.map cSTravel)], .lv 4 [.i v7.Out.Low, .i v7.Out.High, .i v7.In.Low, .i v7.In.High]]) (by kernel_rfl) (ob_boxn (bn_free rfl (bn_free (ro_bel okSStep.bel _) rfl)) (ob_boxn (bn_free (ro_bel okSTravel.bel _) rfl) (ob_boxn (bn_free rfl (bn_free rfl (bn_free rfl (bn_free rfl rfl)))) rfl))) (by kernel_rfl) ?_
          refine Gh_nil ?_
          refine W_loop (fun s8 : Int => ⟨⟨51, [(2, .po 0 0), (3, .po 1 0), (23, .ro (a1.Travels.map cSTravel)), (24, .i (a1.Travels.length : Int)), (25, .i s4), (33, .ro (([v7.Out, v7.In] : List SSpan).map cSSpan)), (34, .i (2 : Int)), (35, .i s8)]⟩, [.lv 2 [.i a0.Actuators, .ro (a0.Steps.map cSStep)], .lv 1 [.ro (a1.Travels.map cSTravel)], .lv 4 [.i v7.Out.Low, .i v7.Out.High, .i v7.In.Low, .i v7.In.High]]⟩) (fun w9 : Unit => ⟨⟨51, [(2, .po 0 0), (3, .po 1 0), (23, .ro (a1.Travels.map cSTravel)), (24, .i (a1.Travels.length : Int)), (25, .i s4)]⟩, [.lv 2 [.i a0.Actuators, .ro (a0.Steps.map cSStep)], .lv 1 [.ro (a1.Travels.map cSTravel)], .lv 4 [.i v7.Out.Low, .i v7.Out.High, .i v7.In.Low, .i v7.In.High]]⟩) h (by kernel_rfl) (fun s8 c h => ?_) (fun w9 h => ?_)
          · refine W_gh ?_
            refine W_seq ?_
            refine W_reg ?_
            refine O_p 1 ?_
            refine O_nil ?_
            refine W_seq ?_
            refine W_gh ?_
            refine W_cond (c := (decide (s8 < (2 : Int)))) (by kernel_rfl) (fun c10 => ?_) (fun c10 => ?_)
            · replace h := fork_t c10 h
              refine W_skip ?_
              refine Gh_e ⟨⟨51, [(2, .po 0 0), (3, .po 1 0), (23, .ro (a1.Travels.map cSTravel)), (24, .i (a1.Travels.length : Int)), (25, .i s4), (33, .ro (([v7.Out, v7.In] : List SSpan).map cSSpan)), (34, .i (2 : Int)), (35, .i s8)]⟩, [.lv 2 [.i a0.Actuators, .ro (a0.Steps.map cSStep)], .lv 1 [.ro (a1.Travels.map cSTravel)], .lv 4 [.i v7.Out.Low, .i v7.Out.High, .i v7.In.Low, .i v7.In.High]]⟩ ?_
              refine W_seq ?_
              refine W_gh ?_
              refine W_block ?_
              refine W_seq ?_
              refine W_gh ?_
              refine W_reg ?_
              refine O_idx (kd := .i64) cSSpan h (fun _ => rfl) (by kernel_rfl) (by kernel_rfl) (by kernel_rfl) (fun v11 e_v11 h => ?_)
              refine O_p 3 ?_
              refine O_nil ?_
              refine Gh_e ⟨⟨51, [(2, .po 0 0), (3, .po 1 0), (9, .po 3 0), (23, .ro (a1.Travels.map cSTravel)), (24, .i (a1.Travels.length : Int)), (25, .i s4), (33, .ro (([v7.Out, v7.In] : List SSpan).map cSSpan)), (34, .i (2 : Int)), (35, .i s8)]⟩, [.lv 2 [.i a0.Actuators, .ro (a0.Steps.map cSStep)], .lv 1 [.ro (a1.Travels.map cSTravel)], .lv 4 [.i v7.Out.Low, .i v7.Out.High, .i v7.In.Low, .i v7.In.High], .lv 2 [.i v11.Low, .i v11.High]]⟩ ?_
              refine W_seq ?_
              refine W_gh ?_
              refine W_reg ?_
              refine O_p 1 ?_
              refine O_call (fun v => .i v) h (.inr rfl) (ys := [.agg (cSSpan v11)]) (fun _ e => p50 _ _ e) (by kernel_rfl) (by kernel_rfl) (bels_cons (okSSpan.bel _) rfl) (fun v12 e_v12 h => ?_)
              refine O_p 1 ?_
              refine O_nil ?_
              refine Gh_e ⟨⟨51, [(2, .po 0 0), (3, .po 1 0), (10, .i v12), (23, .ro (a1.Travels.map cSTravel)), (24, .i (a1.Travels.length : Int)), (25, .i s4), (33, .ro (([v7.Out, v7.In] : List SSpan).map cSSpan)), (34, .i (2 : Int)), (35, .i s8)]⟩, [.lv 2 [.i a0.Actuators, .ro (a0.Steps.map cSStep)], .lv 1 [.ro (a1.Travels.map cSTravel)], .lv 4 [.i v7.Out.Low, .i v7.Out.High, .i v7.In.Low, .i v7.In.High], .lv 2 [.i v11.Low, .i v11.High]]⟩ ?_
              refine W_seq ?_
              refine W_gh ?_
              refine W_reg ?_
              refine O_p 2 ?_
              refine O_nil ?_
              refine Gh_e ⟨⟨51, [(2, .po 0 0), (3, .po 1 0), (10, .i v12), (23, .ro (a1.Travels.map cSTravel)), (24, .i (a1.Travels.length : Int)), (25, .i s4), (33, .ro (([v7.Out, v7.In] : List SSpan).map cSSpan)), (34, .i (2 : Int)), (35, .i s8), (42, .bool (v12 != 0))]⟩, [.lv 2 [.i a0.Actuators, .ro (a0.Steps.map cSStep)], .lv 1 [.ro (a1.Travels.map cSTravel)], .lv 4 [.i v7.Out.Low, .i v7.Out.High, .i v7.In.Low, .i v7.In.High], .lv 2 [.i v11.Low, .i v11.High]]⟩ ?_
              refine W_gh ?_
              refine W_cond (c := (v12 != 0)) (by kernel_rfl) (fun c13 => ?_) (fun c13 => ?_)
              · replace h := fork_t c13 h
                refine W_seq ?_
                refine W_gh ?_
                refine W_reg ?_
                refine O_p 2 ?_
                refine O_nil ?_
                refine Gh_e ⟨⟨51, [(2, .po 0 0), (3, .po 1 0), (4, .i v12), (23, .ro (a1.Travels.map cSTravel)), (24, .i (a1.Travels.length : Int)), (25, .i s4), (33, .ro (([v7.Out, v7.In] : List SSpan).map cSSpan)), (34, .i (2 : Int)), (35, .i s8), (42, .bool (v12 != 0))]⟩, [.lv 2 [.i a0.Actuators, .ro (a0.Steps.map cSStep)], .lv 1 [.ro (a1.Travels.map cSTravel)], .lv 4 [.i v7.Out.Low, .i v7.Out.High, .i v7.In.Low, .i v7.In.High], .lv 2 [.i v11.Low, .i v11.High]]⟩ ?_
                refine W_ret ?_
                replace h := Option.some.inj h; subst h
                refine ⟨_, rfl, fun h => ?_⟩
                replace h := Option.some.inj h; subst h
                refine ⟨_, rfl, fun h => ?_⟩
                replace h := Option.some.inj h; subst h
                exact Fin_free (l := [.i v12]) (by kernel_rfl) (by kernel_rfl) rfl
              · replace h := fork_f c13 h
                refine W_skip ?_
                refine Gh_e ⟨⟨51, [(2, .po 0 0), (3, .po 1 0), (23, .ro (a1.Travels.map cSTravel)), (24, .i (a1.Travels.length : Int)), (25, .i s4), (33, .ro (([v7.Out, v7.In] : List SSpan).map cSSpan)), (34, .i (2 : Int)), (35, .i s8)]⟩, [.lv 2 [.i a0.Actuators, .ro (a0.Steps.map cSStep)], .lv 1 [.ro (a1.Travels.map cSTravel)], .lv 4 [.i v7.Out.Low, .i v7.Out.High, .i v7.In.Low, .i v7.In.High], .lv 2 [.i v11.Low, .i v11.High]]⟩ ?_
                refine Gh_one (s1 := ⟨⟨51, [(2, .po 0 0), (3, .po 1 0), (23, .ro (a1.Travels.map cSTravel)), (24, .i (a1.Travels.length : Int)), (25, .i s4), (33, .ro (([v7.Out, v7.In] : List SSpan).map cSSpan)), (34, .i (2 : Int)), (35, .i s8)]⟩, [.lv 2 [.i a0.Actuators, .ro (a0.Steps.map cSStep)], .lv 1 [.ro (a1.Travels.map cSTravel)], .lv 4 [.i v7.Out.Low, .i v7.Out.High, .i v7.In.Low, .i v7.In.High], .lv 2 [.i v11.Low, .i v11.High]]⟩) (by kernel_rfl) ?_
                refine Gh_at (s1 := ⟨⟨51, [(2, .po 0 0), (3, .po 1 0), (23, .ro (a1.Travels.map cSTravel)), (24, .i (a1.Travels.length : Int)), (25, .i s4), (33, .ro (([v7.Out, v7.In] : List SSpan).map cSSpan)), (34, .i (2 : Int)), (35, .i s8)]⟩, [.lv 2 [.i a0.Actuators, .ro (a0.Steps.map cSStep)], .lv 1 [.ro (a1.Travels.map cSTravel)], .lv 4 [.i v7.Out.Low, .i v7.Out.High, .i v7.In.Low, .i v7.In.High], .lv 2 [.i v11.Low, .i v11.High]]⟩) (by kernel_rfl) ?_
                refine Gh_trunc (s1 := ⟨⟨51, [(2, .po 0 0), (3, .po 1 0), (23, .ro (a1.Travels.map cSTravel)), (24, .i (a1.Travels.length : Int)), (25, .i s4), (33, .ro (([v7.Out, v7.In] : List SSpan).map cSSpan)), (34, .i (2 : Int)), (35, .i s8)]⟩, [.lv 2 [.i a0.Actuators, .ro (a0.Steps.map cSStep)], .lv 1 [.ro (a1.Travels.map cSTravel)], .lv 4 [.i v7.Out.Low, .i v7.Out.High, .i v7.In.Low, .i v7.In.High]]⟩) (by kernel_rfl) (tb_ref rfl (tb_ref rfl (tb_free (ro_bel okSTravel.bel _) (tb_free rfl (tb_free rfl (tb_free (ro_bel okSSpan.bel _) (tb_free rfl (tb_free rfl rfl)))))))) (H1 := [.lv 2 [.i a0.Actuators, .ro (a0.Steps.map cSStep)], .lv 1 [.ro (a1.Travels.map cSTravel)], .lv 4 [.i v7.Out.Low, .i v7.Out.High, .i v7.In.Low, .i v7.In.High]]) (by kernel_rfl) (ob_boxn (bn_free rfl (bn_free (ro_bel okSStep.bel _) rfl)) (ob_boxn (bn_free (ro_bel okSTravel.bel _) rfl) (ob_boxn (bn_free rfl (bn_free rfl (bn_free rfl (bn_free rfl rfl)))) rfl))) (by kernel_rfl) ?_
                refine Gh_nil ?_
                refine W_gh ?_
                refine W_reg ?_
                refine O_p 2 ?_
                refine O_nil ?_
                refine Gh_e ⟨⟨51, [(2, .po 0 0), (3, .po 1 0), (23, .ro (a1.Travels.map cSTravel)), (24, .i (a1.Travels.length : Int)), (25, .i s4), (33, .ro (([v7.Out, v7.In] : List SSpan).map cSSpan)), (34, .i (2 : Int)), (35, .i (addI .i64 s8 1))]⟩, [.lv 2 [.i a0.Actuators, .ro (a0.Steps.map cSStep)], .lv 1 [.ro (a1.Travels.map cSTravel)], .lv 4 [.i v7.Out.Low, .i v7.Out.High, .i v7.In.Low, .i v7.In.High]]⟩ ?_
                refine Gh_one (s1 := ⟨⟨51, [(2, .po 0 0), (3, .po 1 0), (23, .ro (a1.Travels.map cSTravel)), (24, .i (a1.Travels.length : Int)), (25, .i s4), (33, .ro (([v7.Out, v7.In] : List SSpan).map cSSpan)), (34, .i (2 : Int)), (35, .i (addI .i64 s8 1))]⟩, [.lv 2 [.i a0.Actuators, .ro (a0.Steps.map cSStep)], .lv 1 [.ro (a1.Travels.map cSTravel)], .lv 4 [.i v7.Out.Low, .i v7.Out.High, .i v7.In.Low, .i v7.In.High]]⟩) (by kernel_rfl) ?_
                refine Gh_trunc0 (by kernel_rfl) ?_
                refine Gh_nil ?_
                replace h := Option.some.inj h; subst h
                exact ⟨_, rfl, by kernel_rfl⟩
            · replace h := fork_f c10 h
              refine W_exit ?_
              refine X_hit ?_
              refine Gh_one (s1 := ⟨⟨51, [(2, .po 0 0), (3, .po 1 0), (23, .ro (a1.Travels.map cSTravel)), (24, .i (a1.Travels.length : Int)), (25, .i s4)]⟩, [.lv 2 [.i a0.Actuators, .ro (a0.Steps.map cSStep)], .lv 1 [.ro (a1.Travels.map cSTravel)], .lv 4 [.i v7.Out.Low, .i v7.Out.High, .i v7.In.Low, .i v7.In.High]]⟩) (by kernel_rfl) ?_
              refine Gh_trunc0 (by kernel_rfl) ?_
              refine Gh_nil ?_
              replace h := Option.some.inj h; subst h
              exact ⟨_, rfl, by kernel_rfl⟩
          · refine Gh_one (s1 := ⟨⟨51, [(2, .po 0 0), (3, .po 1 0), (23, .ro (a1.Travels.map cSTravel)), (24, .i (a1.Travels.length : Int)), (25, .i s4)]⟩, [.lv 2 [.i a0.Actuators, .ro (a0.Steps.map cSStep)], .lv 1 [.ro (a1.Travels.map cSTravel)], .lv 4 [.i v7.Out.Low, .i v7.Out.High, .i v7.In.Low, .i v7.In.High]]⟩) (by kernel_rfl) ?_
            refine Gh_at (s1 := ⟨⟨51, [(2, .po 0 0), (3, .po 1 0), (23, .ro (a1.Travels.map cSTravel)), (24, .i (a1.Travels.length : Int)), (25, .i s4)]⟩, [.lv 2 [.i a0.Actuators, .ro (a0.Steps.map cSStep)], .lv 1 [.ro (a1.Travels.map cSTravel)], .lv 4 [.i v7.Out.Low, .i v7.Out.High, .i v7.In.Low, .i v7.In.High]]⟩) (by kernel_rfl) ?_
            refine Gh_trunc (s1 := ⟨⟨51, [(2, .po 0 0), (3, .po 1 0), (23, .ro (a1.Travels.map cSTravel)), (24, .i (a1.Travels.length : Int)), (25, .i s4)]⟩, [.lv 2 [.i a0.Actuators, .ro (a0.Steps.map cSStep)], .lv 1 [.ro (a1.Travels.map cSTravel)]]⟩) (by kernel_rfl) (tb_ref rfl (tb_ref rfl (tb_free (ro_bel okSTravel.bel _) (tb_free rfl (tb_free rfl rfl))))) (H1 := [.lv 2 [.i a0.Actuators, .ro (a0.Steps.map cSStep)], .lv 1 [.ro (a1.Travels.map cSTravel)]]) (by kernel_rfl) (ob_boxn (bn_free rfl (bn_free (ro_bel okSStep.bel _) rfl)) (ob_boxn (bn_free (ro_bel okSTravel.bel _) rfl) rfl)) (by kernel_rfl) ?_
            refine Gh_nil ?_
            refine W_gh ?_
            refine W_reg ?_
            refine O_p 2 ?_
            refine O_nil ?_
            refine Gh_e ⟨⟨51, [(2, .po 0 0), (3, .po 1 0), (23, .ro (a1.Travels.map cSTravel)), (24, .i (a1.Travels.length : Int)), (25, .i (addI .i64 s4 1))]⟩, [.lv 2 [.i a0.Actuators, .ro (a0.Steps.map cSStep)], .lv 1 [.ro (a1.Travels.map cSTravel)]]⟩ ?_
            refine Gh_one (s1 := ⟨⟨51, [(2, .po 0 0), (3, .po 1 0), (23, .ro (a1.Travels.map cSTravel)), (24, .i (a1.Travels.length : Int)), (25, .i (addI .i64 s4 1))]⟩, [.lv 2 [.i a0.Actuators, .ro (a0.Steps.map cSStep)], .lv 1 [.ro (a1.Travels.map cSTravel)]]⟩) (by kernel_rfl) ?_
            refine Gh_trunc0 (by kernel_rfl) ?_
            refine Gh_nil ?_
            replace h := Option.some.inj h; subst h
            exact ⟨_, rfl, by kernel_rfl⟩
        · replace h := fork_f c6 h
          refine W_exit ?_
          refine X_hit ?_
          refine Gh_one (s1 := ⟨⟨51, [(2, .po 0 0), (3, .po 1 0)]⟩, [.lv 2 [.i a0.Actuators, .ro (a0.Steps.map cSStep)], .lv 1 [.ro (a1.Travels.map cSTravel)]]⟩) (by kernel_rfl) ?_
          refine Gh_trunc0 (by kernel_rfl) ?_
          refine Gh_nil ?_
          replace h := Option.some.inj h; subst h
          exact ⟨_, rfl, by kernel_rfl⟩
      · refine W_seq ?_
        refine W_seq ?_
        refine W_gh ?_
        refine W_reg ?_
        refine O_p 2 ?_
        refine O_call (fun v => .agg [.i v.Low, .i v.High]) h (.inr rfl) (ys := [.agg (cSSequence a0), .agg (cSPlant a1)]) (fun _ e => p48 _ _ _ e) (by kernel_rfl) (by kernel_rfl) (bels_cons (okSSequence.bel _) (bels_cons (okSPlant.bel _) rfl)) (fun v14 e_v14 h => ?_)
        refine O_p 2 ?_
        refine O_nil ?_
        refine Gh_e ⟨⟨51, [(50, .bool (decide (v14.High > 1000000)))]⟩, [.lv 2 [.i a0.Actuators, .ro (a0.Steps.map cSStep)], .lv 1 [.ro (a1.Travels.map cSTravel)]]⟩ ?_
        refine W_gh ?_
        refine W_cond (c := (decide (v14.High > 1000000))) (by kernel_rfl) (fun c15 => ?_) (fun c15 => ?_)
        · replace h := fork_t c15 h
          refine W_seq ?_
          refine W_reg ?_
          refine O_p 1 ?_
          refine O_nil ?_
          refine W_ret ?_
          replace h := Option.some.inj h; subst h
          exact Fin_free (l := [.i 11]) (by kernel_rfl) (by kernel_rfl) rfl
        · replace h := fork_f c15 h
          refine W_skip ?_
          refine Gh_e ⟨⟨51, []⟩, [.lv 2 [.i a0.Actuators, .ro (a0.Steps.map cSStep)], .lv 1 [.ro (a1.Travels.map cSTravel)]]⟩ ?_
          refine W_seq ?_
          refine W_reg ?_
          refine O_p 1 ?_
          refine O_nil ?_
          refine W_ret ?_
          replace h := Option.some.inj h; subst h
          exact Fin_free (l := [.i 0]) (by kernel_rfl) (by kernel_rfl) rfl

theorem p13 (a0 : SSequence) (a1 : SPlant) (r : ((List SSlot) × Int)) (h : m13 a0 a1 = some r) : Pt E0 hp 13 [.agg (cSSequence a0), .agg (cSPlant a1)] (.tup [.ro (r.1.map cSSlot), .i r.2]) := by
  unfold m13 at h
  refine Pt_W (fn13) rfl (by decide) ?_
  refine W_seq ?_
  refine W_gh ?_
  refine W_reg ?_
  refine O_p 4 ?_
  refine O_nil ?_
  refine Gh_e ⟨⟨26, [(2, .po 0 0), (3, .po 1 0), (4, .ro (([] : List SSlot).map cSSlot)), (5, .i 0)]⟩, [.lv 2 [.i a0.Actuators, .ro (a0.Steps.map cSStep)], .lv 1 [.ro (a1.Travels.map cSTravel)]]⟩ ?_
  refine W_seq ?_
  refine W_seq ?_
  refine W_gh ?_
  refine W_reg ?_
  refine O_p 2 ?_
  refine O_call (fun v => .i v) h (.inr rfl) (ys := [.agg (cSSequence a0), .agg (cSPlant a1)]) (fun _ e => p17 _ _ _ e) (by kernel_rfl) (by kernel_rfl) (bels_cons (okSSequence.bel _) (bels_cons (okSPlant.bel _) rfl)) (fun v1 e_v1 h => ?_)
  refine O_p 1 ?_
  refine O_nil ?_
  refine Gh_e ⟨⟨26, [(2, .po 0 0), (3, .po 1 0), (4, .ro (([] : List SSlot).map cSSlot)), (5, .i 0), (6, .i v1)]⟩, [.lv 2 [.i a0.Actuators, .ro (a0.Steps.map cSStep)], .lv 1 [.ro (a1.Travels.map cSTravel)]]⟩ ?_
  refine W_seq ?_
  refine W_gh ?_
  refine W_reg ?_
  refine O_p 2 ?_
  refine O_nil ?_
  refine Gh_e ⟨⟨26, [(2, .po 0 0), (3, .po 1 0), (4, .ro (([] : List SSlot).map cSSlot)), (5, .i 0), (6, .i v1), (14, .bool (v1 != 0))]⟩, [.lv 2 [.i a0.Actuators, .ro (a0.Steps.map cSStep)], .lv 1 [.ro (a1.Travels.map cSTravel)]]⟩ ?_
  refine W_gh ?_
  refine W_cond (c := (v1 != 0)) (by kernel_rfl) (fun c2 => ?_) (fun c2 => ?_)
  · replace h := fork_t c2 h
    refine W_seq ?_
    refine W_gh ?_
    refine W_reg ?_
    refine O_p 3 ?_
    refine O_nil ?_
    refine Gh_e ⟨⟨26, [(2, .po 0 0), (3, .po 1 0), (4, .ro (([] : List SSlot).map cSSlot)), (5, .i v1), (14, .bool (v1 != 0))]⟩, [.lv 2 [.i a0.Actuators, .ro (a0.Steps.map cSStep)], .lv 1 [.ro (a1.Travels.map cSTravel)]]⟩ ?_
    refine W_ret ?_
    replace h := Option.some.inj h; subst h
    exact Fin_free (l := [.ro (([] : List SSlot).map cSSlot), .i v1]) (by kernel_rfl) (by kernel_rfl) (bels_cons (ro_bel okSSlot.bel _) (bels_cons rfl rfl))
  · replace h := fork_f c2 h
    refine W_skip ?_
    refine Gh_e ⟨⟨26, [(2, .po 0 0), (3, .po 1 0), (4, .ro (([] : List SSlot).map cSSlot)), (5, .i 0)]⟩, [.lv 2 [.i a0.Actuators, .ro (a0.Steps.map cSStep)], .lv 1 [.ro (a1.Travels.map cSTravel)]]⟩ ?_
    refine W_seq ?_
    refine W_gh ?_
    refine W_reg ?_
    refine O_p 1 ?_
    refine O_nil ?_
    refine Gh_e ⟨⟨26, [(2, .po 0 0), (3, .po 1 0), (4, .ro (([] : List SSlot).map cSSlot)), (5, .i 0), (7, .po 2 0)]⟩, [.lv 2 [.i a0.Actuators, .ro (a0.Steps.map cSStep)], .lv 1 [.ro (a1.Travels.map cSTravel)], .lv 1 [.own 3 0 0 0], .live .nil 6 (([] : List SSlot).map cSSlot)]⟩ ?_
    refine W_seq ?_
    refine W_seq ?_
    refine W_gh ?_
    refine W_reg ?_
    refine O_p 2 ?_
    refine O_call (fun v => .fn 70 [.pro [.i v.1, .ro (v.2.1.map cSStep)], .pro [.ro (v.2.2.map cSTravel)]]) h (.inr rfl) (ys := [.agg (cSSequence a0), .agg (cSPlant a1)]) (fun _ e => p46 _ _ _ e) (by kernel_rfl) (by kernel_rfl) (bels_cons (okSSequence.bel _) (bels_cons (okSPlant.bel _) rfl)) (fun v3 e_v3 h => ?_)
    refine O_nil ?_
    refine Gh_e ⟨⟨26, [(4, .ro (([] : List SSlot).map cSSlot)), (5, .i 0), (7, .po 2 0), (18, .fn 70 [.pro [.i v3.1, .ro (v3.2.1.map cSStep)], .pro [.ro (v3.2.2.map cSTravel)]])]⟩, [.lv 2 [.i a0.Actuators, .ro (a0.Steps.map cSStep)], .lv 1 [.ro (a1.Travels.map cSTravel)], .lv 1 [.own 3 0 0 0], .live .nil 6 (([] : List SSlot).map cSSlot)]⟩ ?_
    obtain ⟨y4, e_y4, h⟩ := bind_some h
    refine W_rfn (i := 0) (L := 4) C70 (fun s5 : (List SSlot) => [.lv 2 [.i a0.Actuators, .ro (a0.Steps.map cSStep)], .lv 1 [.ro (a1.Travels.map cSTravel)], .lv 1 [.own 3 s5.length 0 s5.length], .live .nil 6 (s5.map cSSlot)]) (fun w7 : (List SSlot) => ⟨⟨26, [(4, .ro (([] : List SSlot).map cSSlot)), (5, .i 0), (7, .po 2 0)]⟩, [.lv 2 [.i a0.Actuators, .ro (a0.Steps.map cSStep)], .lv 1 [.ro (a1.Travels.map cSTravel)], .lv 1 [.own 3 w7.length 0 w7.length], .live .nil 6 (w7.map cSSlot)]⟩) (gen70 _ _ _ _ e_y4) h (by kernel_rfl) (bels_cons (bels_cons rfl (bels_cons (ro_bel okSStep.bel _) rfl)) (bels_cons (bels_cons (ro_bel okSTravel.bel _) rfl) rfl)) (fun _ => rfl) (fun _ => rfl) (by kernel_rfl) (by kernel_rfl) (fun s5 x6 c h => ?_) (fun s5 => ?_) (fun w7 h => ?_)
    · refine W_at (s1 := ⟨⟨26, [(4, .ro (([] : List SSlot).map cSSlot)), (5, .i 0), (7, .po 2 0), (18, .fn 70 [.pro [.i v3.1, .ro (v3.2.1.map cSStep)], .pro [.ro (v3.2.2.map cSTravel)]]), (19, .i x6.1), (20, .agg [.i x6.2.Begin.Low, .i x6.2.Begin.High, .i x6.2.Moved.Low, .i x6.2.Moved.High, .i x6.2.End.Low, .i x6.2.End.High])]⟩, [.lv 2 [.i a0.Actuators, .ro (a0.Steps.map cSStep)], .lv 1 [.ro (a1.Travels.map cSTravel)], .lv 1 [.own 3 s5.length 0 s5.length], .live .nil 6 (s5.map cSSlot)]⟩) (by kernel_rfl) ?_
      refine W_gh ?_
      refine W_reg ?_
      refine O_p 2 ?_
      refine O_nil ?_
      refine Gh_e ⟨⟨26, [(4, .ro (([] : List SSlot).map cSSlot)), (5, .i 0), (7, .po 2 0), (9, .po 4 0), (18, .fn 70 [.pro [.i v3.1, .ro (v3.2.1.map cSStep)], .pro [.ro (v3.2.2.map cSTravel)]]), (19, .i x6.1)]⟩, [.lv 2 [.i a0.Actuators, .ro (a0.Steps.map cSStep)], .lv 1 [.ro (a1.Travels.map cSTravel)], .lv 1 [.own 3 s5.length 0 s5.length], .live .nil 6 (s5.map cSSlot), .lv 6 [.i x6.2.Begin.Low, .i x6.2.Begin.High, .i x6.2.Moved.Low, .i x6.2.Moved.High, .i x6.2.End.Low, .i x6.2.End.High]]⟩ ?_
      refine W_gh ?_
      refine W_block ?_
      refine W_gh ?_
      refine W_reg ?_
      refine O_p 3 ?_
      refine O_app (C := cSSlot) (id := 3) (nl := .nil) okSSlot h rfl (by kernel_rfl) (by kernel_rfl) (by kernel_rfl) (by kernel_rfl) rfl (fun l8 e_l8 h => ?_)
      refine O_p 1 ?_
      refine O_nil ?_
      refine Gh_one (s1 := ⟨⟨26, [(4, .ro (([] : List SSlot).map cSSlot)), (5, .i 0), (18, .fn 70 [.pro [.i v3.1, .ro (v3.2.1.map cSStep)], .pro [.ro (v3.2.2.map cSTravel)]]), (19, .i x6.1)]⟩, [.lv 2 [.i a0.Actuators, .ro (a0.Steps.map cSStep)], .lv 1 [.ro (a1.Travels.map cSTravel)], .lv 1 [.own 3 l8.length 0 l8.length], .live .nil 6 (l8.map cSSlot), .lv 6 [.i x6.2.Begin.Low, .i x6.2.Begin.High, .i x6.2.Moved.Low, .i x6.2.Moved.High, .i x6.2.End.Low, .i x6.2.End.High], .live .norm 6 (([x6.2] : List SSlot).map cSSlot)]⟩) (by kernel_rfl) ?_
      refine Gh_at (s1 := ⟨⟨26, [(4, .ro (([] : List SSlot).map cSSlot)), (5, .i 0), (18, .fn 70 [.pro [.i v3.1, .ro (v3.2.1.map cSStep)], .pro [.ro (v3.2.2.map cSTravel)]]), (19, .i x6.1)]⟩, [.lv 2 [.i a0.Actuators, .ro (a0.Steps.map cSStep)], .lv 1 [.ro (a1.Travels.map cSTravel)], .lv 1 [.own 3 l8.length 0 l8.length], .live .nil 6 (l8.map cSSlot), .lv 6 [.i x6.2.Begin.Low, .i x6.2.Begin.High, .i x6.2.Moved.Low, .i x6.2.Moved.High, .i x6.2.End.Low, .i x6.2.End.High], .live .norm 6 (([x6.2] : List SSlot).map cSSlot)]⟩) (by kernel_rfl) ?_
      refine Gh_trunc (s1 := ⟨⟨26, [(4, .ro (([] : List SSlot).map cSSlot)), (5, .i 0), (18, .fn 70 [.pro [.i v3.1, .ro (v3.2.1.map cSStep)], .pro [.ro (v3.2.2.map cSTravel)]]), (19, .i x6.1)]⟩, [.lv 2 [.i a0.Actuators, .ro (a0.Steps.map cSStep)], .lv 1 [.ro (a1.Travels.map cSTravel)], .lv 1 [.own 3 l8.length 0 l8.length], .live .nil 6 (l8.map cSSlot), .lv 6 [.i x6.2.Begin.Low, .i x6.2.Begin.High, .i x6.2.Moved.Low, .i x6.2.Moved.High, .i x6.2.End.Low, .i x6.2.End.High]]⟩) (by kernel_rfl) (tb_free (ro_bel okSSlot.bel _) (tb_free rfl (tb_free (bels_cons (bels_cons rfl (bels_cons (ro_bel okSStep.bel _) rfl)) (bels_cons (bels_cons (ro_bel okSTravel.bel _) rfl) rfl)) (tb_free rfl rfl)))) (H1 := [.lv 2 [.i a0.Actuators, .ro (a0.Steps.map cSStep)], .lv 1 [.ro (a1.Travels.map cSTravel)], .lv 1 [.own 3 l8.length 0 l8.length], .live .nil 6 (l8.map cSSlot), .lv 6 [.i x6.2.Begin.Low, .i x6.2.Begin.High, .i x6.2.Moved.Low, .i x6.2.Moved.High, .i x6.2.End.Low, .i x6.2.End.High]]) (by kernel_rfl) (ob_boxn (bn_free rfl (bn_free (ro_bel okSStep.bel _) rfl)) (ob_boxn (bn_free (ro_bel okSTravel.bel _) rfl) (ob_boxn (bn_ref rfl rfl) (ob_list okSSlot.bel (ob_boxn (bn_free rfl (bn_free rfl (bn_free rfl (bn_free rfl (bn_free rfl (bn_free rfl rfl)))))) rfl))))) (by kernel_rfl) ?_
      refine Gh_nil ?_
      refine Gh_one (s1 := ⟨⟨26, [(4, .ro (([] : List SSlot).map cSSlot)), (5, .i 0), (18, .fn 70 [.pro [.i v3.1, .ro (v3.2.1.map cSStep)], .pro [.ro (v3.2.2.map cSTravel)]]), (19, .i x6.1)]⟩, [.lv 2 [.i a0.Actuators, .ro (a0.Steps.map cSStep)], .lv 1 [.ro (a1.Travels.map cSTravel)], .lv 1 [.own 3 l8.length 0 l8.length], .live .nil 6 (l8.map cSSlot), .lv 6 [.i x6.2.Begin.Low, .i x6.2.Begin.High, .i x6.2.Moved.Low, .i x6.2.Moved.High, .i x6.2.End.Low, .i x6.2.End.High]]⟩) (by kernel_rfl) ?_
      refine Gh_at (s1 := ⟨⟨26, [(4, .ro (([] : List SSlot).map cSSlot)), (5, .i 0), (18, .fn 70 [.pro [.i v3.1, .ro (v3.2.1.map cSStep)], .pro [.ro (v3.2.2.map cSTravel)]]), (19, .i x6.1)]⟩, [.lv 2 [.i a0.Actuators, .ro (a0.Steps.map cSStep)], .lv 1 [.ro (a1.Travels.map cSTravel)], .lv 1 [.own 3 l8.length 0 l8.length], .live .nil 6 (l8.map cSSlot), .lv 6 [.i x6.2.Begin.Low, .i x6.2.Begin.High, .i x6.2.Moved.Low, .i x6.2.Moved.High, .i x6.2.End.Low, .i x6.2.End.High]]⟩) (by kernel_rfl) ?_
      refine Gh_trunc (s1 := ⟨⟨26, [(4, .ro (([] : List SSlot).map cSSlot)), (5, .i 0), (18, .fn 70 [.pro [.i v3.1, .ro (v3.2.1.map cSStep)], .pro [.ro (v3.2.2.map cSTravel)]]), (19, .i x6.1)]⟩, [.lv 2 [.i a0.Actuators, .ro (a0.Steps.map cSStep)], .lv 1 [.ro (a1.Travels.map cSTravel)], .lv 1 [.own 3 l8.length 0 l8.length], .live .nil 6 (l8.map cSSlot)]⟩) (by kernel_rfl) (tb_free (ro_bel okSSlot.bel _) (tb_free rfl (tb_free (bels_cons (bels_cons rfl (bels_cons (ro_bel okSStep.bel _) rfl)) (bels_cons (bels_cons (ro_bel okSTravel.bel _) rfl) rfl)) (tb_free rfl rfl)))) (H1 := [.lv 2 [.i a0.Actuators, .ro (a0.Steps.map cSStep)], .lv 1 [.ro (a1.Travels.map cSTravel)], .lv 1 [.own 3 l8.length 0 l8.length], .live .nil 6 (l8.map cSSlot)]) (by kernel_rfl) (ob_boxn (bn_free rfl (bn_free (ro_bel okSStep.bel _) rfl)) (ob_boxn (bn_free (ro_bel okSTravel.bel _) rfl) (ob_boxn (bn_ref rfl rfl) (ob_list okSSlot.bel rfl)))) (by kernel_rfl) ?_
      refine Gh_nil ?_
      replace h := Option.some.inj h; subst h
      exact ⟨_, rfl, by kernel_rfl⟩
    · refine Gh_e ⟨⟨26, [(4, .ro (([] : List SSlot).map cSSlot)), (5, .i 0), (7, .po 2 0)]⟩, [.lv 2 [.i a0.Actuators, .ro (a0.Steps.map cSStep)], .lv 1 [.ro (a1.Travels.map cSTravel)], .lv 1 [.own 3 s5.length 0 s5.length], .live .nil 6 (s5.map cSSlot)]⟩ ?_
      refine Gh_one (s1 := ⟨⟨26, [(4, .ro (([] : List SSlot).map cSSlot)), (5, .i 0), (7, .po 2 0)]⟩, [.lv 2 [.i a0.Actuators, .ro (a0.Steps.map cSStep)], .lv 1 [.ro (a1.Travels.map cSTravel)], .lv 1 [.own 3 s5.length 0 s5.length], .live .nil 6 (s5.map cSSlot)]⟩) (by kernel_rfl) ?_
      refine Gh_trunc0 (by kernel_rfl) ?_
      refine Gh_nil ?_
      show _ = _
      kernel_rfl
    · refine W_seq ?_
      refine W_gh ?_
      refine W_reg ?_
      refine O_p 3 ?_
      refine O_nil ?_
      refine Gh_e ⟨⟨26, [(4, .own 3 w7.length 0 w7.length), (5, .i 0)]⟩, [.lv 2 [.i a0.Actuators, .ro (a0.Steps.map cSStep)], .lv 1 [.ro (a1.Travels.map cSTravel)], .lv 1 [.own 3 w7.length 0 w7.length], .live .nil 6 (w7.map cSSlot)]⟩ ?_
      refine W_ret ?_
      replace h := Option.some.inj h; subst h
      exact Fin_pk (l := [.own 3 w7.length 0 w7.length, .i 0]) (by kernel_rfl) (pk_tup (d := 5) (mapO_cons (pk_own (d := 4) (id := 3) (nl := .nil) (sz := 6) (l := w7) okSSlot.bel (by kernel_rfl) rfl) (mapO_cons (pk_free rfl) rfl)))

theorem p15 (a0 : SSequence) (a1 : SPlant) (r : (SSpan × Int)) (h : m15 a0 a1 = some r) : Pt E0 hp 15 [.agg (cSSequence a0), .agg (cSPlant a1)] (.tup [.agg [.i r.1.Low, .i r.1.High], .i r.2]) := by
  unfold m15 at h
  refine Pt_W (fn15) rfl (by decide) ?_
  refine W_seq ?_
  refine W_gh ?_
  refine W_reg ?_
  refine O_p 4 ?_
  refine O_nil ?_
  refine Gh_e ⟨⟨17, [(2, .po 0 0), (3, .po 1 0), (4, .po 2 0)]⟩, [.lv 2 [.i a0.Actuators, .ro (a0.Steps.map cSStep)], .lv 1 [.ro (a1.Travels.map cSTravel)], .lv 2 [.i 0, .i 0]]⟩ ?_
  refine W_seq ?_
  refine W_seq ?_
  refine W_gh ?_
  refine W_reg ?_
  refine O_p 2 ?_
  refine O_call (fun v => .i v) h (.inr rfl) (ys := [.agg (cSSequence a0), .agg (cSPlant a1)]) (fun _ e => p17 _ _ _ e) (by kernel_rfl) (by kernel_rfl) (bels_cons (okSSequence.bel _) (bels_cons (okSPlant.bel _) rfl)) (fun v1 e_v1 h => ?_)
  refine O_p 1 ?_
  refine O_nil ?_
  refine Gh_e ⟨⟨17, [(2, .po 0 0), (3, .po 1 0), (4, .po 2 0), (6, .i v1)]⟩, [.lv 2 [.i a0.Actuators, .ro (a0.Steps.map cSStep)], .lv 1 [.ro (a1.Travels.map cSTravel)], .lv 2 [.i 0, .i 0]]⟩ ?_
  refine W_seq ?_
  refine W_gh ?_
  refine W_reg ?_
  refine O_p 2 ?_
  refine O_nil ?_
  refine Gh_e ⟨⟨17, [(2, .po 0 0), (3, .po 1 0), (4, .po 2 0), (6, .i v1), (11, .bool (v1 != 0))]⟩, [.lv 2 [.i a0.Actuators, .ro (a0.Steps.map cSStep)], .lv 1 [.ro (a1.Travels.map cSTravel)], .lv 2 [.i 0, .i 0]]⟩ ?_
  refine W_gh ?_
  refine W_cond (c := (v1 != 0)) (by kernel_rfl) (fun c2 => ?_) (fun c2 => ?_)
  · replace h := fork_t c2 h
    refine W_seq ?_
    refine W_gh ?_
    refine W_reg ?_
    refine O_p 4 ?_
    refine O_nil ?_
    refine Gh_e ⟨⟨17, [(2, .po 0 0), (3, .po 1 0), (4, .po 2 0), (5, .i v1), (11, .bool (v1 != 0))]⟩, [.lv 2 [.i a0.Actuators, .ro (a0.Steps.map cSStep)], .lv 1 [.ro (a1.Travels.map cSTravel)], .lv 2 [.i 0, .i 0]]⟩ ?_
    refine W_ret ?_
    replace h := Option.some.inj h; subst h
    exact Fin_free (l := [.agg [.i 0, .i 0], .i v1]) (by kernel_rfl) (by kernel_rfl) (bels_cons rfl (bels_cons rfl rfl))
  · replace h := fork_f c2 h
    refine W_skip ?_
    refine Gh_e ⟨⟨17, [(2, .po 0 0), (3, .po 1 0), (4, .po 2 0)]⟩, [.lv 2 [.i a0.Actuators, .ro (a0.Steps.map cSStep)], .lv 1 [.ro (a1.Travels.map cSTravel)], .lv 2 [.i 0, .i 0]]⟩ ?_
    refine W_seq ?_
    refine W_gh ?_
    refine W_reg ?_
    refine O_p 2 ?_
    refine O_call (fun v => .agg [.i v.Low, .i v.High]) h (.inr rfl) (ys := [.agg (cSSequence a0), .agg (cSPlant a1)]) (fun _ e => p48 _ _ _ e) (by kernel_rfl) (by kernel_rfl) (bels_cons (okSSequence.bel _) (bels_cons (okSPlant.bel _) rfl)) (fun v3 e_v3 h => ?_)
    refine O_p 2 ?_
    refine O_nil ?_
    refine Gh_e ⟨⟨17, [(4, .po 2 0), (5, .i 0)]⟩, [.lv 2 [.i a0.Actuators, .ro (a0.Steps.map cSStep)], .lv 1 [.ro (a1.Travels.map cSTravel)], .lv 2 [.i v3.Low, .i v3.High]]⟩ ?_
    refine W_ret ?_
    replace h := Option.some.inj h; subst h
    exact Fin_free (l := [.agg [.i v3.Low, .i v3.High], .i 0]) (by kernel_rfl) (by kernel_rfl) (bels_cons rfl (bels_cons rfl rfl))

theorem p30 (a0 : SSequence) (a1 : SPlant) (a2 : Int) (r : ((List Int) × Int)) (h : m30 a0 a1 a2 = some r) : Pt E0 hp 30 [.agg (cSSequence a0), .agg (cSPlant a1), .i a2] (.tup [.ro (r.1.map cI_i64), .i r.2]) := by
  unfold m30 at h
  refine Pt_W (fn30) rfl (by decide) ?_
  refine W_seq ?_
  refine W_gh ?_
  refine W_reg ?_
  refine O_p 4 ?_
  refine O_nil ?_
  refine Gh_e ⟨⟨58, [(2, .i a2), (3, .po 0 0), (4, .po 1 0)]⟩, [.lv 2 [.i a0.Actuators, .ro (a0.Steps.map cSStep)], .lv 1 [.ro (a1.Travels.map cSTravel)]]⟩ ?_
  refine W_seq ?_
  refine W_seq ?_
  refine W_gh ?_
  refine W_reg ?_
  refine O_p 2 ?_
  refine O_call (fun v => .i v) h (.inr rfl) (ys := [.agg (cSSequence a0), .agg (cSPlant a1)]) (fun _ e => p17 _ _ _ e) (by kernel_rfl) (by kernel_rfl) (bels_cons (okSSequence.bel _) (bels_cons (okSPlant.bel _) rfl)) (fun v1 e_v1 h => ?_)
  refine O_p 1 ?_
  refine O_nil ?_
  refine Gh_e ⟨⟨58, [(2, .i a2), (3, .po 0 0), (4, .po 1 0), (8, .i v1)]⟩, [.lv 2 [.i a0.Actuators, .ro (a0.Steps.map cSStep)], .lv 1 [.ro (a1.Travels.map cSTravel)]]⟩ ?_
  refine W_seq ?_
  refine W_gh ?_
  refine W_reg ?_
  refine O_p 2 ?_
  refine O_nil ?_
  refine Gh_e ⟨⟨58, [(2, .i a2), (3, .po 0 0), (4, .po 1 0), (8, .i v1), (16, .bool (v1 != 0))]⟩, [.lv 2 [.i a0.Actuators, .ro (a0.Steps.map cSStep)], .lv 1 [.ro (a1.Travels.map cSTravel)]]⟩ ?_
  refine W_gh ?_
  refine W_cond (c := (v1 != 0)) (by kernel_rfl) (fun c2 => ?_) (fun c2 => ?_)
  · replace h := fork_t c2 h
    refine W_seq ?_
    refine W_gh ?_
    refine W_reg ?_
    refine O_p 3 ?_
    refine O_nil ?_
    refine Gh_e ⟨⟨58, [(2, .i a2), (3, .po 0 0), (4, .po 1 0), (6, .ro (([] : List Int).map cI_i64)), (7, .i v1), (16, .bool (v1 != 0))]⟩, [.lv 2 [.i a0.Actuators, .ro (a0.Steps.map cSStep)], .lv 1 [.ro (a1.Travels.map cSTravel)]]⟩ ?_
    refine W_ret ?_
    replace h := Option.some.inj h; subst h
    exact Fin_free (l := [.ro (([] : List Int).map cI_i64), .i v1]) (by kernel_rfl) (by kernel_rfl) (bels_cons (ro_bel okI_i64.bel _) (bels_cons rfl rfl))
  · replace h := fork_f c2 h
    refine W_skip ?_
    refine Gh_e ⟨⟨58, [(2, .i a2), (3, .po 0 0), (4, .po 1 0)]⟩, [.lv 2 [.i a0.Actuators, .ro (a0.Steps.map cSStep)], .lv 1 [.ro (a1.Travels.map cSTravel)]]⟩ ?_
    refine W_seq ?_
    refine W_seq ?_
    refine W_cut ⟨⟨58, [(2, .i a2), (3, .po 0 0), (4, .po 1 0), (26, .bool ((decide (a2 < 0)) || (decide (a2 ≥ (a0.Steps.length : Int)))))]⟩, [.lv 2 [.i a0.Actuators, .ro (a0.Steps.map cSStep)], .lv 1 [.ro (a1.Travels.map cSTravel)]]⟩ ?_ ?_
    · generalize e_g3 : ((decide (a2 < 0)) || (decide (a2 ≥ (a0.Steps.length : Int)))) = g3
      refine W_gh ?_
      refine W_reg ?_
      refine O_p 3 ?_
      refine O_fork (n := 20) (decide (a2 < 0)) (by kernel_rfl) (fun c4 => ?_) (fun c4 => ?_)
      · skip
        refine O_p 6 ?_
        refine O_nil ?_
        refine Gh_e ⟨⟨58, [(2, .i a2), (3, .po 0 0), (4, .po 1 0), (26, .bool true)]⟩, [.lv 2 [.i a0.Actuators, .ro (a0.Steps.map cSStep)], .lv 1 [.ro (a1.Travels.map cSTravel)]]⟩ ?_
        have q := e_g3; simp only [c2, c4, cond_true, cond_false, Bool.true_and, Bool.false_and, Bool.true_or, Bool.false_or] at q; subst q
        show _ = _
        kernel_rfl
      · skip
        refine O_p 3 ?_
        refine O_len (l := a0.Steps) cSStep (by kernel_rfl) (by kernel_rfl) ?_
        refine O_p 2 ?_
        refine O_nil ?_
        refine Gh_e ⟨⟨58, [(2, .i a2), (3, .po 0 0), (4, .po 1 0), (26, .bool (decide (a2 ≥ (a0.Steps.length : Int))))]⟩, [.lv 2 [.i a0.Actuators, .ro (a0.Steps.map cSStep)], .lv 1 [.ro (a1.Travels.map cSTravel)]]⟩ ?_
        have q := e_g3; simp only [c2, c4, cond_true, cond_false, Bool.true_and, Bool.false_and, Bool.true_or, Bool.false_or] at q; subst q
        show _ = _
        kernel_rfl
    · refine W_gh ?_
      refine W_cond (c := ((decide (a2 < 0)) || (decide (a2 ≥ (a0.Steps.length : Int))))) (by kernel_rfl) (fun c5 => ?_) (fun c5 => ?_)
      · replace h := fork_t c5 h
        refine W_seq ?_
        refine W_gh ?_
        refine W_reg ?_
        refine O_p 2 ?_
        refine O_nil ?_
        refine Gh_e ⟨⟨58, [(2, .i a2), (3, .po 0 0), (4, .po 1 0), (6, .ro (([] : List Int).map cI_i64)), (7, .i 2), (26, .bool ((decide (a2 < 0)) || (decide (a2 ≥ (a0.Steps.length : Int)))))]⟩, [.lv 2 [.i a0.Actuators, .ro (a0.Steps.map cSStep)], .lv 1 [.ro (a1.Travels.map cSTravel)]]⟩ ?_
        refine W_ret ?_
        replace h := Option.some.inj h; subst h
        exact Fin_free (l := [.ro (([] : List Int).map cI_i64), .i 2]) (by kernel_rfl) (by kernel_rfl) (bels_cons (ro_bel okI_i64.bel _) (bels_cons rfl rfl))
      · replace h := fork_f c5 h
        refine W_skip ?_
        refine Gh_e ⟨⟨58, [(2, .i a2), (3, .po 0 0), (4, .po 1 0)]⟩, [.lv 2 [.i a0.Actuators, .ro (a0.Steps.map cSStep)], .lv 1 [.ro (a1.Travels.map cSTravel)]]⟩ ?_
        refine W_seq ?_
        refine W_gh ?_
        refine W_reg ?_
        refine O_p 1 ?_
        refine O_nil ?_
        refine Gh_e ⟨⟨58, [(2, .i a2), (3, .po 0 0), (4, .po 1 0), (9, .own 2 0 0 0)]⟩, [.lv 2 [.i a0.Actuators, .ro (a0.Steps.map cSStep)], .lv 1 [.ro (a1.Travels.map cSTravel)], .live .nil 1 (([] : List Int).map cI_i64)]⟩ ?_
        refine W_seq ?_
        refine W_seq ?_
        refine W_gh ?_
        refine W_reg ?_
        refine O_p 3 ?_
        refine O_idx (kd := .i64) cSStep h (fun _ => rfl) (by kernel_rfl) (by kernel_rfl) (by kernel_rfl) (fun v6 e_v6 h => ?_)
        refine O_p 2 ?_
        refine O_len (l := v6.Strokes) cSStroke (by kernel_rfl) (by kernel_rfl) ?_
        refine O_p 1 ?_
        refine O_nil ?_
        refine Gh_e ⟨⟨58, [(2, .i a2), (3, .po 0 0), (4, .po 1 0), (9, .own 2 0 0 0), (32, .ro (v6.Strokes.map cSStroke)), (33, .i (v6.Strokes.length : Int)), (34, .i 0)]⟩, [.lv 2 [.i a0.Actuators, .ro (a0.Steps.map cSStep)], .lv 1 [.ro (a1.Travels.map cSTravel)], .live .nil 1 (([] : List Int).map cI_i64)]⟩ ?_
        refine W_loopS (fun s7 : (List Int) × Int => ⟨⟨58, [(2, .i a2), (3, .po 0 0), (4, .po 1 0), (9, .own 2 s7.1.length 0 s7.1.length), (32, .ro (v6.Strokes.map cSStroke)), (33, .i (v6.Strokes.length : Int)), (34, .i s7.2)]⟩, [.lv 2 [.i a0.Actuators, .ro (a0.Steps.map cSStep)], .lv 1 [.ro (a1.Travels.map cSTravel)], .live .nil 1 (s7.1.map cI_i64)]⟩) (fun w8 : (List Int) => ⟨⟨58, [(9, .own 2 w8.length 0 w8.length)]⟩, [.lv 2 [.i a0.Actuators, .ro (a0.Steps.map cSStep)], .lv 1 [.ro (a1.Travels.map cSTravel)], .live .nil 1 (w8.map cI_i64)]⟩) h (by kernel_rfl) (fun s7 c h => ?_) (fun w8 e_w8 h => ?_)
        · refine W_gh ?_
          refine W_seq ?_
          refine W_reg ?_
          refine O_p 1 ?_
          refine O_nil ?_
          refine W_seq ?_
          refine W_gh ?_
          refine W_cond (c := (decide (s7.2 < (v6.Strokes.length : Int)))) (by kernel_rfl) (fun c9 => ?_) (fun c9 => ?_)
          · replace h := fork_t c9 h
            refine W_skip ?_
            refine Gh_e ⟨⟨58, [(2, .i a2), (3, .po 0 0), (4, .po 1 0), (9, .own 2 s7.1.length 0 s7.1.length), (32, .ro (v6.Strokes.map cSStroke)), (33, .i (v6.Strokes.length : Int)), (34, .i s7.2)]⟩, [.lv 2 [.i a0.Actuators, .ro (a0.Steps.map cSStep)], .lv 1 [.ro (a1.Travels.map cSTravel)], .live .nil 1 (s7.1.map cI_i64)]⟩ ?_
            refine W_seq ?_
            refine W_gh ?_
            refine W_block ?_
            refine W_seq ?_
            refine W_gh ?_
            refine W_reg ?_
            refine O_p 1 ?_
            refine O_idx (kd := .i64) cSStroke h (fun _ => rfl) (by kernel_rfl) (by kernel_rfl) (by kernel_rfl) (fun v10 e_v10 h => ?_)
            refine O_p 4 ?_
            refine O_nil ?_
            refine Gh_e ⟨⟨58, [(2, .i a2), (3, .po 0 0), (4, .po 1 0), (9, .own 2 s7.1.length 0 s7.1.length), (10, .i s7.2), (11, .po 3 0), (32, .ro (v6.Strokes.map cSStroke)), (33, .i (v6.Strokes.length : Int)), (34, .i s7.2)]⟩, [.lv 2 [.i a0.Actuators, .ro (a0.Steps.map cSStep)], .lv 1 [.ro (a1.Travels.map cSTravel)], .live .nil 1 (s7.1.map cI_i64), .lv 2 [.i v10.Actuator, .bool v10.Out]]⟩ ?_
            refine W_seq ?_
            refine W_gh ?_
            refine W_draw ?_
            refine O_p 2 ?_
            refine O_call (fun v => .agg [.i v.Low, .i v.High]) h (.inr rfl) (ys := [.agg (cSPlant a1), .agg (cSStroke v10)]) (fun _ e => p55 _ _ _ e) (by kernel_rfl) (by kernel_rfl) (bels_cons (okSPlant.bel _) (bels_cons (okSStroke.bel _) rfl)) (fun v11 e_v11 h => ?_)
            refine O_p 5 ?_
            refine O_idx (kd := .i64) cSStep h (fun _ => rfl) (by kernel_rfl) (by kernel_rfl) (by kernel_rfl) (fun v12 e_v12 h => ?_)
            refine O_p 1 ?_
            refine O_call (fun v => .agg [.i v.Low, .i v.High]) h (.inr rfl) (ys := [.agg (cSPlant a1), .agg (cSStep v12)]) (fun _ e => p57 _ _ _ e) (by kernel_rfl) (by kernel_rfl) (bels_cons (okSPlant.bel _) (bels_cons (okSStep.bel _) rfl)) (fun v13 e_v13 h => ?_)
            refine O_p 2 ?_
            refine O_nil ?_
            refine Gh_e ⟨⟨58, [(2, .i a2), (3, .po 0 0), (4, .po 1 0), (9, .own 2 s7.1.length 0 s7.1.length), (10, .i s7.2), (32, .ro (v6.Strokes.map cSStroke)), (33, .i (v6.Strokes.length : Int)), (34, .i s7.2), (51, .bool (decide (v11.High ≥ v13.Low)))]⟩, [.lv 2 [.i a0.Actuators, .ro (a0.Steps.map cSStep)], .lv 1 [.ro (a1.Travels.map cSTravel)], .live .nil 1 (s7.1.map cI_i64), .lv 2 [.i v10.Actuator, .bool v10.Out]]⟩ ?_
            refine W_joinS (fun v : (List Int) => ⟨⟨58, [(2, .i a2), (3, .po 0 0), (4, .po 1 0), (9, .own 2 v.length 0 v.length), (32, .ro (v6.Strokes.map cSStroke)), (33, .i (v6.Strokes.length : Int)), (34, .i s7.2)]⟩, [.lv 2 [.i a0.Actuators, .ro (a0.Steps.map cSStep)], .lv 1 [.ro (a1.Travels.map cSTravel)], .live .nil 1 (v.map cI_i64), .lv 2 [.i v10.Actuator, .bool v10.Out]]⟩) h (fun w h => ?_) (fun w14 e_w14 h => ?_)
            · refine W_gh ?_
              refine W_cond (c := (decide (v11.High ≥ v13.Low))) (by kernel_rfl) (fun c15 => ?_) (fun c15 => ?_)
              · replace h := fork_t c15 h
                refine W_gh ?_
                refine W_reg ?_
                refine O_p 3 ?_
                refine O_app (C := cI_i64) (id := 2) (nl := .nil) okI_i64 h rfl (by kernel_rfl) (by kernel_rfl) (by kernel_rfl) (by kernel_rfl) rfl (fun l16 e_l16 h => ?_)
                refine O_p 1 ?_
                refine O_nil ?_
                refine Gh_one (s1 := ⟨⟨58, [(2, .i a2), (3, .po 0 0), (4, .po 1 0), (9, .own 2 l16.length 0 l16.length), (32, .ro (v6.Strokes.map cSStroke)), (33, .i (v6.Strokes.length : Int)), (34, .i s7.2), (51, .bool (decide (v11.High ≥ v13.Low)))]⟩, [.lv 2 [.i a0.Actuators, .ro (a0.Steps.map cSStep)], .lv 1 [.ro (a1.Travels.map cSTravel)], .live .nil 1 (l16.map cI_i64), .lv 2 [.i v10.Actuator, .bool v10.Out], .live .norm 1 (([s7.2] : List Int).map cI_i64)]⟩) (by kernel_rfl) ?_
                refine Gh_at (s1 := ⟨⟨58, [(2, .i a2), (3, .po 0 0), (4, .po 1 0), (9, .own 2 l16.length 0 l16.length), (32, .ro (v6.Strokes.map cSStroke)), (33, .i (v6.Strokes.length : Int)), (34, .i s7.2), (51, .bool (decide (v11.High ≥ v13.Low)))]⟩, [.lv 2 [.i a0.Actuators, .ro (a0.Steps.map cSStep)], .lv 1 [.ro (a1.Travels.map cSTravel)], .live .nil 1 (l16.map cI_i64), .lv 2 [.i v10.Actuator, .bool v10.Out], .live .norm 1 (([s7.2] : List Int).map cI_i64)]⟩) (by kernel_rfl) ?_
                refine Gh_trunc (s1 := ⟨⟨58, [(2, .i a2), (3, .po 0 0), (4, .po 1 0), (9, .own 2 l16.length 0 l16.length), (32, .ro (v6.Strokes.map cSStroke)), (33, .i (v6.Strokes.length : Int)), (34, .i s7.2), (51, .bool (decide (v11.High ≥ v13.Low)))]⟩, [.lv 2 [.i a0.Actuators, .ro (a0.Steps.map cSStep)], .lv 1 [.ro (a1.Travels.map cSTravel)], .live .nil 1 (l16.map cI_i64), .lv 2 [.i v10.Actuator, .bool v10.Out]]⟩) (by kernel_rfl) (tb_free rfl (tb_ref rfl (tb_ref rfl (tb_ref rfl (tb_free (ro_bel okSStroke.bel _) (tb_free rfl (tb_free rfl (tb_free rfl rfl)))))))) (H1 := [.lv 2 [.i a0.Actuators, .ro (a0.Steps.map cSStep)], .lv 1 [.ro (a1.Travels.map cSTravel)], .live .nil 1 (l16.map cI_i64), .lv 2 [.i v10.Actuator, .bool v10.Out]]) (by kernel_rfl) (ob_boxn (bn_free rfl (bn_free (ro_bel okSStep.bel _) rfl)) (ob_boxn (bn_free (ro_bel okSTravel.bel _) rfl) (ob_list okI_i64.bel (ob_boxn (bn_free rfl (bn_free rfl rfl)) rfl)))) (by kernel_rfl) ?_
                refine Gh_nil ?_
                refine Gh_one (s1 := ⟨⟨58, [(2, .i a2), (3, .po 0 0), (4, .po 1 0), (9, .own 2 l16.length 0 l16.length), (32, .ro (v6.Strokes.map cSStroke)), (33, .i (v6.Strokes.length : Int)), (34, .i s7.2)]⟩, [.lv 2 [.i a0.Actuators, .ro (a0.Steps.map cSStep)], .lv 1 [.ro (a1.Travels.map cSTravel)], .live .nil 1 (l16.map cI_i64), .lv 2 [.i v10.Actuator, .bool v10.Out]]⟩) (by kernel_rfl) ?_
                refine Gh_trunc0 (by kernel_rfl) ?_
                refine Gh_nil ?_
                replace h := Option.some.inj h; subst h
                show _ = _
                kernel_rfl
              · replace h := fork_f c15 h
                refine W_skip ?_
                refine Gh_one (s1 := ⟨⟨58, [(2, .i a2), (3, .po 0 0), (4, .po 1 0), (9, .own 2 s7.1.length 0 s7.1.length), (32, .ro (v6.Strokes.map cSStroke)), (33, .i (v6.Strokes.length : Int)), (34, .i s7.2)]⟩, [.lv 2 [.i a0.Actuators, .ro (a0.Steps.map cSStep)], .lv 1 [.ro (a1.Travels.map cSTravel)], .live .nil 1 (s7.1.map cI_i64), .lv 2 [.i v10.Actuator, .bool v10.Out]]⟩) (by kernel_rfl) ?_
                refine Gh_trunc0 (by kernel_rfl) ?_
                refine Gh_nil ?_
                replace h := Option.some.inj h; subst h
                show _ = _
                kernel_rfl
            · refine Gh_one (s1 := ⟨⟨58, [(2, .i a2), (3, .po 0 0), (4, .po 1 0), (9, .own 2 w14.length 0 w14.length), (32, .ro (v6.Strokes.map cSStroke)), (33, .i (v6.Strokes.length : Int)), (34, .i s7.2)]⟩, [.lv 2 [.i a0.Actuators, .ro (a0.Steps.map cSStep)], .lv 1 [.ro (a1.Travels.map cSTravel)], .live .nil 1 (w14.map cI_i64), .lv 2 [.i v10.Actuator, .bool v10.Out]]⟩) (by kernel_rfl) ?_
              refine Gh_at (s1 := ⟨⟨58, [(2, .i a2), (3, .po 0 0), (4, .po 1 0), (9, .own 2 w14.length 0 w14.length), (32, .ro (v6.Strokes.map cSStroke)), (33, .i (v6.Strokes.length : Int)), (34, .i s7.2)]⟩, [.lv 2 [.i a0.Actuators, .ro (a0.Steps.map cSStep)], .lv 1 [.ro (a1.Travels.map cSTravel)], .live .nil 1 (w14.map cI_i64), .lv 2 [.i v10.Actuator, .bool v10.Out]]⟩) (by kernel_rfl) ?_
              refine Gh_trunc (s1 := ⟨⟨58, [(2, .i a2), (3, .po 0 0), (4, .po 1 0), (9, .own 2 w14.length 0 w14.length), (32, .ro (v6.Strokes.map cSStroke)), (33, .i (v6.Strokes.length : Int)), (34, .i s7.2)]⟩, [.lv 2 [.i a0.Actuators, .ro (a0.Steps.map cSStep)], .lv 1 [.ro (a1.Travels.map cSTravel)], .live .nil 1 (w14.map cI_i64)]⟩) (by kernel_rfl) (tb_free rfl (tb_ref rfl (tb_ref rfl (tb_ref rfl (tb_free (ro_bel okSStroke.bel _) (tb_free rfl (tb_free rfl rfl))))))) (H1 := [.lv 2 [.i a0.Actuators, .ro (a0.Steps.map cSStep)], .lv 1 [.ro (a1.Travels.map cSTravel)], .live .nil 1 (w14.map cI_i64)]) (by kernel_rfl) (ob_boxn (bn_free rfl (bn_free (ro_bel okSStep.bel _) rfl)) (ob_boxn (bn_free (ro_bel okSTravel.bel _) rfl) (ob_list okI_i64.bel rfl))) (by kernel_rfl) ?_
              refine Gh_nil ?_
              refine W_gh ?_
              refine W_reg ?_
              refine O_p 2 ?_
              refine O_nil ?_
              refine Gh_e ⟨⟨58, [(2, .i a2), (3, .po 0 0), (4, .po 1 0), (9, .own 2 w14.length 0 w14.length), (32, .ro (v6.Strokes.map cSStroke)), (33, .i (v6.Strokes.length : Int)), (34, .i (addI .i64 s7.2 1))]⟩, [.lv 2 [.i a0.Actuators, .ro (a0.Steps.map cSStep)], .lv 1 [.ro (a1.Travels.map cSTravel)], .live .nil 1 (w14.map cI_i64)]⟩ ?_
              refine Gh_one (s1 := ⟨⟨58, [(2, .i a2), (3, .po 0 0), (4, .po 1 0), (9, .own 2 w14.length 0 w14.length), (32, .ro (v6.Strokes.map cSStroke)), (33, .i (v6.Strokes.length : Int)), (34, .i (addI .i64 s7.2 1))]⟩, [.lv 2 [.i a0.Actuators, .ro (a0.Steps.map cSStep)], .lv 1 [.ro (a1.Travels.map cSTravel)], .live .nil 1 (w14.map cI_i64)]⟩) (by kernel_rfl) ?_
              refine Gh_trunc0 (by kernel_rfl) ?_
              refine Gh_nil ?_
              replace h := Option.some.inj h; subst h
              exact ⟨_, rfl, by kernel_rfl⟩
          · replace h := fork_f c9 h
            refine W_exit ?_
            refine X_hit ?_
            refine Gh_one (s1 := ⟨⟨58, [(9, .own 2 s7.1.length 0 s7.1.length)]⟩, [.lv 2 [.i a0.Actuators, .ro (a0.Steps.map cSStep)], .lv 1 [.ro (a1.Travels.map cSTravel)], .live .nil 1 (s7.1.map cI_i64)]⟩) (by kernel_rfl) ?_
            refine Gh_trunc0 (by kernel_rfl) ?_
            refine Gh_nil ?_
            replace h := Option.some.inj h; subst h
            exact ⟨_, rfl, by kernel_rfl⟩
        · refine W_seq ?_
          refine W_gh ?_
          refine W_reg ?_
          refine O_p 3 ?_
          refine O_nil ?_
          refine Gh_e ⟨⟨58, [(6, .own 2 w8.length 0 w8.length), (7, .i 0)]⟩, [.lv 2 [.i a0.Actuators, .ro (a0.Steps.map cSStep)], .lv 1 [.ro (a1.Travels.map cSTravel)], .live .nil 1 (w8.map cI_i64)]⟩ ?_
          refine W_ret ?_
          replace h := Option.some.inj h; subst h
          exact Fin_pk (l := [.own 2 w8.length 0 w8.length, .i 0]) (by kernel_rfl) (pk_tup (d := 5) (mapO_cons (pk_own (d := 4) (id := 2) (nl := .nil) (sz := 1) (l := w8) okI_i64.bel (by kernel_rfl) rfl) (mapO_cons (pk_free rfl) rfl)))

theorem p53 (a0 : SStroke) (a1 : Int) (r : Bool) (h : m53 a0 a1 = some r) : Pt E0 hp 53 [.agg (cSStroke a0), .pro [.i a1]] (.bool r) := by
  unfold m53 at h
  refine Pt_W (fn53) rfl (by decide) ?_
  refine W_seq ?_
  refine W_gh ?_
  refine W_reg ?_
  refine O_p 2 ?_
  refine O_nil ?_
  refine Gh_e ⟨⟨8, [(1, .pro [.i a1]), (2, .po 0 0)]⟩, [.lv 2 [.i a0.Actuator, .bool a0.Out]]⟩ ?_
  refine W_seq ?_
  refine W_gh ?_
  refine W_reg ?_
  refine O_p 5 ?_
  refine O_nil ?_
  refine Gh_e ⟨⟨8, [(3, .bool (a0.Actuator == a1))]⟩, [.lv 2 [.i a0.Actuator, .bool a0.Out]]⟩ ?_
  refine W_ret ?_
  replace h := Option.some.inj h; subst h
  exact Fin_free (l := [.bool (a0.Actuator == a1)]) (by kernel_rfl) (by kernel_rfl) rfl

theorem p52_53 (a0 : (List SStroke)) (a1 : Int) (r : Int) (h : m52_53 a0 a1 = some r) : Pt E0 hp 52 [.ro (a0.map cSStroke), .fn 53 [.pro [.i a1]]] (.i r) := by
  unfold m52_53 at h
  refine Pt_W (fn52) rfl (by decide) ?_
  refine W_seq ?_
  refine W_gh ?_
  refine W_reg ?_
  refine O_p 1 ?_
  refine O_nil ?_
  refine Gh_e ⟨⟨19, [(0, .ro (a0.map cSStroke)), (1, .fn 53 [.pro [.i a1]])]⟩, []⟩ ?_
  refine W_seq ?_
  refine W_seq ?_
  refine W_gh ?_
  refine W_reg ?_
  refine O_p 1 ?_
  refine O_len (l := a0) cSStroke (by kernel_rfl) (by kernel_rfl) ?_
  refine O_p 1 ?_
  refine O_nil ?_
  refine Gh_e ⟨⟨19, [(0, .ro (a0.map cSStroke)), (1, .fn 53 [.pro [.i a1]]), (7, .i (a0.length : Int)), (8, .i 0)]⟩, []⟩ ?_
  refine W_loop (fun s1 : Int => ⟨⟨19, [(0, .ro (a0.map cSStroke)), (1, .fn 53 [.pro [.i a1]]), (7, .i (a0.length : Int)), (8, .i s1)]⟩, []⟩) (fun w2 : Unit => ⟨⟨19, []⟩, []⟩) h (by kernel_rfl) (fun s1 c h => ?_) (fun w2 h => ?_)
  · refine W_gh ?_
    refine W_seq ?_
    refine W_reg ?_
    refine O_p 1 ?_
    refine O_nil ?_
    refine W_seq ?_
    refine W_gh ?_
    refine W_cond (c := (decide (s1 < (a0.length : Int)))) (by kernel_rfl) (fun c3 => ?_) (fun c3 => ?_)
    · replace h := fork_t c3 h
      refine W_skip ?_
      refine Gh_e ⟨⟨19, [(0, .ro (a0.map cSStroke)), (1, .fn 53 [.pro [.i a1]]), (7, .i (a0.length : Int)), (8, .i s1)]⟩, []⟩ ?_
      refine W_seq ?_
      refine W_gh ?_
      refine W_block ?_
      refine W_seq ?_
      refine W_gh ?_
      refine W_reg ?_
      refine O_p 2 ?_
      refine O_nil ?_
      refine Gh_e ⟨⟨19, [(0, .ro (a0.map cSStroke)), (1, .fn 53 [.pro [.i a1]]), (5, .i s1), (7, .i (a0.length : Int)), (8, .i s1)]⟩, []⟩ ?_
      refine W_seq ?_
      refine W_gh ?_
      refine W_reg ?_
      refine O_p 3 ?_
      refine O_idx (kd := .i64) cSStroke h (fun _ => rfl) (by kernel_rfl) (by kernel_rfl) (by kernel_rfl) (fun v4 e_v4 h => ?_)
      refine O_p 1 ?_
      refine O_callv (f := 53) (cap := [.pro [.i a1]]) (fun v => .bool v) h (.inr rfl) (by kernel_rfl) (ys := [.agg (cSStroke v4), .pro [.i a1]]) (fun _ e => p53 _ _ _ e) (by kernel_rfl) (by kernel_rfl) (bels_cons (okSStroke.bel _) (bels_cons rfl rfl)) (fun v5 e_v5 h => ?_)
      refine O_nil ?_
      refine Gh_one (s1 := ⟨⟨19, [(0, .ro (a0.map cSStroke)), (1, .fn 53 [.pro [.i a1]]), (5, .i s1), (7, .i (a0.length : Int)), (8, .i s1), (16, .bool v5)]⟩, []⟩) (by kernel_rfl) ?_
      refine Gh_trunc0 (by kernel_rfl) ?_
      refine Gh_nil ?_
      refine W_gh ?_
      refine W_cond (c := v5) (by kernel_rfl) (fun c6 => ?_) (fun c6 => ?_)
      · replace h := fork_t c6 h
        refine W_seq ?_
        refine W_gh ?_
        refine W_reg ?_
        refine O_p 2 ?_
        refine O_nil ?_
        refine Gh_e ⟨⟨19, [(0, .ro (a0.map cSStroke)), (1, .fn 53 [.pro [.i a1]]), (4, .i s1), (7, .i (a0.length : Int)), (8, .i s1), (16, .bool v5)]⟩, []⟩ ?_
        refine W_ret ?_
        replace h := Option.some.inj h; subst h
        refine ⟨_, rfl, fun h => ?_⟩
        replace h := Option.some.inj h; subst h
        exact Fin_free (l := [.i s1]) (by kernel_rfl) (by kernel_rfl) rfl
      · replace h := fork_f c6 h
        refine W_skip ?_
        refine Gh_e ⟨⟨19, [(0, .ro (a0.map cSStroke)), (1, .fn 53 [.pro [.i a1]]), (7, .i (a0.length : Int)), (8, .i s1)]⟩, []⟩ ?_
        refine Gh_one (s1 := ⟨⟨19, [(0, .ro (a0.map cSStroke)), (1, .fn 53 [.pro [.i a1]]), (7, .i (a0.length : Int)), (8, .i s1)]⟩, []⟩) (by kernel_rfl) ?_
        refine Gh_trunc0 (by kernel_rfl) ?_
        refine Gh_nil ?_
        refine W_gh ?_
        refine W_reg ?_
        refine O_p 2 ?_
        refine O_nil ?_
        refine Gh_e ⟨⟨19, [(0, .ro (a0.map cSStroke)), (1, .fn 53 [.pro [.i a1]]), (7, .i (a0.length : Int)), (8, .i (addI .i64 s1 1))]⟩, []⟩ ?_
        refine Gh_one (s1 := ⟨⟨19, [(0, .ro (a0.map cSStroke)), (1, .fn 53 [.pro [.i a1]]), (7, .i (a0.length : Int)), (8, .i (addI .i64 s1 1))]⟩, []⟩) (by kernel_rfl) ?_
        refine Gh_trunc0 (by kernel_rfl) ?_
        refine Gh_nil ?_
        replace h := Option.some.inj h; subst h
        exact ⟨_, rfl, by kernel_rfl⟩
    · replace h := fork_f c3 h
      refine W_exit ?_
      refine X_hit ?_
      refine Gh_one (s1 := ⟨⟨19, []⟩, []⟩) (by kernel_rfl) ?_
      refine Gh_trunc0 (by kernel_rfl) ?_
      refine Gh_nil ?_
      replace h := Option.some.inj h; subst h
      exact ⟨_, rfl, by kernel_rfl⟩
  · refine W_seq ?_
    refine W_reg ?_
    refine O_p 1 ?_
    refine O_nil ?_
    refine W_ret ?_
    replace h := Option.some.inj h; subst h
    exact Fin_free (l := [.i (-1)]) (by kernel_rfl) (by kernel_rfl) rfl

theorem p21 (a0 : SSequence) (a1 : SPlant) (a2 : Int) (r : (SSpan × Int)) (h : m21 a0 a1 a2 = some r) : Pt E0 hp 21 [.agg (cSSequence a0), .agg (cSPlant a1), .i a2] (.tup [.agg [.i r.1.Low, .i r.1.High], .i r.2]) := by
  unfold m21 at h
  refine Pt_W (fn21) rfl (by decide) ?_
  refine W_seq ?_
  refine W_gh ?_
  refine W_reg ?_
  refine O_p 5 ?_
  refine O_nil ?_
  refine Gh_e ⟨⟨77, [(3, .po 0 0), (4, .po 1 0), (5, .po 2 0), (6, .po 3 0)]⟩, [.lv 2 [.i a0.Actuators, .ro (a0.Steps.map cSStep)], .lv 1 [.ro (a1.Travels.map cSTravel)], .lv 1 [.i a2], .lv 2 [.i 0, .i 0]]⟩ ?_
  refine W_seq ?_
  refine W_seq ?_
  refine W_gh ?_
  refine W_reg ?_
  refine O_p 2 ?_
  refine O_call (fun v => .i v) h (.inr rfl) (ys := [.agg (cSSequence a0), .agg (cSPlant a1)]) (fun _ e => p17 _ _ _ e) (by kernel_rfl) (by kernel_rfl) (bels_cons (okSSequence.bel _) (bels_cons (okSPlant.bel _) rfl)) (fun v1 e_v1 h => ?_)
  refine O_p 1 ?_
  refine O_nil ?_
  refine Gh_e ⟨⟨77, [(3, .po 0 0), (4, .po 1 0), (5, .po 2 0), (6, .po 3 0), (8, .i v1)]⟩, [.lv 2 [.i a0.Actuators, .ro (a0.Steps.map cSStep)], .lv 1 [.ro (a1.Travels.map cSTravel)], .lv 1 [.i a2], .lv 2 [.i 0, .i 0]]⟩ ?_
  refine W_seq ?_
  refine W_gh ?_
  refine W_reg ?_
  refine O_p 2 ?_
  refine O_nil ?_
  refine Gh_e ⟨⟨77, [(3, .po 0 0), (4, .po 1 0), (5, .po 2 0), (6, .po 3 0), (8, .i v1), (18, .bool (v1 != 0))]⟩, [.lv 2 [.i a0.Actuators, .ro (a0.Steps.map cSStep)], .lv 1 [.ro (a1.Travels.map cSTravel)], .lv 1 [.i a2], .lv 2 [.i 0, .i 0]]⟩ ?_
  refine W_gh ?_
  refine W_cond (c := (v1 != 0)) (by kernel_rfl) (fun c2 => ?_) (fun c2 => ?_)
  · replace h := fork_t c2 h
    refine W_seq ?_
    refine W_gh ?_
    refine W_reg ?_
    refine O_p 4 ?_
    refine O_nil ?_
    refine Gh_e ⟨⟨77, [(3, .po 0 0), (4, .po 1 0), (5, .po 2 0), (6, .po 3 0), (7, .i v1), (18, .bool (v1 != 0))]⟩, [.lv 2 [.i a0.Actuators, .ro (a0.Steps.map cSStep)], .lv 1 [.ro (a1.Travels.map cSTravel)], .lv 1 [.i a2], .lv 2 [.i 0, .i 0]]⟩ ?_
    refine W_ret ?_
    replace h := Option.some.inj h; subst h
    exact Fin_free (l := [.agg [.i 0, .i 0], .i v1]) (by kernel_rfl) (by kernel_rfl) (bels_cons rfl (bels_cons rfl rfl))
  · replace h := fork_f c2 h
    refine W_skip ?_
    refine Gh_e ⟨⟨77, [(3, .po 0 0), (4, .po 1 0), (5, .po 2 0), (6, .po 3 0)]⟩, [.lv 2 [.i a0.Actuators, .ro (a0.Steps.map cSStep)], .lv 1 [.ro (a1.Travels.map cSTravel)], .lv 1 [.i a2], .lv 2 [.i 0, .i 0]]⟩ ?_
    refine W_seq ?_
    refine W_seq ?_
    refine W_cut ⟨⟨77, [(3, .po 0 0), (4, .po 1 0), (5, .po 2 0), (6, .po 3 0), (28, .bool ((decide (a2 < 0)) || (decide (a2 ≥ a0.Actuators))))]⟩, [.lv 2 [.i a0.Actuators, .ro (a0.Steps.map cSStep)], .lv 1 [.ro (a1.Travels.map cSTravel)], .lv 1 [.i a2], .lv 2 [.i 0, .i 0]]⟩ ?_ ?_
    · generalize e_g3 : ((decide (a2 < 0)) || (decide (a2 ≥ a0.Actuators))) = g3
      refine W_gh ?_
      refine W_reg ?_
      refine O_p 3 ?_
      refine O_fork (n := 23) (decide (a2 < 0)) (by kernel_rfl) (fun c4 => ?_) (fun c4 => ?_)
      · skip
        refine O_p 5 ?_
        refine O_nil ?_
        refine Gh_e ⟨⟨77, [(3, .po 0 0), (4, .po 1 0), (5, .po 2 0), (6, .po 3 0), (28, .bool true)]⟩, [.lv 2 [.i a0.Actuators, .ro (a0.Steps.map cSStep)], .lv 1 [.ro (a1.Travels.map cSTravel)], .lv 1 [.i a2], .lv 2 [.i 0, .i 0]]⟩ ?_
        have q := e_g3; simp only [c2, c4, cond_true, cond_false, Bool.true_and, Bool.false_and, Bool.true_or, Bool.false_or] at q; subst q
        show _ = _
        kernel_rfl
      · skip
        refine O_p 5 ?_
        refine O_nil ?_
        refine Gh_e ⟨⟨77, [(3, .po 0 0), (4, .po 1 0), (5, .po 2 0), (6, .po 3 0), (28, .bool (decide (a2 ≥ a0.Actuators)))]⟩, [.lv 2 [.i a0.Actuators, .ro (a0.Steps.map cSStep)], .lv 1 [.ro (a1.Travels.map cSTravel)], .lv 1 [.i a2], .lv 2 [.i 0, .i 0]]⟩ ?_
        have q := e_g3; simp only [c2, c4, cond_true, cond_false, Bool.true_and, Bool.false_and, Bool.true_or, Bool.false_or] at q; subst q
        show _ = _
        kernel_rfl
    · refine W_gh ?_
      refine W_cond (c := ((decide (a2 < 0)) || (decide (a2 ≥ a0.Actuators)))) (by kernel_rfl) (fun c5 => ?_) (fun c5 => ?_)
      · replace h := fork_t c5 h
        refine W_seq ?_
        refine W_gh ?_
        refine W_reg ?_
        refine O_p 3 ?_
        refine O_nil ?_
        refine Gh_e ⟨⟨77, [(3, .po 0 0), (4, .po 1 0), (5, .po 2 0), (6, .po 3 0), (7, .i 2), (28, .bool ((decide (a2 < 0)) || (decide (a2 ≥ a0.Actuators))))]⟩, [.lv 2 [.i a0.Actuators, .ro (a0.Steps.map cSStep)], .lv 1 [.ro (a1.Travels.map cSTravel)], .lv 1 [.i a2], .lv 2 [.i 0, .i 0]]⟩ ?_
        refine W_ret ?_
        replace h := Option.some.inj h; subst h
        exact Fin_free (l := [.agg [.i 0, .i 0], .i 2]) (by kernel_rfl) (by kernel_rfl) (bels_cons rfl (bels_cons rfl rfl))
      · replace h := fork_f c5 h
        refine W_skip ?_
        refine Gh_e ⟨⟨77, [(3, .po 0 0), (4, .po 1 0), (5, .po 2 0), (6, .po 3 0)]⟩, [.lv 2 [.i a0.Actuators, .ro (a0.Steps.map cSStep)], .lv 1 [.ro (a1.Travels.map cSTravel)], .lv 1 [.i a2], .lv 2 [.i 0, .i 0]]⟩ ?_
        refine W_seq ?_
        refine W_reg ?_
        refine O_p 1 ?_
        refine O_nil ?_
        refine W_seq ?_
        refine W_reg ?_
        refine O_p 1 ?_
        refine O_nil ?_
        refine W_seq ?_
        refine W_seq ?_
        refine W_gh ?_
        refine W_reg ?_
        refine O_p 2 ?_
        refine O_len (l := a0.Steps) cSStep (by kernel_rfl) (by kernel_rfl) ?_
        refine O_p 1 ?_
        refine O_nil ?_
        refine Gh_e ⟨⟨77, [(4, .po 1 0), (5, .po 2 0), (6, .po 3 0), (9, .po 4 0), (10, .bool false), (31, .ro (a0.Steps.map cSStep)), (32, .i (a0.Steps.length : Int)), (33, .i 0)]⟩, [.lv 2 [.i a0.Actuators, .ro (a0.Steps.map cSStep)], .lv 1 [.ro (a1.Travels.map cSTravel)], .lv 1 [.i a2], .lv 2 [.i 0, .i 0], .lv 2 [.i 0, .i 0]]⟩ ?_
        refine W_loopS (fun s6 : Int × Int × Bool × Int => ⟨⟨77, [(4, .po 1 0), (5, .po 2 0), (6, .po 3 0), (9, .po 4 0), (10, .bool s6.2.2.1), (31, .ro (a0.Steps.map cSStep)), (32, .i (a0.Steps.length : Int)), (33, .i s6.2.2.2)]⟩, [.lv 2 [.i a0.Actuators, .ro (a0.Steps.map cSStep)], .lv 1 [.ro (a1.Travels.map cSTravel)], .lv 1 [.i a2], .lv 2 [.i 0, .i 0], .lv 2 [.i s6.1, .i s6.2.1]]⟩) (fun w7 : Int × Int => ⟨⟨77, [(6, .po 3 0), (9, .po 4 0)]⟩, [.lv 2 [.i a0.Actuators, .ro (a0.Steps.map cSStep)], .lv 1 [.ro (a1.Travels.map cSTravel)], .lv 1 [.i a2], .lv 2 [.i 0, .i 0], .lv 2 [.i w7.1, .i w7.2]]⟩) h (by kernel_rfl) (fun s6 c h => ?_) (fun w7 e_w7 h => ?_)
        · refine W_gh ?_
          refine W_seq ?_
          refine W_reg ?_
          refine O_p 1 ?_
          refine O_nil ?_
          refine W_seq ?_
          refine W_gh ?_
          refine W_cond (c := (decide (s6.2.2.2 < (a0.Steps.length : Int)))) (by kernel_rfl) (fun c8 => ?_) (fun c8 => ?_)
          · replace h := fork_t c8 h
            refine W_skip ?_
            refine Gh_e ⟨⟨77, [(4, .po 1 0), (5, .po 2 0), (6, .po 3 0), (9, .po 4 0), (10, .bool s6.2.2.1), (31, .ro (a0.Steps.map cSStep)), (32, .i (a0.Steps.length : Int)), (33, .i s6.2.2.2)]⟩, [.lv 2 [.i a0.Actuators, .ro (a0.Steps.map cSStep)], .lv 1 [.ro (a1.Travels.map cSTravel)], .lv 1 [.i a2], .lv 2 [.i 0, .i 0], .lv 2 [.i s6.1, .i s6.2.1]]⟩ ?_
            refine W_seq ?_
            refine W_gh ?_
            refine W_block ?_
            refine W_seq ?_
            refine W_gh ?_
            refine W_reg ?_
            refine O_idx (kd := .i64) cSStep h (fun _ => rfl) (by kernel_rfl) (by kernel_rfl) (by kernel_rfl) (fun v9 e_v9 h => ?_)
            refine O_p 3 ?_
            refine O_nil ?_
            refine Gh_e ⟨⟨77, [(4, .po 1 0), (5, .po 2 0), (6, .po 3 0), (9, .po 4 0), (10, .bool s6.2.2.1), (12, .po 5 0), (31, .ro (a0.Steps.map cSStep)), (32, .i (a0.Steps.length : Int)), (33, .i s6.2.2.2)]⟩, [.lv 2 [.i a0.Actuators, .ro (a0.Steps.map cSStep)], .lv 1 [.ro (a1.Travels.map cSTravel)], .lv 1 [.i a2], .lv 2 [.i 0, .i 0], .lv 2 [.i s6.1, .i s6.2.1], .lv 2 [.ro (v9.Strokes.map cSStroke), .i v9.Wait]]⟩ ?_
            refine W_seq ?_
            refine W_gh ?_
            refine W_reg ?_
            refine O_p 3 ?_
            refine O_lent (fun v => .i v) h (.inr rfl) (ys := [.ro (v9.Strokes.map cSStroke), .fn 53 [.pro [.i a2]]]) (fun _ e => p52_53 _ _ _ e) (by kernel_rfl) (snaps_of (xs := [.ro (v9.Strokes.map cSStroke), .fn 53 [.po 2 0]]) (by kernel_rfl) (mapO_cons (pk_free (ro_bel okSStroke.bel _)) (mapO_cons (pk_fn (d := 5) (mapO_cons (pkc_box (id := 2) (nl := .norm) (sz := 1) (cs := [.i a2]) (by kernel_rfl) (mapO_bels rfl)) rfl)) rfl))) (fun _ => rfl) (fun v10 e_v10 h => ?_)
            refine O_p 1 ?_
            refine O_nil ?_
            refine Gh_e ⟨⟨77, [(4, .po 1 0), (5, .po 2 0), (6, .po 3 0), (9, .po 4 0), (10, .bool s6.2.2.1), (12, .po 5 0), (13, .i v10), (31, .ro (a0.Steps.map cSStep)), (32, .i (a0.Steps.length : Int)), (33, .i s6.2.2.2)]⟩, [.lv 2 [.i a0.Actuators, .ro (a0.Steps.map cSStep)], .lv 1 [.ro (a1.Travels.map cSTravel)], .lv 1 [.i a2], .lv 2 [.i 0, .i 0], .lv 2 [.i s6.1, .i s6.2.1], .lv 2 [.ro (v9.Strokes.map cSStroke), .i v9.Wait]]⟩ ?_
            refine W_seq ?_
            refine W_seq ?_
            refine W_gh ?_
            refine W_reg ?_
            refine O_p 2 ?_
            refine O_nil ?_
            refine Gh_e ⟨⟨77, [(4, .po 1 0), (5, .po 2 0), (6, .po 3 0), (9, .po 4 0), (10, .bool s6.2.2.1), (12, .po 5 0), (13, .i v10), (31, .ro (a0.Steps.map cSStep)), (32, .i (a0.Steps.length : Int)), (33, .i s6.2.2.2), (42, .bool (decide (v10 ≥ 0)))]⟩, [.lv 2 [.i a0.Actuators, .ro (a0.Steps.map cSStep)], .lv 1 [.ro (a1.Travels.map cSTravel)], .lv 1 [.i a2], .lv 2 [.i 0, .i 0], .lv 2 [.i s6.1, .i s6.2.1], .lv 2 [.ro (v9.Strokes.map cSStroke), .i v9.Wait]]⟩ ?_
            refine W_joinS (fun v : Bool => ⟨⟨77, [(4, .po 1 0), (5, .po 2 0), (6, .po 3 0), (9, .po 4 0), (10, .bool v), (12, .po 5 0), (13, .i v10), (31, .ro (a0.Steps.map cSStep)), (32, .i (a0.Steps.length : Int)), (33, .i s6.2.2.2)]⟩, [.lv 2 [.i a0.Actuators, .ro (a0.Steps.map cSStep)], .lv 1 [.ro (a1.Travels.map cSTravel)], .lv 1 [.i a2], .lv 2 [.i 0, .i 0], .lv 2 [.i s6.1, .i s6.2.1], .lv 2 [.ro (v9.Strokes.map cSStroke), .i v9.Wait]]⟩) h (fun w h => ?_) (fun w11 e_w11 h => ?_)
            · refine W_gh ?_
              refine W_cond (c := (decide (v10 ≥ 0))) (by kernel_rfl) (fun c12 => ?_) (fun c12 => ?_)
              · replace h := fork_t c12 h
                refine W_gh ?_
                refine W_reg ?_
                refine O_p 3 ?_
                refine O_idx (kd := .i64) cSStroke h (fun _ => rfl) (by kernel_rfl) (by kernel_rfl) (by kernel_rfl) (fun v13 e_v13 h => ?_)
                refine O_p 3 ?_
                refine O_nil ?_
                refine Gh_e ⟨⟨77, [(4, .po 1 0), (5, .po 2 0), (6, .po 3 0), (9, .po 4 0), (10, .bool v13.Out), (12, .po 5 0), (13, .i v10), (31, .ro (a0.Steps.map cSStep)), (32, .i (a0.Steps.length : Int)), (33, .i s6.2.2.2), (42, .bool (decide (v10 ≥ 0)))]⟩, [.lv 2 [.i a0.Actuators, .ro (a0.Steps.map cSStep)], .lv 1 [.ro (a1.Travels.map cSTravel)], .lv 1 [.i a2], .lv 2 [.i 0, .i 0], .lv 2 [.i s6.1, .i s6.2.1], .lv 2 [.ro (v9.Strokes.map cSStroke), .i v9.Wait]]⟩ ?_
                refine Gh_e ⟨⟨77, [(4, .po 1 0), (5, .po 2 0), (6, .po 3 0), (9, .po 4 0), (10, .bool v13.Out), (12, .po 5 0), (13, .i v10), (31, .ro (a0.Steps.map cSStep)), (32, .i (a0.Steps.length : Int)), (33, .i s6.2.2.2)]⟩, [.lv 2 [.i a0.Actuators, .ro (a0.Steps.map cSStep)], .lv 1 [.ro (a1.Travels.map cSTravel)], .lv 1 [.i a2], .lv 2 [.i 0, .i 0], .lv 2 [.i s6.1, .i s6.2.1], .lv 2 [.ro (v9.Strokes.map cSStroke), .i v9.Wait]]⟩ ?_
                replace h := Option.some.inj h; subst h
                show _ = _
                kernel_rfl
              · replace h := fork_f c12 h
                refine W_skip ?_
                refine Gh_e ⟨⟨77, [(4, .po 1 0), (5, .po 2 0), (6, .po 3 0), (9, .po 4 0), (10, .bool s6.2.2.1), (12, .po 5 0), (13, .i v10), (31, .ro (a0.Steps.map cSStep)), (32, .i (a0.Steps.length : Int)), (33, .i s6.2.2.2)]⟩, [.lv 2 [.i a0.Actuators, .ro (a0.Steps.map cSStep)], .lv 1 [.ro (a1.Travels.map cSTravel)], .lv 1 [.i a2], .lv 2 [.i 0, .i 0], .lv 2 [.i s6.1, .i s6.2.1], .lv 2 [.ro (v9.Strokes.map cSStroke), .i v9.Wait]]⟩ ?_
                replace h := Option.some.inj h; subst h
                show _ = _
                kernel_rfl
            · refine W_gh ?_
              refine W_block ?_
              refine W_seq ?_
              refine W_cut ⟨⟨77, [(4, .po 1 0), (5, .po 2 0), (6, .po 3 0), (9, .po 4 0), (10, .bool w11), (12, .po 5 0), (13, .i v10), (31, .ro (a0.Steps.map cSStep)), (32, .i (a0.Steps.length : Int)), (33, .i s6.2.2.2), (49, .bool ((decide (v10 ≥ 0)) && (!w11)))]⟩, [.lv 2 [.i a0.Actuators, .ro (a0.Steps.map cSStep)], .lv 1 [.ro (a1.Travels.map cSTravel)], .lv 1 [.i a2], .lv 2 [.i 0, .i 0], .lv 2 [.i s6.1, .i s6.2.1], .lv 2 [.ro (v9.Strokes.map cSStroke), .i v9.Wait]]⟩ ?_ ?_
              · generalize e_g14 : ((decide (v10 ≥ 0)) && (!w11)) = g14
                refine W_gh ?_
                refine W_reg ?_
                refine O_p 3 ?_
                refine O_fork (n := 52) (decide (v10 ≥ 0)) (by kernel_rfl) (fun c15 => ?_) (fun c15 => ?_)
                · skip
                  refine O_p 4 ?_
                  refine O_nil ?_
                  refine Gh_e ⟨⟨77, [(4, .po 1 0), (5, .po 2 0), (6, .po 3 0), (9, .po 4 0), (10, .bool w11), (12, .po 5 0), (13, .i v10), (31, .ro (a0.Steps.map cSStep)), (32, .i (a0.Steps.length : Int)), (33, .i s6.2.2.2), (49, .bool (!w11))]⟩, [.lv 2 [.i a0.Actuators, .ro (a0.Steps.map cSStep)], .lv 1 [.ro (a1.Travels.map cSTravel)], .lv 1 [.i a2], .lv 2 [.i 0, .i 0], .lv 2 [.i s6.1, .i s6.2.1], .lv 2 [.ro (v9.Strokes.map cSStroke), .i v9.Wait]]⟩ ?_
                  have q := e_g14; simp only [c2, c5, c8, c15, cond_true, cond_false, Bool.true_and, Bool.false_and, Bool.true_or, Bool.false_or] at q; subst q
                  show _ = _
                  kernel_rfl
                · skip
                  refine O_p 4 ?_
                  refine O_nil ?_
                  refine Gh_e ⟨⟨77, [(4, .po 1 0), (5, .po 2 0), (6, .po 3 0), (9, .po 4 0), (10, .bool w11), (12, .po 5 0), (13, .i v10), (31, .ro (a0.Steps.map cSStep)), (32, .i (a0.Steps.length : Int)), (33, .i s6.2.2.2), (49, .bool false)]⟩, [.lv 2 [.i a0.Actuators, .ro (a0.Steps.map cSStep)], .lv 1 [.ro (a1.Travels.map cSTravel)], .lv 1 [.i a2], .lv 2 [.i 0, .i 0], .lv 2 [.i s6.1, .i s6.2.1], .lv 2 [.ro (v9.Strokes.map cSStroke), .i v9.Wait]]⟩ ?_
                  have q := e_g14; simp only [c2, c5, c8, c15, cond_true, cond_false, Bool.true_and, Bool.false_and, Bool.true_or, Bool.false_or] at q; subst q
                  show _ = _
                  kernel_rfl
              · refine W_joinS (fun v : Int × Int => ⟨⟨77, [(4, .po 1 0), (5, .po 2 0), (6, .po 3 0), (9, .po 4 0), (10, .bool w11), (31, .ro (a0.Steps.map cSStep)), (32, .i (a0.Steps.length : Int)), (33, .i s6.2.2.2)]⟩, [.lv 2 [.i a0.Actuators, .ro (a0.Steps.map cSStep)], .lv 1 [.ro (a1.Travels.map cSTravel)], .lv 1 [.i a2], .lv 2 [.i 0, .i 0], .lv 2 [.i v.1, .i v.2], .lv 2 [.ro (v9.Strokes.map cSStroke), .i v9.Wait]]⟩) h (fun w h => ?_) (fun w16 e_w16 h => ?_)
                · refine W_gh ?_
                  refine W_cond (c := ((decide (v10 ≥ 0)) && (!w11))) (by kernel_rfl) (fun c17 => ?_) (fun c17 => ?_)
                  · replace h := fork_t c17 h
                    refine W_gh ?_
                    refine W_draw ?_
                    refine O_p 5 ?_
                    refine O_idx (kd := .i64) cSStroke h (fun _ => rfl) (by kernel_rfl) (by kernel_rfl) (by kernel_rfl) (fun v18 e_v18 h => ?_)
                    refine O_p 1 ?_
                    refine O_call (fun v => .agg [.i v.Low, .i v.High]) h (.inr rfl) (ys := [.agg (cSPlant a1), .agg (cSStroke v18)]) (fun _ e => p55 _ _ _ e) (by kernel_rfl) (by kernel_rfl) (bels_cons (okSPlant.bel _) (bels_cons (okSStroke.bel _) rfl)) (fun v19 e_v19 h => ?_)
                    refine O_call (fun v => .agg [.i v.Low, .i v.High]) h (.inr rfl) (ys := [.agg (cSSpan (⟨s6.1, s6.2.1⟩ : SSpan)), .agg (cSSpan v19)]) (fun _ e => p54 _ _ _ e) (by kernel_rfl) (by kernel_rfl) (bels_cons (okSSpan.bel _) (bels_cons (okSSpan.bel _) rfl)) (fun v20 e_v20 h => ?_)
                    refine O_p 1 ?_
                    refine O_nil ?_
                    refine Gh_e ⟨⟨77, [(4, .po 1 0), (5, .po 2 0), (6, .po 3 0), (9, .po 4 0), (10, .bool w11), (31, .ro (a0.Steps.map cSStep)), (32, .i (a0.Steps.length : Int)), (33, .i s6.2.2.2), (49, .bool ((decide (v10 ≥ 0)) && (!w11)))]⟩, [.lv 2 [.i a0.Actuators, .ro (a0.Steps.map cSStep)], .lv 1 [.ro (a1.Travels.map cSTravel)], .lv 1 [.i a2], .lv 2 [.i 0, .i 0], .lv 2 [.i v20.Low, .i v20.High], .lv 2 [.ro (v9.Strokes.map cSStroke), .i v9.Wait]]⟩ ?_
                    refine Gh_e ⟨⟨77, [(4, .po 1 0), (5, .po 2 0), (6, .po 3 0), (9, .po 4 0), (10, .bool w11), (31, .ro (a0.Steps.map cSStep)), (32, .i (a0.Steps.length : Int)), (33, .i s6.2.2.2)]⟩, [.lv 2 [.i a0.Actuators, .ro (a0.Steps.map cSStep)], .lv 1 [.ro (a1.Travels.map cSTravel)], .lv 1 [.i a2], .lv 2 [.i 0, .i 0], .lv 2 [.i v20.Low, .i v20.High], .lv 2 [.ro (v9.Strokes.map cSStroke), .i v9.Wait]]⟩ ?_
                    replace h := Option.some.inj h; subst h
                    show _ = _
                    kernel_rfl
                  · replace h := fork_f c17 h
                    refine W_seq ?_
                    refine W_gh ?_
                    refine W_reg ?_
                    refine O_p 2 ?_
                    refine O_nil ?_
                    refine Gh_e ⟨⟨77, [(4, .po 1 0), (5, .po 2 0), (6, .po 3 0), (9, .po 4 0), (10, .bool w11), (12, .po 5 0), (13, .i v10), (31, .ro (a0.Steps.map cSStep)), (32, .i (a0.Steps.length : Int)), (33, .i s6.2.2.2), (49, .bool ((decide (v10 ≥ 0)) && (!w11))), (65, .bool w11)]⟩, [.lv 2 [.i a0.Actuators, .ro (a0.Steps.map cSStep)], .lv 1 [.ro (a1.Travels.map cSTravel)], .lv 1 [.i a2], .lv 2 [.i 0, .i 0], .lv 2 [.i s6.1, .i s6.2.1], .lv 2 [.ro (v9.Strokes.map cSStroke), .i v9.Wait]]⟩ ?_
                    refine W_joinS (fun v : Int × Int => ⟨⟨77, [(4, .po 1 0), (5, .po 2 0), (6, .po 3 0), (9, .po 4 0), (10, .bool w11), (13, .i v10), (31, .ro (a0.Steps.map cSStep)), (32, .i (a0.Steps.length : Int)), (33, .i s6.2.2.2), (49, .bool ((decide (v10 ≥ 0)) && (!w11)))]⟩, [.lv 2 [.i a0.Actuators, .ro (a0.Steps.map cSStep)], .lv 1 [.ro (a1.Travels.map cSTravel)], .lv 1 [.i a2], .lv 2 [.i 0, .i 0], .lv 2 [.i v.1, .i v.2], .lv 2 [.ro (v9.Strokes.map cSStroke), .i v9.Wait]]⟩) h (fun w h => ?_) (fun w21 e_w21 h => ?_)
                    · refine W_gh ?_
                      refine W_cond (c := w11) (by kernel_rfl) (fun c22 => ?_) (fun c22 => ?_)
                      · replace h := fork_t c22 h
                        refine W_gh ?_
                        refine W_draw ?_
                        refine O_p 3 ?_
                        refine O_call (fun v => .agg [.i v.Low, .i v.High]) h (.inr rfl) (ys := [.agg (cSPlant a1), .agg (cSStep v9)]) (fun _ e => p57 _ _ _ e) (by kernel_rfl) (by kernel_rfl) (bels_cons (okSPlant.bel _) (bels_cons (okSStep.bel _) rfl)) (fun v23 e_v23 h => ?_)
                        refine O_call (fun v => .agg [.i v.Low, .i v.High]) h (.inr rfl) (ys := [.agg (cSSpan (⟨s6.1, s6.2.1⟩ : SSpan)), .agg (cSSpan v23)]) (fun _ e => p54 _ _ _ e) (by kernel_rfl) (by kernel_rfl) (bels_cons (okSSpan.bel _) (bels_cons (okSSpan.bel _) rfl)) (fun v24 e_v24 h => ?_)
                        refine O_p 2 ?_
                        refine O_call (fun v => .agg [.i v.Low, .i v.High]) h (.inr rfl) (ys := [.agg (cSSpan v24), .i v9.Wait]) (fun _ e => p56 _ _ _ e) (by kernel_rfl) (by kernel_rfl) (bels_cons (okSSpan.bel _) (bels_cons rfl rfl)) (fun v25 e_v25 h => ?_)
                        refine O_p 1 ?_
                        refine O_nil ?_
                        refine Gh_e ⟨⟨77, [(4, .po 1 0), (5, .po 2 0), (6, .po 3 0), (9, .po 4 0), (10, .bool w11), (13, .i v10), (31, .ro (a0.Steps.map cSStep)), (32, .i (a0.Steps.length : Int)), (33, .i s6.2.2.2), (49, .bool ((decide (v10 ≥ 0)) && (!w11))), (65, .bool w11)]⟩, [.lv 2 [.i a0.Actuators, .ro (a0.Steps.map cSStep)], .lv 1 [.ro (a1.Travels.map cSTravel)], .lv 1 [.i a2], .lv 2 [.i 0, .i 0], .lv 2 [.i v25.Low, .i v25.High], .lv 2 [.ro (v9.Strokes.map cSStroke), .i v9.Wait]]⟩ ?_
                        refine Gh_e ⟨⟨77, [(4, .po 1 0), (5, .po 2 0), (6, .po 3 0), (9, .po 4 0), (10, .bool w11), (13, .i v10), (31, .ro (a0.Steps.map cSStep)), (32, .i (a0.Steps.length : Int)), (33, .i s6.2.2.2), (49, .bool ((decide (v10 ≥ 0)) && (!w11)))]⟩, [.lv 2 [.i a0.Actuators, .ro (a0.Steps.map cSStep)], .lv 1 [.ro (a1.Travels.map cSTravel)], .lv 1 [.i a2], .lv 2 [.i 0, .i 0], .lv 2 [.i v25.Low, .i v25.High], .lv 2 [.ro (v9.Strokes.map cSStroke), .i v9.Wait]]⟩ ?_
                        replace h := Option.some.inj h; subst h
                        show _ = _
                        kernel_rfl
                      · replace h := fork_f c22 h
                        refine W_skip ?_
                        refine Gh_e ⟨⟨77, [(4, .po 1 0), (5, .po 2 0), (6, .po 3 0), (9, .po 4 0), (10, .bool w11), (13, .i v10), (31, .ro (a0.Steps.map cSStep)), (32, .i (a0.Steps.length : Int)), (33, .i s6.2.2.2), (49, .bool ((decide (v10 ≥ 0)) && (!w11)))]⟩, [.lv 2 [.i a0.Actuators, .ro (a0.Steps.map cSStep)], .lv 1 [.ro (a1.Travels.map cSTravel)], .lv 1 [.i a2], .lv 2 [.i 0, .i 0], .lv 2 [.i s6.1, .i s6.2.1], .lv 2 [.ro (v9.Strokes.map cSStroke), .i v9.Wait]]⟩ ?_
                        replace h := Option.some.inj h; subst h
                        show _ = _
                        kernel_rfl
                    · refine Gh_e ⟨⟨77, [(4, .po 1 0), (5, .po 2 0), (6, .po 3 0), (9, .po 4 0), (10, .bool w11), (31, .ro (a0.Steps.map cSStep)), (32, .i (a0.Steps.length : Int)), (33, .i s6.2.2.2)]⟩, [.lv 2 [.i a0.Actuators, .ro (a0.Steps.map cSStep)], .lv 1 [.ro (a1.Travels.map cSTravel)], .lv 1 [.i a2], .lv 2 [.i 0, .i 0], .lv 2 [.i w21.1, .i w21.2], .lv 2 [.ro (v9.Strokes.map cSStroke), .i v9.Wait]]⟩ ?_
                      replace h := Option.some.inj h; subst h
                      show _ = _
                      kernel_rfl
                · refine Gh_e ⟨⟨77, [(4, .po 1 0), (5, .po 2 0), (6, .po 3 0), (9, .po 4 0), (10, .bool w11), (31, .ro (a0.Steps.map cSStep)), (32, .i (a0.Steps.length : Int)), (33, .i s6.2.2.2)]⟩, [.lv 2 [.i a0.Actuators, .ro (a0.Steps.map cSStep)], .lv 1 [.ro (a1.Travels.map cSTravel)], .lv 1 [.i a2], .lv 2 [.i 0, .i 0], .lv 2 [.i w16.1, .i w16.2], .lv 2 [.ro (v9.Strokes.map cSStroke), .i v9.Wait]]⟩ ?_
                  refine Gh_one (s1 := ⟨⟨77, [(4, .po 1 0), (5, .po 2 0), (6, .po 3 0), (9, .po 4 0), (10, .bool w11), (31, .ro (a0.Steps.map cSStep)), (32, .i (a0.Steps.length : Int)), (33, .i s6.2.2.2)]⟩, [.lv 2 [.i a0.Actuators, .ro (a0.Steps.map cSStep)], .lv 1 [.ro (a1.Travels.map cSTravel)], .lv 1 [.i a2], .lv 2 [.i 0, .i 0], .lv 2 [.i w16.1, .i w16.2], .lv 2 [.ro (v9.Strokes.map cSStroke), .i v9.Wait]]⟩) (by kernel_rfl) ?_
                  refine Gh_at (s1 := ⟨⟨77, [(4, .po 1 0), (5, .po 2 0), (6, .po 3 0), (9, .po 4 0), (10, .bool w11), (31, .ro (a0.Steps.map cSStep)), (32, .i (a0.Steps.length : Int)), (33, .i s6.2.2.2)]⟩, [.lv 2 [.i a0.Actuators, .ro (a0.Steps.map cSStep)], .lv 1 [.ro (a1.Travels.map cSTravel)], .lv 1 [.i a2], .lv 2 [.i 0, .i 0], .lv 2 [.i w16.1, .i w16.2], .lv 2 [.ro (v9.Strokes.map cSStroke), .i v9.Wait]]⟩) (by kernel_rfl) ?_
                  refine Gh_trunc (s1 := ⟨⟨77, [(4, .po 1 0), (5, .po 2 0), (6, .po 3 0), (9, .po 4 0), (10, .bool w11), (31, .ro (a0.Steps.map cSStep)), (32, .i (a0.Steps.length : Int)), (33, .i s6.2.2.2)]⟩, [.lv 2 [.i a0.Actuators, .ro (a0.Steps.map cSStep)], .lv 1 [.ro (a1.Travels.map cSTravel)], .lv 1 [.i a2], .lv 2 [.i 0, .i 0], .lv 2 [.i w16.1, .i w16.2]]⟩) (by kernel_rfl) (tb_ref rfl (tb_ref rfl (tb_ref rfl (tb_ref rfl (tb_free rfl (tb_free (ro_bel okSStep.bel _) (tb_free rfl (tb_free rfl rfl)))))))) (H1 := [.lv 2 [.i a0.Actuators, .ro (a0.Steps.map cSStep)], .lv 1 [.ro (a1.Travels.map cSTravel)], .lv 1 [.i a2], .lv 2 [.i 0, .i 0], .lv 2 [.i w16.1, .i w16.2]]) (by kernel_rfl) (ob_boxn (bn_free rfl (bn_free (ro_bel okSStep.bel _) rfl)) (ob_boxn (bn_free (ro_bel okSTravel.bel _) rfl) (ob_boxn (bn_free rfl rfl) (ob_boxn (bn_free rfl (bn_free rfl rfl)) (ob_boxn (bn_free rfl (bn_free rfl rfl)) rfl))))) (by kernel_rfl) ?_
                  refine Gh_nil ?_
                  refine W_gh ?_
                  refine W_reg ?_
                  refine O_p 2 ?_
                  refine O_nil ?_
                  refine Gh_e ⟨⟨77, [(4, .po 1 0), (5, .po 2 0), (6, .po 3 0), (9, .po 4 0), (10, .bool w11), (31, .ro (a0.Steps.map cSStep)), (32, .i (a0.Steps.length : Int)), (33, .i (addI .i64 s6.2.2.2 1))]⟩, [.lv 2 [.i a0.Actuators, .ro (a0.Steps.map cSStep)], .lv 1 [.ro (a1.Travels.map cSTravel)], .lv 1 [.i a2], .lv 2 [.i 0, .i 0], .lv 2 [.i w16.1, .i w16.2]]⟩ ?_
                  refine Gh_one (s1 := ⟨⟨77, [(4, .po 1 0), (5, .po 2 0), (6, .po 3 0), (9, .po 4 0), (10, .bool w11), (31, .ro (a0.Steps.map cSStep)), (32, .i (a0.Steps.length : Int)), (33, .i (addI .i64 s6.2.2.2 1))]⟩, [.lv 2 [.i a0.Actuators, .ro (a0.Steps.map cSStep)], .lv 1 [.ro (a1.Travels.map cSTravel)], .lv 1 [.i a2], .lv 2 [.i 0, .i 0], .lv 2 [.i w16.1, .i w16.2]]⟩) (by kernel_rfl) ?_
                  refine Gh_trunc0 (by kernel_rfl) ?_
                  refine Gh_nil ?_
                  replace h := Option.some.inj h; subst h
                  exact ⟨_, rfl, by kernel_rfl⟩
          · replace h := fork_f c8 h
            refine W_exit ?_
            refine X_hit ?_
            refine Gh_one (s1 := ⟨⟨77, [(6, .po 3 0), (9, .po 4 0)]⟩, [.lv 2 [.i a0.Actuators, .ro (a0.Steps.map cSStep)], .lv 1 [.ro (a1.Travels.map cSTravel)], .lv 1 [.i a2], .lv 2 [.i 0, .i 0], .lv 2 [.i s6.1, .i s6.2.1]]⟩) (by kernel_rfl) ?_
            refine Gh_trunc0 (by kernel_rfl) ?_
            refine Gh_nil ?_
            replace h := Option.some.inj h; subst h
            exact ⟨_, rfl, by kernel_rfl⟩
        · refine W_seq ?_
          refine W_gh ?_
          refine W_reg ?_
          refine O_p 3 ?_
          refine O_nil ?_
          refine Gh_e ⟨⟨77, [(6, .po 3 0), (7, .i 0)]⟩, [.lv 2 [.i a0.Actuators, .ro (a0.Steps.map cSStep)], .lv 1 [.ro (a1.Travels.map cSTravel)], .lv 1 [.i a2], .lv 2 [.i w7.1, .i w7.2], .lv 2 [.i w7.1, .i w7.2]]⟩ ?_
          refine W_ret ?_
          replace h := Option.some.inj h; subst h
          exact Fin_free (l := [.agg [.i w7.1, .i w7.2], .i 0]) (by kernel_rfl) (by kernel_rfl) (bels_cons rfl (bels_cons rfl rfl))

theorem p23 (a0 : SSequence) (a1 : SPlant) (a2 : Int) (r : (Bool × Bool × Int)) (h : m23 a0 a1 a2 = some r) : Pt E0 hp 23 [.agg (cSSequence a0), .agg (cSPlant a1), .i a2] (.tup [.bool r.1, .bool r.2.1, .i r.2.2]) := by
  unfold m23 at h
  refine Pt_W (fn23) rfl (by decide) ?_
  refine W_seq ?_
  refine W_gh ?_
  refine W_reg ?_
  refine O_p 5 ?_
  refine O_nil ?_
  refine Gh_e ⟨⟨34, [(2, .i a2), (3, .po 0 0), (4, .po 1 0)]⟩, [.lv 2 [.i a0.Actuators, .ro (a0.Steps.map cSStep)], .lv 1 [.ro (a1.Travels.map cSTravel)]]⟩ ?_
  refine W_seq ?_
  refine W_seq ?_
  refine W_gh ?_
  refine W_reg ?_
  refine O_p 2 ?_
  refine O_call (fun v => .i v) h (.inr rfl) (ys := [.agg (cSSequence a0), .agg (cSPlant a1)]) (fun _ e => p17 _ _ _ e) (by kernel_rfl) (by kernel_rfl) (bels_cons (okSSequence.bel _) (bels_cons (okSPlant.bel _) rfl)) (fun v1 e_v1 h => ?_)
  refine O_p 1 ?_
  refine O_nil ?_
  refine Gh_e ⟨⟨34, [(2, .i a2), (3, .po 0 0), (4, .po 1 0), (9, .i v1)]⟩, [.lv 2 [.i a0.Actuators, .ro (a0.Steps.map cSStep)], .lv 1 [.ro (a1.Travels.map cSTravel)]]⟩ ?_
  refine W_seq ?_
  refine W_gh ?_
  refine W_reg ?_
  refine O_p 2 ?_
  refine O_nil ?_
  refine Gh_e ⟨⟨34, [(2, .i a2), (3, .po 0 0), (4, .po 1 0), (9, .i v1), (15, .bool (v1 != 0))]⟩, [.lv 2 [.i a0.Actuators, .ro (a0.Steps.map cSStep)], .lv 1 [.ro (a1.Travels.map cSTravel)]]⟩ ?_
  refine W_gh ?_
  refine W_cond (c := (v1 != 0)) (by kernel_rfl) (fun c2 => ?_) (fun c2 => ?_)
  · replace h := fork_t c2 h
    refine W_seq ?_
    refine W_gh ?_
    refine W_reg ?_
    refine O_p 4 ?_
    refine O_nil ?_
    refine Gh_e ⟨⟨34, [(2, .i a2), (3, .po 0 0), (4, .po 1 0), (6, .bool false), (7, .bool false), (8, .i v1), (15, .bool (v1 != 0))]⟩, [.lv 2 [.i a0.Actuators, .ro (a0.Steps.map cSStep)], .lv 1 [.ro (a1.Travels.map cSTravel)]]⟩ ?_
    refine W_ret ?_
    replace h := Option.some.inj h; subst h
    exact Fin_free (l := [.bool false, .bool false, .i v1]) (by kernel_rfl) (by kernel_rfl) rfl
  · replace h := fork_f c2 h
    refine W_skip ?_
    refine Gh_e ⟨⟨34, [(2, .i a2), (3, .po 0 0), (4, .po 1 0)]⟩, [.lv 2 [.i a0.Actuators, .ro (a0.Steps.map cSStep)], .lv 1 [.ro (a1.Travels.map cSTravel)]]⟩ ?_
    refine W_seq ?_
    refine W_seq ?_
    refine W_cut ⟨⟨34, [(2, .i a2), (3, .po 0 0), (4, .po 1 0), (22, .bool ((decide (a2 < 0)) || (decide (a2 > 1000000))))]⟩, [.lv 2 [.i a0.Actuators, .ro (a0.Steps.map cSStep)], .lv 1 [.ro (a1.Travels.map cSTravel)]]⟩ ?_ ?_
    · generalize e_g3 : ((decide (a2 < 0)) || (decide (a2 > 1000000))) = g3
      refine W_gh ?_
      refine W_reg ?_
      refine O_p 3 ?_
      refine O_fork (n := 19) (decide (a2 < 0)) (by kernel_rfl) (fun c4 => ?_) (fun c4 => ?_)
      · skip
        refine O_p 3 ?_
        refine O_nil ?_
        refine Gh_e ⟨⟨34, [(2, .i a2), (3, .po 0 0), (4, .po 1 0), (22, .bool true)]⟩, [.lv 2 [.i a0.Actuators, .ro (a0.Steps.map cSStep)], .lv 1 [.ro (a1.Travels.map cSTravel)]]⟩ ?_
        have q := e_g3; simp only [c2, c4, cond_true, cond_false, Bool.true_and, Bool.false_and, Bool.true_or, Bool.false_or] at q; subst q
        show _ = _
        kernel_rfl
      · skip
        refine O_p 3 ?_
        refine O_nil ?_
        refine Gh_e ⟨⟨34, [(2, .i a2), (3, .po 0 0), (4, .po 1 0), (22, .bool (decide (a2 > 1000000)))]⟩, [.lv 2 [.i a0.Actuators, .ro (a0.Steps.map cSStep)], .lv 1 [.ro (a1.Travels.map cSTravel)]]⟩ ?_
        have q := e_g3; simp only [c2, c4, cond_true, cond_false, Bool.true_and, Bool.false_and, Bool.true_or, Bool.false_or] at q; subst q
        show _ = _
        kernel_rfl
    · refine W_gh ?_
      refine W_cond (c := ((decide (a2 < 0)) || (decide (a2 > 1000000)))) (by kernel_rfl) (fun c5 => ?_) (fun c5 => ?_)
      · replace h := fork_t c5 h
        refine W_seq ?_
        refine W_reg ?_
        refine O_p 3 ?_
        refine O_nil ?_
        refine W_ret ?_
        replace h := Option.some.inj h; subst h
        exact Fin_free (l := [.bool false, .bool false, .i 2]) (by kernel_rfl) (by kernel_rfl) rfl
      · replace h := fork_f c5 h
        refine W_skip ?_
        refine Gh_e ⟨⟨34, [(2, .i a2), (3, .po 0 0), (4, .po 1 0)]⟩, [.lv 2 [.i a0.Actuators, .ro (a0.Steps.map cSStep)], .lv 1 [.ro (a1.Travels.map cSTravel)]]⟩ ?_
        refine W_seq ?_
        refine W_gh ?_
        refine W_reg ?_
        refine O_p 2 ?_
        refine O_call (fun v => .agg [.i v.Low, .i v.High]) h (.inr rfl) (ys := [.agg (cSSequence a0), .agg (cSPlant a1)]) (fun _ e => p48 _ _ _ e) (by kernel_rfl) (by kernel_rfl) (bels_cons (okSSequence.bel _) (bels_cons (okSPlant.bel _) rfl)) (fun v6 e_v6 h => ?_)
        refine O_p 2 ?_
        refine O_nil ?_
        refine Gh_e ⟨⟨34, [(2, .i a2), (10, .po 2 0)]⟩, [.lv 2 [.i a0.Actuators, .ro (a0.Steps.map cSStep)], .lv 1 [.ro (a1.Travels.map cSTravel)], .lv 2 [.i v6.Low, .i v6.High]]⟩ ?_
        refine W_seq ?_
        refine W_gh ?_
        refine W_draw ?_
        refine O_p 11 ?_
        refine O_nil ?_
        refine Gh_e ⟨⟨34, [(6, .bool (decide (v6.High ≤ a2))), (7, .bool (decide (v6.Low ≤ a2))), (8, .i 0)]⟩, [.lv 2 [.i a0.Actuators, .ro (a0.Steps.map cSStep)], .lv 1 [.ro (a1.Travels.map cSTravel)], .lv 2 [.i v6.Low, .i v6.High]]⟩ ?_
        refine W_ret ?_
        replace h := Option.some.inj h; subst h
        exact Fin_free (l := [.bool (decide (v6.High ≤ a2)), .bool (decide (v6.Low ≤ a2)), .i 0]) (by kernel_rfl) (by kernel_rfl) rfl

theorem p32 (a0 : (List Int)) (a1 : (List Int)) (r : Bool) (h : m32 a0 a1 = some r) : Pt E0 hp 32 [.ro (a0.map cI_i64), .ro (a1.map cI_i64)] (.bool r) := by
  unfold m32 at h
  refine Pt_W (fn32) rfl (by decide) ?_
  refine W_seq ?_
  refine W_gh ?_
  refine W_reg ?_
  refine O_p 1 ?_
  refine O_nil ?_
  refine Gh_e ⟨⟨26, [(0, .ro (a0.map cI_i64)), (1, .ro (a1.map cI_i64))]⟩, []⟩ ?_
  refine W_seq ?_
  refine W_seq ?_
  refine W_gh ?_
  refine W_reg ?_
  refine O_p 1 ?_
  refine O_len (l := a0) cI_i64 (by kernel_rfl) (by kernel_rfl) ?_
  refine O_p 1 ?_
  refine O_len (l := a1) cI_i64 (by kernel_rfl) (by kernel_rfl) ?_
  refine O_p 1 ?_
  refine O_nil ?_
  refine Gh_e ⟨⟨26, [(0, .ro (a0.map cI_i64)), (1, .ro (a1.map cI_i64)), (10, .bool ((a0.length : Int) != (a1.length : Int)))]⟩, []⟩ ?_
  refine W_gh ?_
  refine W_cond (c := ((a0.length : Int) != (a1.length : Int))) (by kernel_rfl) (fun c1 => ?_) (fun c1 => ?_)
  · replace h := fork_t c1 h
    refine W_seq ?_
    refine W_reg ?_
    refine O_p 1 ?_
    refine O_nil ?_
    refine W_ret ?_
    replace h := Option.some.inj h; subst h
    exact Fin_free (l := [.bool false]) (by kernel_rfl) (by kernel_rfl) rfl
  · replace h := fork_f c1 h
    refine W_skip ?_
    refine Gh_e ⟨⟨26, [(0, .ro (a0.map cI_i64)), (1, .ro (a1.map cI_i64))]⟩, []⟩ ?_
    refine W_seq ?_
    refine W_seq ?_
    refine W_gh ?_
    refine W_reg ?_
    refine O_p 1 ?_
    refine O_len (l := a0) cI_i64 (by kernel_rfl) (by kernel_rfl) ?_
    refine O_p 1 ?_
    refine O_nil ?_
    refine Gh_e ⟨⟨26, [(0, .ro (a0.map cI_i64)), (1, .ro (a1.map cI_i64)), (12, .i (a0.length : Int)), (13, .i 0)]⟩, []⟩ ?_
    refine W_loop (fun s2 : Int => ⟨⟨26, [(0, .ro (a0.map cI_i64)), (1, .ro (a1.map cI_i64)), (12, .i (a0.length : Int)), (13, .i s2)]⟩, []⟩) (fun w3 : Unit => ⟨⟨26, []⟩, []⟩) h (by kernel_rfl) (fun s2 c h => ?_) (fun w3 h => ?_)
    · refine W_gh ?_
      refine W_seq ?_
      refine W_reg ?_
      refine O_p 1 ?_
      refine O_nil ?_
      refine W_seq ?_
      refine W_gh ?_
      refine W_cond (c := (decide (s2 < (a0.length : Int)))) (by kernel_rfl) (fun c4 => ?_) (fun c4 => ?_)
      · replace h := fork_t c4 h
        refine W_skip ?_
        refine Gh_e ⟨⟨26, [(0, .ro (a0.map cI_i64)), (1, .ro (a1.map cI_i64)), (12, .i (a0.length : Int)), (13, .i s2)]⟩, []⟩ ?_
        refine W_seq ?_
        refine W_gh ?_
        refine W_block ?_
        refine W_seq ?_
        refine W_gh ?_
        refine W_reg ?_
        refine O_p 2 ?_
        refine O_nil ?_
        refine Gh_e ⟨⟨26, [(0, .ro (a0.map cI_i64)), (1, .ro (a1.map cI_i64)), (5, .i s2), (12, .i (a0.length : Int)), (13, .i s2)]⟩, []⟩ ?_
        refine W_seq ?_
        refine W_gh ?_
        refine W_draw ?_
        refine O_p 2 ?_
        refine O_idx (kd := .i64) cI_i64 h (fun _ => rfl) (by kernel_rfl) (by kernel_rfl) (by kernel_rfl) (fun v5 e_v5 h => ?_)
        refine O_p 3 ?_
        refine O_idx (kd := .i64) cI_i64 h (fun _ => rfl) (by kernel_rfl) (by kernel_rfl) (by kernel_rfl) (fun v6 e_v6 h => ?_)
        refine O_p 2 ?_
        refine O_nil ?_
        refine Gh_e ⟨⟨26, [(0, .ro (a0.map cI_i64)), (1, .ro (a1.map cI_i64)), (12, .i (a0.length : Int)), (13, .i s2), (24, .bool (v5 != v6))]⟩, []⟩ ?_
        refine W_gh ?_
        refine W_cond (c := (v5 != v6)) (by kernel_rfl) (fun c7 => ?_) (fun c7 => ?_)
        · replace h := fork_t c7 h
          refine W_seq ?_
          refine W_reg ?_
          refine O_p 1 ?_
          refine O_nil ?_
          refine W_ret ?_
          replace h := Option.some.inj h; subst h
          refine ⟨_, rfl, fun h => ?_⟩
          replace h := Option.some.inj h; subst h
          exact Fin_free (l := [.bool false]) (by kernel_rfl) (by kernel_rfl) rfl
        · replace h := fork_f c7 h
          refine W_skip ?_
          refine Gh_e ⟨⟨26, [(0, .ro (a0.map cI_i64)), (1, .ro (a1.map cI_i64)), (12, .i (a0.length : Int)), (13, .i s2)]⟩, []⟩ ?_
          refine Gh_e ⟨⟨26, [(0, .ro (a0.map cI_i64)), (1, .ro (a1.map cI_i64)), (12, .i (a0.length : Int)), (13, .i s2)]⟩, []⟩ ?_
          refine W_gh ?_
          refine W_reg ?_
          refine O_p 2 ?_
          refine O_nil ?_
          refine Gh_e ⟨⟨26, [(0, .ro (a0.map cI_i64)), (1, .ro (a1.map cI_i64)), (12, .i (a0.length : Int)), (13, .i (addI .i64 s2 1))]⟩, []⟩ ?_
          refine Gh_e ⟨⟨26, [(0, .ro (a0.map cI_i64)), (1, .ro (a1.map cI_i64)), (12, .i (a0.length : Int)), (13, .i (addI .i64 s2 1))]⟩, []⟩ ?_
          replace h := Option.some.inj h; subst h
          exact ⟨_, rfl, by kernel_rfl⟩
      · replace h := fork_f c4 h
        refine W_exit ?_
        refine X_hit ?_
        refine Gh_e ⟨⟨26, []⟩, []⟩ ?_
        replace h := Option.some.inj h; subst h
        exact ⟨_, rfl, by kernel_rfl⟩
    · refine W_seq ?_
      refine W_reg ?_
      refine O_p 1 ?_
      refine O_nil ?_
      refine W_ret ?_
      replace h := Option.some.inj h; subst h
      exact Fin_free (l := [.bool true]) (by kernel_rfl) (by kernel_rfl) rfl

theorem p12  (r : Bool) (h : m12  = some r) : Pt E0 hp 12 [] (.bool r) := by
  unfold m12 at h
  refine Pt_W (fn12) rfl (by decide) ?_
  refine W_seq ?_
  refine W_gh ?_
  refine W_reg ?_
  refine O_p 1 ?_
  refine O_nil ?_
  refine Gh_e ⟨⟨117, []⟩, []⟩ ?_
  refine W_seq ?_
  refine W_gh ?_
  refine W_reg ?_
  refine O_call (fun v => .agg [.i v.Actuators, .ro (v.Steps.map cSStep)]) h (.inr rfl) (ys := []) (fun _ e => p44  _ e) (by kernel_rfl) (by kernel_rfl) rfl (fun v1 e_v1 h => ?_)
  refine O_call (fun v => .agg [.ro (v.Travels.map cSTravel)]) h (.inr rfl) (ys := []) (fun _ e => p45  _ e) (by kernel_rfl) (by kernel_rfl) rfl (fun v2 e_v2 h => ?_)
  refine O_call (fun v => .tup [.ro (v.1.map cSSlot), .i v.2]) h (.inr rfl) (ys := [.agg (cSSequence v1), .agg (cSPlant v2)]) (fun _ e => p13 _ _ _ e) (by kernel_rfl) (by kernel_rfl) (bels_cons (okSSequence.bel _) (bels_cons (okSPlant.bel _) rfl)) (fun v3 e_v3 h => ?_)
  refine O_p 5 ?_
  refine O_nil ?_
  refine Gh_e ⟨⟨117, [(1, .ro (v3.1.map cSSlot)), (2, .i v3.2)]⟩, []⟩ ?_
  refine W_seq ?_
  refine W_gh ?_
  refine W_reg ?_
  refine O_call (fun v => .agg [.i v.Actuators, .ro (v.Steps.map cSStep)]) h (.inr rfl) (ys := []) (fun _ e => p44  _ e) (by kernel_rfl) (by kernel_rfl) rfl (fun v4 e_v4 h => ?_)
  refine O_call (fun v => .agg [.ro (v.Travels.map cSTravel)]) h (.inr rfl) (ys := []) (fun _ e => p45  _ e) (by kernel_rfl) (by kernel_rfl) rfl (fun v5 e_v5 h => ?_)
  refine O_call (fun v => .tup [.agg [.i v.1.Low, .i v.1.High], .i v.2]) h (.inr rfl) (ys := [.agg (cSSequence v4), .agg (cSPlant v5)]) (fun _ e => p15 _ _ _ e) (by kernel_rfl) (by kernel_rfl) (bels_cons (okSSequence.bel _) (bels_cons (okSPlant.bel _) rfl)) (fun v6 e_v6 h => ?_)
  refine O_p 6 ?_
  refine O_nil ?_
  refine Gh_e ⟨⟨117, [(1, .ro (v3.1.map cSSlot)), (2, .i v3.2), (3, .po 0 0), (4, .i v6.2)]⟩, [.lv 2 [.i v6.1.Low, .i v6.1.High]]⟩ ?_
  refine W_seq ?_
  refine W_gh ?_
  refine W_reg ?_
  refine O_call (fun v => .agg [.i v.Actuators, .ro (v.Steps.map cSStep)]) h (.inr rfl) (ys := []) (fun _ e => p44  _ e) (by kernel_rfl) (by kernel_rfl) rfl (fun v7 e_v7 h => ?_)
  refine O_call (fun v => .agg [.ro (v.Travels.map cSTravel)]) h (.inr rfl) (ys := []) (fun _ e => p45  _ e) (by kernel_rfl) (by kernel_rfl) rfl (fun v8 e_v8 h => ?_)
  refine O_call (fun v => .tup [.ro (v.1.map cI_i64), .i v.2]) h (.inr rfl) (ys := [.agg (cSSequence v7), .agg (cSPlant v8), .i 0]) (fun _ e => p30 _ _ _ _ e) (by kernel_rfl) (by kernel_rfl) (bels_cons (okSSequence.bel _) (bels_cons (okSPlant.bel _) (bels_cons rfl rfl))) (fun v9 e_v9 h => ?_)
  refine O_p 5 ?_
  refine O_nil ?_
  refine Gh_e ⟨⟨117, [(1, .ro (v3.1.map cSSlot)), (2, .i v3.2), (3, .po 0 0), (4, .i v6.2), (5, .ro (v9.1.map cI_i64)), (6, .i v9.2)]⟩, [.lv 2 [.i v6.1.Low, .i v6.1.High]]⟩ ?_
  refine W_seq ?_
  refine W_gh ?_
  refine W_reg ?_
  refine O_call (fun v => .agg [.i v.Actuators, .ro (v.Steps.map cSStep)]) h (.inr rfl) (ys := []) (fun _ e => p44  _ e) (by kernel_rfl) (by kernel_rfl) rfl (fun v10 e_v10 h => ?_)
  refine O_call (fun v => .agg [.ro (v.Travels.map cSTravel)]) h (.inr rfl) (ys := []) (fun _ e => p45  _ e) (by kernel_rfl) (by kernel_rfl) rfl (fun v11 e_v11 h => ?_)
  refine O_call (fun v => .tup [.agg [.i v.1.Low, .i v.1.High], .i v.2]) h (.inr rfl) (ys := [.agg (cSSequence v10), .agg (cSPlant v11), .i 0]) (fun _ e => p21 _ _ _ _ e) (by kernel_rfl) (by kernel_rfl) (bels_cons (okSSequence.bel _) (bels_cons (okSPlant.bel _) (bels_cons rfl rfl))) (fun v12 e_v12 h => ?_)
  refine O_p 6 ?_
  refine O_nil ?_
  refine Gh_e ⟨⟨117, [(1, .ro (v3.1.map cSSlot)), (2, .i v3.2), (3, .po 0 0), (4, .i v6.2), (5, .ro (v9.1.map cI_i64)), (6, .i v9.2), (7, .po 1 0), (8, .i v12.2)]⟩, [.lv 2 [.i v6.1.Low, .i v6.1.High], .lv 2 [.i v12.1.Low, .i v12.1.High]]⟩ ?_
  refine W_seq ?_
  refine W_gh ?_
  refine W_reg ?_
  refine O_call (fun v => .agg [.i v.Actuators, .ro (v.Steps.map cSStep)]) h (.inr rfl) (ys := []) (fun _ e => p44  _ e) (by kernel_rfl) (by kernel_rfl) rfl (fun v13 e_v13 h => ?_)
  refine O_call (fun v => .agg [.ro (v.Travels.map cSTravel)]) h (.inr rfl) (ys := []) (fun _ e => p45  _ e) (by kernel_rfl) (by kernel_rfl) rfl (fun v14 e_v14 h => ?_)
  refine O_call (fun v => .tup [.agg [.i v.1.Low, .i v.1.High], .i v.2]) h (.inr rfl) (ys := [.agg (cSSequence v13), .agg (cSPlant v14), .i 1]) (fun _ e => p21 _ _ _ _ e) (by kernel_rfl) (by kernel_rfl) (bels_cons (okSSequence.bel _) (bels_cons (okSPlant.bel _) (bels_cons rfl rfl))) (fun v15 e_v15 h => ?_)
  refine O_p 6 ?_
  refine O_nil ?_
  refine Gh_e ⟨⟨117, [(1, .ro (v3.1.map cSSlot)), (2, .i v3.2), (3, .po 0 0), (4, .i v6.2), (5, .ro (v9.1.map cI_i64)), (6, .i v9.2), (7, .po 1 0), (8, .i v12.2), (9, .po 2 0), (10, .i v15.2)]⟩, [.lv 2 [.i v6.1.Low, .i v6.1.High], .lv 2 [.i v12.1.Low, .i v12.1.High], .lv 2 [.i v15.1.Low, .i v15.1.High]]⟩ ?_
  refine W_seq ?_
  refine W_gh ?_
  refine W_reg ?_
  refine O_call (fun v => .agg [.i v.Actuators, .ro (v.Steps.map cSStep)]) h (.inr rfl) (ys := []) (fun _ e => p44  _ e) (by kernel_rfl) (by kernel_rfl) rfl (fun v16 e_v16 h => ?_)
  refine O_call (fun v => .agg [.ro (v.Travels.map cSTravel)]) h (.inr rfl) (ys := []) (fun _ e => p45  _ e) (by kernel_rfl) (by kernel_rfl) rfl (fun v17 e_v17 h => ?_)
  refine O_call (fun v => .tup [.bool v.1, .bool v.2.1, .i v.2.2]) h (.inr rfl) (ys := [.agg (cSSequence v16), .agg (cSPlant v17), .i 600]) (fun _ e => p23 _ _ _ _ e) (by kernel_rfl) (by kernel_rfl) (bels_cons (okSSequence.bel _) (bels_cons (okSPlant.bel _) (bels_cons rfl rfl))) (fun v18 e_v18 h => ?_)
  refine O_p 7 ?_
  refine O_nil ?_
  refine Gh_e ⟨⟨117, [(1, .ro (v3.1.map cSSlot)), (2, .i v3.2), (3, .po 0 0), (4, .i v6.2), (5, .ro (v9.1.map cI_i64)), (6, .i v9.2), (7, .po 1 0), (8, .i v12.2), (9, .po 2 0), (10, .i v15.2), (11, .bool v18.1), (12, .bool v18.2.1), (13, .i v18.2.2)]⟩, [.lv 2 [.i v6.1.Low, .i v6.1.High], .lv 2 [.i v12.1.Low, .i v12.1.High], .lv 2 [.i v15.1.Low, .i v15.1.High]]⟩ ?_
  refine W_seq ?_
  refine W_seq ?_
  refine W_cut ⟨⟨117, [(1, .ro (v3.1.map cSSlot)), (3, .po 0 0), (5, .ro (v9.1.map cI_i64)), (7, .po 1 0), (9, .po 2 0), (74, .bool (((addI .i64 (addI .i64 (addI .i64 (addI .i64 (addI .i64 v3.2 v6.2) v9.2) v12.2) v15.2) v18.2.2) != 0) || (((v3.1.length : Int) != 3) || (v18.1 || (!v18.2.1)))))]⟩, [.lv 2 [.i v6.1.Low, .i v6.1.High], .lv 2 [.i v12.1.Low, .i v12.1.High], .lv 2 [.i v15.1.Low, .i v15.1.High]]⟩ ?_ ?_
  · generalize e_g19 : (((addI .i64 (addI .i64 (addI .i64 (addI .i64 (addI .i64 v3.2 v6.2) v9.2) v12.2) v15.2) v18.2.2) != 0) || (((v3.1.length : Int) != 3) || (v18.1 || (!v18.2.1)))) = g19
    refine W_gh ?_
    refine W_reg ?_
    refine O_p 13 ?_
    refine O_fork (n := 63) ((addI .i64 (addI .i64 (addI .i64 (addI .i64 (addI .i64 v3.2 v6.2) v9.2) v12.2) v15.2) v18.2.2) != 0) (by kernel_rfl) (fun c20 => ?_) (fun c20 => ?_)
    · skip
      refine O_p 11 ?_
      refine O_nil ?_
      refine Gh_e ⟨⟨117, [(1, .ro (v3.1.map cSSlot)), (3, .po 0 0), (5, .ro (v9.1.map cI_i64)), (7, .po 1 0), (9, .po 2 0), (74, .bool true)]⟩, [.lv 2 [.i v6.1.Low, .i v6.1.High], .lv 2 [.i v12.1.Low, .i v12.1.High], .lv 2 [.i v15.1.Low, .i v15.1.High]]⟩ ?_
      have q := e_g19; simp only [c20, cond_true, cond_false, Bool.true_and, Bool.false_and, Bool.true_or, Bool.false_or] at q; subst q
      show _ = _
      kernel_rfl
    · skip
      refine O_p 1 ?_
      refine O_len (l := v3.1) cSSlot (by kernel_rfl) (by kernel_rfl) ?_
      refine O_p 3 ?_
      refine O_fork (n := 68) ((v3.1.length : Int) != 3) (by kernel_rfl) (fun c21 => ?_) (fun c21 => ?_)
      · skip
        refine O_p 6 ?_
        refine O_nil ?_
        refine Gh_e ⟨⟨117, [(1, .ro (v3.1.map cSSlot)), (3, .po 0 0), (5, .ro (v9.1.map cI_i64)), (7, .po 1 0), (9, .po 2 0), (74, .bool true)]⟩, [.lv 2 [.i v6.1.Low, .i v6.1.High], .lv 2 [.i v12.1.Low, .i v12.1.High], .lv 2 [.i v15.1.Low, .i v15.1.High]]⟩ ?_
        have q := e_g19; simp only [c20, c21, cond_true, cond_false, Bool.true_and, Bool.false_and, Bool.true_or, Bool.false_or] at q; subst q
        show _ = _
        kernel_rfl
      · skip
        refine O_p 3 ?_
        refine O_fork (n := 71) v18.1 (by kernel_rfl) (fun c22 => ?_) (fun c22 => ?_)
        · skip
          refine O_p 3 ?_
          refine O_nil ?_
          refine Gh_e ⟨⟨117, [(1, .ro (v3.1.map cSSlot)), (3, .po 0 0), (5, .ro (v9.1.map cI_i64)), (7, .po 1 0), (9, .po 2 0), (74, .bool true)]⟩, [.lv 2 [.i v6.1.Low, .i v6.1.High], .lv 2 [.i v12.1.Low, .i v12.1.High], .lv 2 [.i v15.1.Low, .i v15.1.High]]⟩ ?_
          have q := e_g19; simp only [c20, c21, c22, cond_true, cond_false, Bool.true_and, Bool.false_and, Bool.true_or, Bool.false_or] at q; subst q
          show _ = _
          kernel_rfl
        · skip
          refine O_p 3 ?_
          refine O_nil ?_
          refine Gh_e ⟨⟨117, [(1, .ro (v3.1.map cSSlot)), (3, .po 0 0), (5, .ro (v9.1.map cI_i64)), (7, .po 1 0), (9, .po 2 0), (74, .bool (!v18.2.1))]⟩, [.lv 2 [.i v6.1.Low, .i v6.1.High], .lv 2 [.i v12.1.Low, .i v12.1.High], .lv 2 [.i v15.1.Low, .i v15.1.High]]⟩ ?_
          have q := e_g19; simp only [c20, c21, c22, cond_true, cond_false, Bool.true_and, Bool.false_and, Bool.true_or, Bool.false_or] at q; subst q
          show _ = _
          kernel_rfl
  · refine W_gh ?_
    refine W_cond (c := (((addI .i64 (addI .i64 (addI .i64 (addI .i64 (addI .i64 v3.2 v6.2) v9.2) v12.2) v15.2) v18.2.2) != 0) || (((v3.1.length : Int) != 3) || (v18.1 || (!v18.2.1))))) (by kernel_rfl) (fun c23 => ?_) (fun c23 => ?_)
    · replace h := fork_t c23 h
      refine W_seq ?_
      refine W_reg ?_
      refine O_p 1 ?_
      refine O_nil ?_
      refine W_ret ?_
      replace h := Option.some.inj h; subst h
      exact Fin_free (l := [.bool false]) (by kernel_rfl) (by kernel_rfl) rfl
    · replace h := fork_f c23 h
      refine W_skip ?_
      refine Gh_e ⟨⟨117, [(1, .ro (v3.1.map cSSlot)), (3, .po 0 0), (5, .ro (v9.1.map cI_i64)), (7, .po 1 0), (9, .po 2 0)]⟩, [.lv 2 [.i v6.1.Low, .i v6.1.High], .lv 2 [.i v12.1.Low, .i v12.1.High], .lv 2 [.i v15.1.Low, .i v15.1.High]]⟩ ?_
      refine W_seq ?_
      refine W_joinS (fun v : Bool => ⟨⟨117, [(0, .bool v)]⟩, [.lv 2 [.i v6.1.Low, .i v6.1.High], .lv 2 [.i v12.1.Low, .i v12.1.High], .lv 2 [.i v15.1.Low, .i v15.1.High]]⟩) h (fun w h => ?_) (fun w24 e_w24 h => ?_)
      · refine W_gh ?_
        refine W_reg ?_
        refine O_p 1 ?_
        refine O_idx (kd := .i64) cSSlot h (fun _ => rfl) (by kernel_rfl) (by kernel_rfl) (by kernel_rfl) (fun v25 e_v25 h => ?_)
        refine O_p 5 ?_
        refine O_fork (n := 81) ((v25.End.Low == 250 && (v25.End.High == 300 && true)) != false) (by kernel_rfl) (fun c26 => ?_) (fun c26 => ?_)
        · replace h := fork_t c26 h
          refine O_p 1 ?_
          refine O_idx (kd := .i64) cSSlot h (fun _ => rfl) (by kernel_rfl) (by kernel_rfl) (by kernel_rfl) (fun v27 e_v27 h => ?_)
          refine O_p 6 ?_
          refine O_fork (n := 89) ((v27.Moved.Low == 400 && (v27.Moved.High == 450 && true)) != false) (by kernel_rfl) (fun c28 => ?_) (fun c28 => ?_)
          · replace h := fork_t c28 h
            refine O_p 1 ?_
            refine O_idx (kd := .i64) cSSlot h (fun _ => rfl) (by kernel_rfl) (by kernel_rfl) (by kernel_rfl) (fun v29 e_v29 h => ?_)
            refine O_p 6 ?_
            refine O_fork (n := 97) ((v29.End.Low == 500 && (v29.End.High == 550 && true)) != false) (by kernel_rfl) (fun c30 => ?_) (fun c30 => ?_)
            · replace h := fork_t c30 h
              refine O_p 5 ?_
              refine O_fork (n := 102) ((v6.1.Low == 600 && (v6.1.High == 950 && true)) != false) (by kernel_rfl) (fun c31 => ?_) (fun c31 => ?_)
              · replace h := fork_t c31 h
                refine O_p 2 ?_
                refine O_lent (fun v => .bool v) h (.inr rfl) (ys := [.ro (v9.1.map cI_i64), .ro (([0, 1] : List Int).map cI_i64)]) (fun _ e => p32 _ _ _ e) (by kernel_rfl) (snaps_of (xs := [.ro (v9.1.map cI_i64), .own 3 2 0 2]) (by kernel_rfl) (mapO_cons (pk_free (ro_bel okI_i64.bel _)) (mapO_cons (pk_own (d := 5) (id := 3) (nl := .norm) (sz := 1) (l := ([0, 1] : List Int)) okI_i64.bel (by kernel_rfl) rfl) rfl))) (fun _ => rfl) (fun v32 e_v32 h => ?_)
                refine O_p 2 ?_
                refine O_fork (n := 107) v32 (by kernel_rfl) (fun c33 => ?_) (fun c33 => ?_)
                · replace h := fork_t c33 h
                  refine O_p 5 ?_
                  refine O_fork (n := 112) ((v12.1.Low == 400 && (v12.1.High == 450 && true)) != false) (by kernel_rfl) (fun c34 => ?_) (fun c34 => ?_)
                  · replace h := fork_t c34 h
                    refine O_p 5 ?_
                    refine O_nil ?_
                    refine Gh_one (s1 := ⟨⟨117, [(0, .bool ((v15.1.Low == v6.1.Low && (v15.1.High == v6.1.High && true)) != false))]⟩, [.lv 2 [.i v6.1.Low, .i v6.1.High], .lv 2 [.i v12.1.Low, .i v12.1.High], .lv 2 [.i v15.1.Low, .i v15.1.High], .live .norm 1 (([0, 1] : List Int).map cI_i64)]⟩) (by kernel_rfl) ?_
                    refine Gh_at (s1 := ⟨⟨117, [(0, .bool ((v15.1.Low == v6.1.Low && (v15.1.High == v6.1.High && true)) != false))]⟩, [.lv 2 [.i v6.1.Low, .i v6.1.High], .lv 2 [.i v12.1.Low, .i v12.1.High], .lv 2 [.i v15.1.Low, .i v15.1.High], .live .norm 1 (([0, 1] : List Int).map cI_i64)]⟩) (by kernel_rfl) ?_
                    refine Gh_trunc (s1 := ⟨⟨117, [(0, .bool ((v15.1.Low == v6.1.Low && (v15.1.High == v6.1.High && true)) != false))]⟩, [.lv 2 [.i v6.1.Low, .i v6.1.High], .lv 2 [.i v12.1.Low, .i v12.1.High], .lv 2 [.i v15.1.Low, .i v15.1.High]]⟩) (by kernel_rfl) (tb_free rfl rfl) (H1 := [.lv 2 [.i v6.1.Low, .i v6.1.High], .lv 2 [.i v12.1.Low, .i v12.1.High], .lv 2 [.i v15.1.Low, .i v15.1.High]]) (by kernel_rfl) (ob_boxn (bn_free rfl (bn_free rfl rfl)) (ob_boxn (bn_free rfl (bn_free rfl rfl)) (ob_boxn (bn_free rfl (bn_free rfl rfl)) rfl))) (by kernel_rfl) ?_
                    refine Gh_nil ?_
                    replace h := Option.some.inj h; subst h
                    show _ = _
                    kernel_rfl
                  · replace h := fork_f c34 h
                    refine O_p 5 ?_
                    refine O_nil ?_
                    refine Gh_one (s1 := ⟨⟨117, [(0, .bool false)]⟩, [.lv 2 [.i v6.1.Low, .i v6.1.High], .lv 2 [.i v12.1.Low, .i v12.1.High], .lv 2 [.i v15.1.Low, .i v15.1.High], .live .norm 1 (([0, 1] : List Int).map cI_i64)]⟩) (by kernel_rfl) ?_
                    refine Gh_at (s1 := ⟨⟨117, [(0, .bool false)]⟩, [.lv 2 [.i v6.1.Low, .i v6.1.High], .lv 2 [.i v12.1.Low, .i v12.1.High], .lv 2 [.i v15.1.Low, .i v15.1.High], .live .norm 1 (([0, 1] : List Int).map cI_i64)]⟩) (by kernel_rfl) ?_
                    refine Gh_trunc (s1 := ⟨⟨117, [(0, .bool false)]⟩, [.lv 2 [.i v6.1.Low, .i v6.1.High], .lv 2 [.i v12.1.Low, .i v12.1.High], .lv 2 [.i v15.1.Low, .i v15.1.High]]⟩) (by kernel_rfl) (tb_free rfl rfl) (H1 := [.lv 2 [.i v6.1.Low, .i v6.1.High], .lv 2 [.i v12.1.Low, .i v12.1.High], .lv 2 [.i v15.1.Low, .i v15.1.High]]) (by kernel_rfl) (ob_boxn (bn_free rfl (bn_free rfl rfl)) (ob_boxn (bn_free rfl (bn_free rfl rfl)) (ob_boxn (bn_free rfl (bn_free rfl rfl)) rfl))) (by kernel_rfl) ?_
                    refine Gh_nil ?_
                    replace h := Option.some.inj h; subst h
                    show _ = _
                    kernel_rfl
                · replace h := fork_f c33 h
                  refine O_p 10 ?_
                  refine O_nil ?_
                  refine Gh_one (s1 := ⟨⟨117, [(0, .bool false)]⟩, [.lv 2 [.i v6.1.Low, .i v6.1.High], .lv 2 [.i v12.1.Low, .i v12.1.High], .lv 2 [.i v15.1.Low, .i v15.1.High], .live .norm 1 (([0, 1] : List Int).map cI_i64)]⟩) (by kernel_rfl) ?_
                  refine Gh_at (s1 := ⟨⟨117, [(0, .bool false)]⟩, [.lv 2 [.i v6.1.Low, .i v6.1.High], .lv 2 [.i v12.1.Low, .i v12.1.High], .lv 2 [.i v15.1.Low, .i v15.1.High], .live .norm 1 (([0, 1] : List Int).map cI_i64)]⟩) (by kernel_rfl) ?_
                  refine Gh_trunc (s1 := ⟨⟨117, [(0, .bool false)]⟩, [.lv 2 [.i v6.1.Low, .i v6.1.High], .lv 2 [.i v12.1.Low, .i v12.1.High], .lv 2 [.i v15.1.Low, .i v15.1.High]]⟩) (by kernel_rfl) (tb_free rfl rfl) (H1 := [.lv 2 [.i v6.1.Low, .i v6.1.High], .lv 2 [.i v12.1.Low, .i v12.1.High], .lv 2 [.i v15.1.Low, .i v15.1.High]]) (by kernel_rfl) (ob_boxn (bn_free rfl (bn_free rfl rfl)) (ob_boxn (bn_free rfl (bn_free rfl rfl)) (ob_boxn (bn_free rfl (bn_free rfl rfl)) rfl))) (by kernel_rfl) ?_
                  refine Gh_nil ?_
                  replace h := Option.some.inj h; subst h
                  show _ = _
                  kernel_rfl
              · replace h := fork_f c31 h
                refine O_p 15 ?_
                refine O_nil ?_
                refine Gh_one (s1 := ⟨⟨117, [(0, .bool false)]⟩, [.lv 2 [.i v6.1.Low, .i v6.1.High], .lv 2 [.i v12.1.Low, .i v12.1.High], .lv 2 [.i v15.1.Low, .i v15.1.High]]⟩) (by kernel_rfl) ?_
                refine Gh_trunc0 (by kernel_rfl) ?_
                refine Gh_nil ?_
                replace h := Option.some.inj h; subst h
                show _ = _
                kernel_rfl
            · replace h := fork_f c30 h
              refine O_p 20 ?_
              refine O_nil ?_
              refine Gh_one (s1 := ⟨⟨117, [(0, .bool false)]⟩, [.lv 2 [.i v6.1.Low, .i v6.1.High], .lv 2 [.i v12.1.Low, .i v12.1.High], .lv 2 [.i v15.1.Low, .i v15.1.High]]⟩) (by kernel_rfl) ?_
              refine Gh_trunc0 (by kernel_rfl) ?_
              refine Gh_nil ?_
              replace h := Option.some.inj h; subst h
              show _ = _
              kernel_rfl
          · replace h := fork_f c28 h
            refine O_p 28 ?_
            refine O_nil ?_
            refine Gh_one (s1 := ⟨⟨117, [(0, .bool false)]⟩, [.lv 2 [.i v6.1.Low, .i v6.1.High], .lv 2 [.i v12.1.Low, .i v12.1.High], .lv 2 [.i v15.1.Low, .i v15.1.High]]⟩) (by kernel_rfl) ?_
            refine Gh_trunc0 (by kernel_rfl) ?_
            refine Gh_nil ?_
            replace h := Option.some.inj h; subst h
            show _ = _
            kernel_rfl
        · replace h := fork_f c26 h
          refine O_p 36 ?_
          refine O_nil ?_
          refine Gh_one (s1 := ⟨⟨117, [(0, .bool false)]⟩, [.lv 2 [.i v6.1.Low, .i v6.1.High], .lv 2 [.i v12.1.Low, .i v12.1.High], .lv 2 [.i v15.1.Low, .i v15.1.High]]⟩) (by kernel_rfl) ?_
          refine Gh_trunc0 (by kernel_rfl) ?_
          refine Gh_nil ?_
          replace h := Option.some.inj h; subst h
          show _ = _
          kernel_rfl
      · refine W_ret ?_
        replace h := Option.some.inj h; subst h
        exact Fin_free (l := [.bool w24]) (by kernel_rfl) (by kernel_rfl) rfl

theorem p40 (a0 : (List (List SStep))) (r : (List SStep)) (h : m40 a0 = some r) : Pt E0 hp 40 [.ro (a0.map (cL cSStep))] (.ro (r.map cSStep)) := by
  unfold m40 at h
  refine Pt_W (fn40) rfl (by decide) ?_
  refine W_seq ?_
  refine W_gh ?_
  refine W_reg ?_
  refine O_p 1 ?_
  refine O_nil ?_
  refine Gh_e ⟨⟨36, [(0, .ro (a0.map (cL cSStep)))]⟩, []⟩ ?_
  refine W_seq ?_
  refine W_reg ?_
  refine O_p 1 ?_
  refine O_nil ?_
  refine W_seq ?_
  refine W_seq ?_
  refine W_reg ?_
  refine O_p 1 ?_
  refine O_len (l := a0) (cL cSStep) (by kernel_rfl) (by kernel_rfl) ?_
  refine O_p 1 ?_
  refine O_nil ?_
  refine W_loopS (fun s1 : Int × Int => ⟨⟨36, [(0, .ro (a0.map (cL cSStep))), (3, .i s1.2), (9, .ro (a0.map (cL cSStep))), (10, .i (a0.length : Int)), (11, .i s1.1)]⟩, []⟩) (fun w2 : Int => ⟨⟨36, [(0, .ro (a0.map (cL cSStep))), (3, .i w2)]⟩, []⟩) h (by kernel_rfl) (fun s1 c h => ?_) (fun w2 e_w2 h => ?_)
  · refine W_gh ?_
    refine W_seq ?_
    refine W_reg ?_
    refine O_p 1 ?_
    refine O_nil ?_
    refine W_seq ?_
    refine W_gh ?_
    refine W_cond (c := (decide (s1.1 < (a0.length : Int)))) (by kernel_rfl) (fun c3 => ?_) (fun c3 => ?_)
    · replace h := fork_t c3 h
      refine W_skip ?_
      refine Gh_e ⟨⟨36, [(0, .ro (a0.map (cL cSStep))), (3, .i s1.2), (9, .ro (a0.map (cL cSStep))), (10, .i (a0.length : Int)), (11, .i s1.1)]⟩, []⟩ ?_
      refine W_seq ?_
      refine W_gh ?_
      refine W_block ?_
      refine W_seq ?_
      refine W_gh ?_
      refine W_reg ?_
      refine O_idx (kd := .i64) (cL cSStep) h (fun _ => rfl) (by kernel_rfl) (by kernel_rfl) (by kernel_rfl) (fun v4 e_v4 h => ?_)
      refine O_p 2 ?_
      refine O_nil ?_
      refine Gh_e ⟨⟨36, [(0, .ro (a0.map (cL cSStep))), (3, .i s1.2), (5, .ro (v4.map cSStep)), (9, .ro (a0.map (cL cSStep))), (10, .i (a0.length : Int)), (11, .i s1.1)]⟩, []⟩ ?_
      refine W_seq ?_
      refine W_gh ?_
      refine W_reg ?_
      refine O_p 2 ?_
      refine O_len (l := v4) cSStep (by kernel_rfl) (by kernel_rfl) ?_
      refine O_p 2 ?_
      refine O_nil ?_
      refine Gh_e ⟨⟨36, [(0, .ro (a0.map (cL cSStep))), (3, .i (addI .i64 s1.2 (v4.length : Int))), (9, .ro (a0.map (cL cSStep))), (10, .i (a0.length : Int)), (11, .i s1.1)]⟩, []⟩ ?_
      refine W_seq ?_
      refine W_gh ?_
      refine W_reg ?_
      refine O_p 2 ?_
      refine O_nil ?_
      refine Gh_e ⟨⟨36, [(0, .ro (a0.map (cL cSStep))), (3, .i (addI .i64 s1.2 (v4.length : Int))), (9, .ro (a0.map (cL cSStep))), (10, .i (a0.length : Int)), (11, .i s1.1), (20, .bool (decide ((addI .i64 s1.2 (v4.length : Int)) < 0)))]⟩, []⟩ ?_
      refine W_gh ?_
      refine W_cond (c := (decide ((addI .i64 s1.2 (v4.length : Int)) < 0))) (by kernel_rfl) (fun c5 => ?_) (fun c5 => ?_)
      · replace h := fork_t c5 h
        refine W_gh ?_
        refine W_reg ?_
        cases h
      · replace h := fork_f c5 h
        refine W_skip ?_
        refine Gh_e ⟨⟨36, [(0, .ro (a0.map (cL cSStep))), (3, .i (addI .i64 s1.2 (v4.length : Int))), (9, .ro (a0.map (cL cSStep))), (10, .i (a0.length : Int)), (11, .i s1.1)]⟩, []⟩ ?_
        refine Gh_e ⟨⟨36, [(0, .ro (a0.map (cL cSStep))), (3, .i (addI .i64 s1.2 (v4.length : Int))), (9, .ro (a0.map (cL cSStep))), (10, .i (a0.length : Int)), (11, .i s1.1)]⟩, []⟩ ?_
        refine W_gh ?_
        refine W_reg ?_
        refine O_p 2 ?_
        refine O_nil ?_
        refine Gh_e ⟨⟨36, [(0, .ro (a0.map (cL cSStep))), (3, .i (addI .i64 s1.2 (v4.length : Int))), (9, .ro (a0.map (cL cSStep))), (10, .i (a0.length : Int)), (11, .i (addI .i64 s1.1 1))]⟩, []⟩ ?_
        refine Gh_e ⟨⟨36, [(0, .ro (a0.map (cL cSStep))), (3, .i (addI .i64 s1.2 (v4.length : Int))), (9, .ro (a0.map (cL cSStep))), (10, .i (a0.length : Int)), (11, .i (addI .i64 s1.1 1))]⟩, []⟩ ?_
        replace h := Option.some.inj h; subst h
        exact ⟨_, rfl, by kernel_rfl⟩
    · replace h := fork_f c3 h
      refine W_exit ?_
      refine X_hit ?_
      refine Gh_e ⟨⟨36, [(0, .ro (a0.map (cL cSStep))), (3, .i s1.2)]⟩, []⟩ ?_
      replace h := Option.some.inj h; subst h
      exact ⟨_, rfl, by kernel_rfl⟩
  · refine W_seq ?_
    refine W_gh ?_
    refine W_reg ?_
    refine O_p 1 ?_
    refine O_inl (b := 0) fn64 (.inl rfl) (xs := [.nils, .i w2]) rfl (by decide) (by kernel_rfl) (by kernel_rfl) (by kernel_rfl) ?_
    refine W_seq ?_
    refine W_gh ?_
    refine W_reg ?_
    refine O_p 1 ?_
    refine O_nil ?_
    refine Gh_e ⟨⟨27, [(0, .nils), (1, .i w2)]⟩, []⟩ ?_
    refine W_seq ?_
    refine W_seq ?_
    refine W_gh ?_
    refine W_reg ?_
    refine O_p 2 ?_
    refine O_nil ?_
    refine Gh_e ⟨⟨27, [(0, .nils), (1, .i w2), (6, .bool (decide (w2 < 0)))]⟩, []⟩ ?_
    refine W_gh ?_
    refine W_cond (c := (decide (w2 < 0))) (by kernel_rfl) (fun c6 => ?_) (fun c6 => ?_)
    · replace h := fork_t c6 h
      refine W_gh ?_
      refine W_reg ?_
      cases h
    · replace h := fork_f c6 h
      refine W_skip ?_
      refine Gh_e ⟨⟨27, [(0, .nils), (1, .i w2)]⟩, []⟩ ?_
      refine W_seq ?_
      refine W_seq ?_
      refine W_gh ?_
      refine W_reg ?_
      refine O_p 8 ?_
      refine O_nil ?_
      refine Gh_e ⟨⟨27, [(0, .nils), (1, .i (subI .i64 w2 (subI .i64 0 0)))]⟩, []⟩ ?_
      refine W_seq ?_
      refine W_gh ?_
      refine W_reg ?_
      refine O_p 2 ?_
      refine O_nil ?_
      refine Gh_e ⟨⟨27, [(0, .nils), (1, .i (subI .i64 w2 (subI .i64 0 0))), (16, .bool (decide ((subI .i64 w2 (subI .i64 0 0)) > 0)))]⟩, []⟩ ?_
      refine W_gh ?_
      refine W_cond (c := (decide ((subI .i64 w2 (subI .i64 0 0)) > 0))) (by kernel_rfl) (fun c7 => ?_) (fun c7 => ?_)
      · replace h := fork_t c7 h
        refine W_gh ?_
        refine W_reg ?_
        refine O_p 5 ?_
        refine O_appn (C := (fun _ : Unit => [.nils, .i 0])) (⟨fun _ => rfl, fun _ => rfl, fun _ => rfl⟩ : EncOk (fun _ : Unit => [.nils, .i 0]) 2) (z0 := ()) (by kernel_rfl) h (by kernel_rfl) (by kernel_rfl) (by kernel_rfl) (fun l8 e_l8 h => ?_)
        refine O_p 2 ?_
        refine O_slc0 (C := (fun _ : Unit => [.nils, .i 0])) (id := 0) (nl := .norm) (l := l8) (kd := .i64) rfl (by kernel_rfl) (by kernel_rfl) (by kernel_rfl) (by kernel_rfl) ?_
        refine O_p 1 ?_
        refine O_nil ?_
        refine Gh_one (s1 := ⟨⟨27, [(0, .own 0 l8.length 0 0), (16, .bool (decide ((subI .i64 w2 (subI .i64 0 0)) > 0)))]⟩, [.live .norm 2 (l8.map (fun _ : Unit => [.nils, .i 0]))]⟩) (by kernel_rfl) ?_
        refine Gh_one (cut_own (C := (fun _ : Unit => [.nils, .i 0])) (id := 0) (sz := 2) (l := l8) (⟨fun _ => rfl, fun _ => rfl, fun _ => rfl⟩ : EncOk (fun _ : Unit => [.nils, .i 0]) 2).bel (by kernel_rfl) (by kernel_rfl) rfl (by kernel_rfl) (by kernel_rfl) (by kernel_rfl) (by kernel_rfl) (s1 := ⟨⟨27, [(0, .own 0 0 0 0), (16, .bool (decide ((subI .i64 w2 (subI .i64 0 0)) > 0)))]⟩, [.live .norm 2 (([] : List SStep).map cSStep)]⟩) (by kernel_rfl)) ?_
        refine Gh_nil ?_
        refine Gh_one (s1 := ⟨⟨27, [(0, .own 0 0 0 0)]⟩, [.live .norm 2 (([] : List SStep).map cSStep)]⟩) (by kernel_rfl) ?_
        refine Gh_one (s1 := ⟨⟨27, [(0, .own 0 0 0 0)]⟩, [.live .norm 2 (([] : List SStep).map cSStep)]⟩) (by kernel_rfl) ?_
        refine Gh_nil ?_
        refine W_seq ?_
        refine W_gh ?_
        refine W_reg ?_
        refine O_p 2 ?_
        refine O_nil ?_
        refine Gh_e ⟨⟨27, [(4, .own 0 0 0 0)]⟩, [.live .norm 2 (([] : List SStep).map cSStep)]⟩ ?_
        refine W_ret ?_
        refine ⟨[.own 0 0 0 0], by kernel_rfl, ?_⟩
        refine O_p 1 ?_
        refine O_nil ?_
        refine Gh_e ⟨⟨36, [(0, .ro (a0.map (cL cSStep))), (6, .own 0 0 0 0)]⟩, [.live .norm 2 (([] : List SStep).map cSStep)]⟩ ?_
        refine W_seq ?_
        refine W_seq ?_
        refine W_gh ?_
        refine W_reg ?_
        refine O_p 1 ?_
        refine O_len (l := a0) (cL cSStep) (by kernel_rfl) (by kernel_rfl) ?_
        refine O_p 1 ?_
        refine O_nil ?_
        refine Gh_e ⟨⟨36, [(6, .own 0 0 0 0), (25, .ro (a0.map (cL cSStep))), (26, .i (a0.length : Int)), (27, .i 0)]⟩, [.live .norm 2 (([] : List SStep).map cSStep)]⟩ ?_
        refine W_loopS (fun s10 : (List SStep) × Int => ⟨⟨36, [(6, .own 0 s10.1.length 0 s10.1.length), (25, .ro (a0.map (cL cSStep))), (26, .i (a0.length : Int)), (27, .i s10.2)]⟩, [.live .norm 2 (s10.1.map cSStep)]⟩) (fun w11 : (List SStep) => ⟨⟨36, [(6, .own 0 w11.length 0 w11.length)]⟩, [.live .norm 2 (w11.map cSStep)]⟩) h (by kernel_rfl) (fun s10 c h => ?_) (fun w11 e_w11 h => ?_)
        · refine W_gh ?_
          refine W_seq ?_
          refine W_reg ?_
          refine O_p 1 ?_
          refine O_nil ?_
          refine W_seq ?_
          refine W_gh ?_
          refine W_cond (c := (decide (s10.2 < (a0.length : Int)))) (by kernel_rfl) (fun c12 => ?_) (fun c12 => ?_)
          · replace h := fork_t c12 h
            refine W_skip ?_
            refine Gh_e ⟨⟨36, [(6, .own 0 s10.1.length 0 s10.1.length), (25, .ro (a0.map (cL cSStep))), (26, .i (a0.length : Int)), (27, .i s10.2)]⟩, [.live .norm 2 (s10.1.map cSStep)]⟩ ?_
            refine W_seq ?_
            refine W_gh ?_
            refine W_block ?_
            refine W_seq ?_
            refine W_gh ?_
            refine W_reg ?_
            refine O_idx (kd := .i64) (cL cSStep) h (fun _ => rfl) (by kernel_rfl) (by kernel_rfl) (by kernel_rfl) (fun v13 e_v13 h => ?_)
            refine O_p 2 ?_
            refine O_nil ?_
            refine Gh_e ⟨⟨36, [(6, .own 0 s10.1.length 0 s10.1.length), (8, .ro (v13.map cSStep)), (25, .ro (a0.map (cL cSStep))), (26, .i (a0.length : Int)), (27, .i s10.2)]⟩, [.live .norm 2 (s10.1.map cSStep)]⟩ ?_
            refine W_gh ?_
            refine W_reg ?_
            refine O_p 2 ?_
            refine O_app (C := cSStep) (id := 0) (nl := .norm) okSStep h rfl (by kernel_rfl) (by kernel_rfl) (by kernel_rfl) (by kernel_rfl) rfl (fun l14 e_l14 h => ?_)
            refine O_p 1 ?_
            refine O_nil ?_
            refine Gh_e ⟨⟨36, [(6, .own 0 l14.length 0 l14.length), (25, .ro (a0.map (cL cSStep))), (26, .i (a0.length : Int)), (27, .i s10.2)]⟩, [.live .norm 2 (l14.map cSStep)]⟩ ?_
            refine Gh_one (s1 := ⟨⟨36, [(6, .own 0 l14.length 0 l14.length), (25, .ro (a0.map (cL cSStep))), (26, .i (a0.length : Int)), (27, .i s10.2)]⟩, [.live .norm 2 (l14.map cSStep)]⟩) (by kernel_rfl) ?_
            refine Gh_trunc0 (by kernel_rfl) ?_
            refine Gh_nil ?_
            refine W_gh ?_
            refine W_reg ?_
            refine O_p 2 ?_
            refine O_nil ?_
            refine Gh_e ⟨⟨36, [(6, .own 0 l14.length 0 l14.length), (25, .ro (a0.map (cL cSStep))), (26, .i (a0.length : Int)), (27, .i (addI .i64 s10.2 1))]⟩, [.live .norm 2 (l14.map cSStep)]⟩ ?_
            refine Gh_one (s1 := ⟨⟨36, [(6, .own 0 l14.length 0 l14.length), (25, .ro (a0.map (cL cSStep))), (26, .i (a0.length : Int)), (27, .i (addI .i64 s10.2 1))]⟩, [.live .norm 2 (l14.map cSStep)]⟩) (by kernel_rfl) ?_
            refine Gh_trunc0 (by kernel_rfl) ?_
            refine Gh_nil ?_
            replace h := Option.some.inj h; subst h
            exact ⟨_, rfl, by kernel_rfl⟩
          · replace h := fork_f c12 h
            refine W_exit ?_
            refine X_hit ?_
            refine Gh_one (s1 := ⟨⟨36, [(6, .own 0 s10.1.length 0 s10.1.length)]⟩, [.live .norm 2 (s10.1.map cSStep)]⟩) (by kernel_rfl) ?_
            refine Gh_trunc0 (by kernel_rfl) ?_
            refine Gh_nil ?_
            replace h := Option.some.inj h; subst h
            exact ⟨_, rfl, by kernel_rfl⟩
        · refine W_seq ?_
          refine W_gh ?_
          refine W_reg ?_
          refine O_p 2 ?_
          refine O_nil ?_
          refine Gh_e ⟨⟨36, [(2, .own 0 w11.length 0 w11.length)]⟩, [.live .norm 2 (w11.map cSStep)]⟩ ?_
          refine W_ret ?_
          replace h := Option.some.inj h; subst h
          exact Fin_pk (l := [.own 0 w11.length 0 w11.length]) (by kernel_rfl) (pk_own (d := 5) (id := 0) (nl := .norm) (sz := 2) (l := w11) okSStep.bel (by kernel_rfl) rfl)
      · replace h := fork_f c7 h
        cases h

theorem p10 (a0 : SSequence) (a1 : SSequence) (a2 : SPlant) (r : Bool) (h : m10 a0 a1 a2 = some r) : Pt E0 hp 10 [.agg (cSSequence a0), .agg (cSSequence a1), .agg (cSPlant a2)] (.bool r) := by
  unfold m10 at h
  refine Pt_W (fn10) rfl (by decide) ?_
  refine W_seq ?_
  refine W_gh ?_
  refine W_reg ?_
  refine O_p 4 ?_
  refine O_nil ?_
  refine Gh_e ⟨⟨166, [(3, .po 0 0), (4, .po 1 0), (5, .po 2 0)]⟩, [.lv 2 [.i a0.Actuators, .ro (a0.Steps.map cSStep)], .lv 2 [.i a1.Actuators, .ro (a1.Steps.map cSStep)], .lv 1 [.ro (a2.Travels.map cSTravel)]]⟩ ?_
  refine W_seq ?_
  refine W_seq ?_
  refine W_joinS (fun v : Bool => ⟨⟨166, [(3, .po 0 0), (4, .po 1 0), (5, .po 2 0), (30, .bool v)]⟩, [.lv 2 [.i a0.Actuators, .ro (a0.Steps.map cSStep)], .lv 2 [.i a1.Actuators, .ro (a1.Steps.map cSStep)], .lv 1 [.ro (a2.Travels.map cSTravel)]]⟩) h (fun w h => ?_) (fun w1 e_w1 h => ?_)
  · refine W_gh ?_
    refine W_reg ?_
    refine O_p 2 ?_
    refine O_call (fun v => .bool v) h (.inr rfl) (ys := [.agg (cSSequence a0), .agg (cSPlant a2)]) (fun _ e => p25 _ _ _ e) (by kernel_rfl) (by kernel_rfl) (bels_cons (okSSequence.bel _) (bels_cons (okSPlant.bel _) rfl)) (fun v2 e_v2 h => ?_)
    refine O_p 2 ?_
    refine O_fork (n := 25) (!v2) (by kernel_rfl) (fun c3 => ?_) (fun c3 => ?_)
    · replace h := fork_t c3 h
      refine O_p 5 ?_
      refine O_nil ?_
      refine Gh_e ⟨⟨166, [(3, .po 0 0), (4, .po 1 0), (5, .po 2 0), (30, .bool true)]⟩, [.lv 2 [.i a0.Actuators, .ro (a0.Steps.map cSStep)], .lv 2 [.i a1.Actuators, .ro (a1.Steps.map cSStep)], .lv 1 [.ro (a2.Travels.map cSTravel)]]⟩ ?_
      replace h := Option.some.inj h; subst h
      show _ = _
      kernel_rfl
    · replace h := fork_f c3 h
      refine O_p 2 ?_
      refine O_call (fun v => .bool v) h (.inr rfl) (ys := [.agg (cSSequence a1), .agg (cSPlant a2)]) (fun _ e => p25 _ _ _ e) (by kernel_rfl) (by kernel_rfl) (bels_cons (okSSequence.bel _) (bels_cons (okSPlant.bel _) rfl)) (fun v4 e_v4 h => ?_)
      refine O_p 2 ?_
      refine O_nil ?_
      refine Gh_e ⟨⟨166, [(3, .po 0 0), (4, .po 1 0), (5, .po 2 0), (30, .bool (!v4))]⟩, [.lv 2 [.i a0.Actuators, .ro (a0.Steps.map cSStep)], .lv 2 [.i a1.Actuators, .ro (a1.Steps.map cSStep)], .lv 1 [.ro (a2.Travels.map cSTravel)]]⟩ ?_
      replace h := Option.some.inj h; subst h
      show _ = _
      kernel_rfl
  · refine W_gh ?_
    refine W_cond (c := w1) (by kernel_rfl) (fun c5 => ?_) (fun c5 => ?_)
    · replace h := fork_t c5 h
      refine W_seq ?_
      refine W_gh ?_
      refine W_reg ?_
      refine O_call (fun v => .bool v) h (.inr rfl) (ys := []) (fun _ e => p12  _ e) (by kernel_rfl) (by kernel_rfl) rfl (fun v6 e_v6 h => ?_)
      refine O_p 1 ?_
      refine O_nil ?_
      refine Gh_e ⟨⟨166, [(3, .po 0 0), (4, .po 1 0), (5, .po 2 0), (6, .bool v6), (30, .bool w1)]⟩, [.lv 2 [.i a0.Actuators, .ro (a0.Steps.map cSStep)], .lv 2 [.i a1.Actuators, .ro (a1.Steps.map cSStep)], .lv 1 [.ro (a2.Travels.map cSTravel)]]⟩ ?_
      refine W_ret ?_
      replace h := Option.some.inj h; subst h
      exact Fin_free (l := [.bool v6]) (by kernel_rfl) (by kernel_rfl) rfl
    · replace h := fork_f c5 h
      refine W_skip ?_
      refine Gh_e ⟨⟨166, [(3, .po 0 0), (4, .po 1 0), (5, .po 2 0)]⟩, [.lv 2 [.i a0.Actuators, .ro (a0.Steps.map cSStep)], .lv 2 [.i a1.Actuators, .ro (a1.Steps.map cSStep)], .lv 1 [.ro (a2.Travels.map cSTravel)]]⟩ ?_
      refine W_seq ?_
      refine W_gh ?_
      refine W_drawW (L := 3) (by kernel_rfl) ?_
      refine WD_ps 6 (by kernel_rfl) ?_
      refine WD_op rfl rfl ?_
      refine O_bslr (C := (cL cSStep)) (l := ([a0.Steps, a1.Steps] : List (List SStep))) (okL okSStep).bel (by kernel_rfl) (by kernel_rfl) (by kernel_rfl) ?_
      refine O_nil ?_
      refine WD_op rfl (fp_call (ys := [.ro (([a0.Steps, a1.Steps] : List (List SStep)).map (cL cSStep))]) (by kernel_rfl) (bels_cons (ro_bel (okL okSStep).bel _) rfl)) ?_
      refine O_call (fun v => .ro (v.map cSStep)) h (.inr rfl) (ys := [.ro (([a0.Steps, a1.Steps] : List (List SStep)).map (cL cSStep))]) (fun _ e => p40 _ _ e) (by kernel_rfl) (by kernel_rfl) (bels_cons (ro_bel (okL okSStep).bel _) rfl) (fun v7 e_v7 h => ?_)
      refine O_nil ?_
      refine WD_ps 3 (by kernel_rfl) ?_
      refine WD_nil ?_
      refine ⟨by kernel_rfl, ?_⟩
      refine Gh_one (s1 := ⟨⟨166, [(3, .po 0 0), (4, .po 1 0), (5, .po 2 0), (7, .po 3 0)]⟩, [.lv 2 [.i a0.Actuators, .ro (a0.Steps.map cSStep)], .lv 2 [.i a1.Actuators, .ro (a1.Steps.map cSStep)], .lv 1 [.ro (a2.Travels.map cSTravel)], .lv 2 [.i a0.Actuators, .ro (v7.map cSStep)]]⟩) (by kernel_rfl) ?_
      refine Gh_trunc0 (by kernel_rfl) ?_
      refine Gh_one (s1 := ⟨⟨166, [(3, .po 0 0), (4, .po 1 0), (5, .po 2 0), (7, .po 3 0)]⟩, [.lv 2 [.i a0.Actuators, .ro (a0.Steps.map cSStep)], .lv 2 [.i a1.Actuators, .ro (a1.Steps.map cSStep)], .lv 1 [.ro (a2.Travels.map cSTravel)], .lv 2 [.i a0.Actuators, .ro (v7.map cSStep)]]⟩) (by kernel_rfl) ?_
      refine Gh_nil ?_
      refine W_seq ?_
      refine W_seq ?_
      refine W_joinS (fun v : Bool => ⟨⟨166, [(3, .po 0 0), (4, .po 1 0), (5, .po 2 0), (7, .po 3 0), (49, .bool v)]⟩, [.lv 2 [.i a0.Actuators, .ro (a0.Steps.map cSStep)], .lv 2 [.i a1.Actuators, .ro (a1.Steps.map cSStep)], .lv 1 [.ro (a2.Travels.map cSTravel)], .lv 2 [.i a0.Actuators, .ro (v7.map cSStep)]]⟩) h (fun w h => ?_) (fun w8 e_w8 h => ?_)
      · refine W_gh ?_
        refine W_reg ?_
        refine O_p 2 ?_
        refine O_call (fun v => .bool v) h (.inr rfl) (ys := [.agg (cSSequence (⟨a0.Actuators, v7⟩ : SSequence)), .agg (cSPlant a2)]) (fun _ e => p25 _ _ _ e) (by kernel_rfl) (by kernel_rfl) (bels_cons (okSSequence.bel _) (bels_cons (okSPlant.bel _) rfl)) (fun v9 e_v9 h => ?_)
        refine O_p 2 ?_
        refine O_fork (n := 45) (!v9) (by kernel_rfl) (fun c10 => ?_) (fun c10 => ?_)
        · replace h := fork_t c10 h
          refine O_p 4 ?_
          refine O_nil ?_
          refine Gh_e ⟨⟨166, [(3, .po 0 0), (4, .po 1 0), (5, .po 2 0), (7, .po 3 0), (49, .bool true)]⟩, [.lv 2 [.i a0.Actuators, .ro (a0.Steps.map cSStep)], .lv 2 [.i a1.Actuators, .ro (a1.Steps.map cSStep)], .lv 1 [.ro (a2.Travels.map cSTravel)], .lv 2 [.i a0.Actuators, .ro (v7.map cSStep)]]⟩ ?_
          replace h := Option.some.inj h; subst h
          show _ = _
          kernel_rfl
        · replace h := fork_f c10 h
          refine O_p 1 ?_
          refine O_call (fun v => .i v) h (.inr rfl) (ys := [.agg (cSSequence (⟨a0.Actuators, v7⟩ : SSequence))]) (fun _ e => p41 _ _ e) (by kernel_rfl) (by kernel_rfl) (bels_cons (okSSequence.bel _) rfl) (fun v11 e_v11 h => ?_)
          refine O_p 2 ?_
          refine O_nil ?_
          refine Gh_e ⟨⟨166, [(3, .po 0 0), (4, .po 1 0), (5, .po 2 0), (7, .po 3 0), (49, .bool (v11 != 0))]⟩, [.lv 2 [.i a0.Actuators, .ro (a0.Steps.map cSStep)], .lv 2 [.i a1.Actuators, .ro (a1.Steps.map cSStep)], .lv 1 [.ro (a2.Travels.map cSTravel)], .lv 2 [.i a0.Actuators, .ro (v7.map cSStep)]]⟩ ?_
          replace h := Option.some.inj h; subst h
          show _ = _
          kernel_rfl
      · refine W_gh ?_
        refine W_cond (c := w8) (by kernel_rfl) (fun c12 => ?_) (fun c12 => ?_)
        · replace h := fork_t c12 h
          refine W_seq ?_
          refine W_joinS (fun v : Bool => ⟨⟨166, [(3, .po 0 0), (4, .po 1 0), (5, .po 2 0), (6, .bool v), (49, .bool w8)]⟩, [.lv 2 [.i a0.Actuators, .ro (a0.Steps.map cSStep)], .lv 2 [.i a1.Actuators, .ro (a1.Steps.map cSStep)], .lv 1 [.ro (a2.Travels.map cSTravel)], .lv 2 [.i a0.Actuators, .ro (v7.map cSStep)]]⟩) h (fun w h => ?_) (fun w13 e_w13 h => ?_)
          · refine W_gh ?_
            refine W_reg ?_
            refine O_call (fun v => .bool v) h (.inr rfl) (ys := []) (fun _ e => p12  _ e) (by kernel_rfl) (by kernel_rfl) rfl (fun v14 e_v14 h => ?_)
            refine O_p 1 ?_
            refine O_fork (n := 51) v14 (by kernel_rfl) (fun c15 => ?_) (fun c15 => ?_)
            · replace h := fork_t c15 h
              refine O_p 1 ?_
              refine O_call (fun v => .i v) h (.inr rfl) (ys := [.agg (cSSequence (⟨a0.Actuators, v7⟩ : SSequence))]) (fun _ e => p42 _ _ e) (by kernel_rfl) (by kernel_rfl) (bels_cons (okSSequence.bel _) rfl) (fun v16 e_v16 h => ?_)
              refine O_p 2 ?_
              refine O_fork (n := 55) (v16 != 0) (by kernel_rfl) (fun c17 => ?_) (fun c17 => ?_)
              · replace h := fork_t c17 h
                refine O_p 6 ?_
                refine O_nil ?_
                refine Gh_e ⟨⟨166, [(3, .po 0 0), (4, .po 1 0), (5, .po 2 0), (6, .bool true), (49, .bool w8)]⟩, [.lv 2 [.i a0.Actuators, .ro (a0.Steps.map cSStep)], .lv 2 [.i a1.Actuators, .ro (a1.Steps.map cSStep)], .lv 1 [.ro (a2.Travels.map cSTravel)], .lv 2 [.i a0.Actuators, .ro (v7.map cSStep)]]⟩ ?_
                replace h := Option.some.inj h; subst h
                show _ = _
                kernel_rfl
              · replace h := fork_f c17 h
                refine O_p 1 ?_
                refine O_call (fun v => .i v) h (.inr rfl) (ys := [.agg (cSSequence (⟨a0.Actuators, v7⟩ : SSequence))]) (fun _ e => p41 _ _ e) (by kernel_rfl) (by kernel_rfl) (bels_cons (okSSequence.bel _) rfl) (fun v18 e_v18 h => ?_)
                refine O_p 4 ?_
                refine O_nil ?_
                refine Gh_e ⟨⟨166, [(3, .po 0 0), (4, .po 1 0), (5, .po 2 0), (6, .bool (v18 == 0)), (49, .bool w8)]⟩, [.lv 2 [.i a0.Actuators, .ro (a0.Steps.map cSStep)], .lv 2 [.i a1.Actuators, .ro (a1.Steps.map cSStep)], .lv 1 [.ro (a2.Travels.map cSTravel)], .lv 2 [.i a0.Actuators, .ro (v7.map cSStep)]]⟩ ?_
                replace h := Option.some.inj h; subst h
                show _ = _
                kernel_rfl
            · replace h := fork_f c15 h
              refine O_p 10 ?_
              refine O_nil ?_
              refine Gh_e ⟨⟨166, [(3, .po 0 0), (4, .po 1 0), (5, .po 2 0), (6, .bool false), (49, .bool w8)]⟩, [.lv 2 [.i a0.Actuators, .ro (a0.Steps.map cSStep)], .lv 2 [.i a1.Actuators, .ro (a1.Steps.map cSStep)], .lv 1 [.ro (a2.Travels.map cSTravel)], .lv 2 [.i a0.Actuators, .ro (v7.map cSStep)]]⟩ ?_
              replace h := Option.some.inj h; subst h
              show _ = _
              kernel_rfl
          · refine W_ret ?_
            replace h := Option.some.inj h; subst h
            exact Fin_free (l := [.bool w13]) (by kernel_rfl) (by kernel_rfl) rfl
        · replace h := fork_f c12 h
          refine W_skip ?_
          refine Gh_e ⟨⟨166, [(3, .po 0 0), (4, .po 1 0), (5, .po 2 0), (7, .po 3 0)]⟩, [.lv 2 [.i a0.Actuators, .ro (a0.Steps.map cSStep)], .lv 2 [.i a1.Actuators, .ro (a1.Steps.map cSStep)], .lv 1 [.ro (a2.Travels.map cSTravel)], .lv 2 [.i a0.Actuators, .ro (v7.map cSStep)]]⟩ ?_
          refine W_seq ?_
          refine W_gh ?_
          refine W_reg ?_
          refine O_p 2 ?_
          refine O_call (fun v => .tup [.agg [.i v.1.Low, .i v.1.High], .i v.2]) h (.inr rfl) (ys := [.agg (cSSequence a0), .agg (cSPlant a2)]) (fun _ e => p15 _ _ _ e) (by kernel_rfl) (by kernel_rfl) (bels_cons (okSSequence.bel _) (bels_cons (okSPlant.bel _) rfl)) (fun v19 e_v19 h => ?_)
          refine O_p 6 ?_
          refine O_nil ?_
          refine Gh_e ⟨⟨166, [(3, .po 0 0), (4, .po 1 0), (5, .po 2 0), (7, .po 3 0), (8, .po 4 0), (9, .i v19.2)]⟩, [.lv 2 [.i a0.Actuators, .ro (a0.Steps.map cSStep)], .lv 2 [.i a1.Actuators, .ro (a1.Steps.map cSStep)], .lv 1 [.ro (a2.Travels.map cSTravel)], .lv 2 [.i a0.Actuators, .ro (v7.map cSStep)], .lv 2 [.i v19.1.Low, .i v19.1.High]]⟩ ?_
          refine W_seq ?_
          refine W_gh ?_
          refine W_reg ?_
          refine O_p 2 ?_
          refine O_call (fun v => .tup [.agg [.i v.1.Low, .i v.1.High], .i v.2]) h (.inr rfl) (ys := [.agg (cSSequence a1), .agg (cSPlant a2)]) (fun _ e => p15 _ _ _ e) (by kernel_rfl) (by kernel_rfl) (bels_cons (okSSequence.bel _) (bels_cons (okSPlant.bel _) rfl)) (fun v20 e_v20 h => ?_)
          refine O_p 6 ?_
          refine O_nil ?_
          refine Gh_e ⟨⟨166, [(3, .po 0 0), (4, .po 1 0), (5, .po 2 0), (7, .po 3 0), (8, .po 4 0), (9, .i v19.2), (10, .po 5 0), (11, .i v20.2)]⟩, [.lv 2 [.i a0.Actuators, .ro (a0.Steps.map cSStep)], .lv 2 [.i a1.Actuators, .ro (a1.Steps.map cSStep)], .lv 1 [.ro (a2.Travels.map cSTravel)], .lv 2 [.i a0.Actuators, .ro (v7.map cSStep)], .lv 2 [.i v19.1.Low, .i v19.1.High], .lv 2 [.i v20.1.Low, .i v20.1.High]]⟩ ?_
          refine W_seq ?_
          refine W_gh ?_
          refine W_reg ?_
          refine O_p 2 ?_
          refine O_call (fun v => .tup [.agg [.i v.1.Low, .i v.1.High], .i v.2]) h (.inr rfl) (ys := [.agg (cSSequence (⟨a0.Actuators, v7⟩ : SSequence)), .agg (cSPlant a2)]) (fun _ e => p15 _ _ _ e) (by kernel_rfl) (by kernel_rfl) (bels_cons (okSSequence.bel _) (bels_cons (okSPlant.bel _) rfl)) (fun v21 e_v21 h => ?_)
          refine O_p 6 ?_
          refine O_nil ?_
          refine Gh_e ⟨⟨166, [(3, .po 0 0), (4, .po 1 0), (5, .po 2 0), (7, .po 3 0), (8, .po 4 0), (9, .i v19.2), (10, .po 5 0), (11, .i v20.2), (12, .po 6 0), (13, .i v21.2)]⟩, [.lv 2 [.i a0.Actuators, .ro (a0.Steps.map cSStep)], .lv 2 [.i a1.Actuators, .ro (a1.Steps.map cSStep)], .lv 1 [.ro (a2.Travels.map cSTravel)], .lv 2 [.i a0.Actuators, .ro (v7.map cSStep)], .lv 2 [.i v19.1.Low, .i v19.1.High], .lv 2 [.i v20.1.Low, .i v20.1.High], .lv 2 [.i v21.1.Low, .i v21.1.High]]⟩ ?_
          refine W_seq ?_
          refine W_seq ?_
          refine W_cut ⟨⟨166, [(3, .po 0 0), (4, .po 1 0), (5, .po 2 0), (7, .po 3 0), (12, .po 6 0), (104, .bool (((addI .i64 (addI .i64 v19.2 v20.2) v21.2) != 0) || ((v21.1.Low != (addI .i64 v19.1.Low v20.1.Low)) || (v21.1.High != (addI .i64 v19.1.High v20.1.High)))))]⟩, [.lv 2 [.i a0.Actuators, .ro (a0.Steps.map cSStep)], .lv 2 [.i a1.Actuators, .ro (a1.Steps.map cSStep)], .lv 1 [.ro (a2.Travels.map cSTravel)], .lv 2 [.i a0.Actuators, .ro (v7.map cSStep)], .lv 2 [.i v19.1.Low, .i v19.1.High], .lv 2 [.i v20.1.Low, .i v20.1.High], .lv 2 [.i v21.1.Low, .i v21.1.High]]⟩ ?_ ?_
          · generalize e_g22 : (((addI .i64 (addI .i64 v19.2 v20.2) v21.2) != 0) || ((v21.1.Low != (addI .i64 v19.1.Low v20.1.Low)) || (v21.1.High != (addI .i64 v19.1.High v20.1.High)))) = g22
            refine W_gh ?_
            refine W_reg ?_
            refine O_p 7 ?_
            refine O_fork (n := 85) ((addI .i64 (addI .i64 v19.2 v20.2) v21.2) != 0) (by kernel_rfl) (fun c23 => ?_) (fun c23 => ?_)
            · skip
              refine O_p 19 ?_
              refine O_nil ?_
              refine Gh_e ⟨⟨166, [(3, .po 0 0), (4, .po 1 0), (5, .po 2 0), (7, .po 3 0), (12, .po 6 0), (104, .bool true)]⟩, [.lv 2 [.i a0.Actuators, .ro (a0.Steps.map cSStep)], .lv 2 [.i a1.Actuators, .ro (a1.Steps.map cSStep)], .lv 1 [.ro (a2.Travels.map cSTravel)], .lv 2 [.i a0.Actuators, .ro (v7.map cSStep)], .lv 2 [.i v19.1.Low, .i v19.1.High], .lv 2 [.i v20.1.Low, .i v20.1.High], .lv 2 [.i v21.1.Low, .i v21.1.High]]⟩ ?_
              have q := e_g22; simp only [c5, c12, c23, cond_true, cond_false, Bool.true_and, Bool.false_and, Bool.true_or, Bool.false_or] at q; subst q
              show _ = _
              kernel_rfl
            · skip
              refine O_p 10 ?_
              refine O_fork (n := 95) (v21.1.Low != (addI .i64 v19.1.Low v20.1.Low)) (by kernel_rfl) (fun c24 => ?_) (fun c24 => ?_)
              · skip
                refine O_p 9 ?_
                refine O_nil ?_
                refine Gh_e ⟨⟨166, [(3, .po 0 0), (4, .po 1 0), (5, .po 2 0), (7, .po 3 0), (12, .po 6 0), (104, .bool true)]⟩, [.lv 2 [.i a0.Actuators, .ro (a0.Steps.map cSStep)], .lv 2 [.i a1.Actuators, .ro (a1.Steps.map cSStep)], .lv 1 [.ro (a2.Travels.map cSTravel)], .lv 2 [.i a0.Actuators, .ro (v7.map cSStep)], .lv 2 [.i v19.1.Low, .i v19.1.High], .lv 2 [.i v20.1.Low, .i v20.1.High], .lv 2 [.i v21.1.Low, .i v21.1.High]]⟩ ?_
                have q := e_g22; simp only [c5, c12, c23, c24, cond_true, cond_false, Bool.true_and, Bool.false_and, Bool.true_or, Bool.false_or] at q; subst q
                show _ = _
                kernel_rfl
              · skip
                refine O_p 9 ?_
                refine O_nil ?_
                refine Gh_e ⟨⟨166, [(3, .po 0 0), (4, .po 1 0), (5, .po 2 0), (7, .po 3 0), (12, .po 6 0), (104, .bool (v21.1.High != (addI .i64 v19.1.High v20.1.High)))]⟩, [.lv 2 [.i a0.Actuators, .ro (a0.Steps.map cSStep)], .lv 2 [.i a1.Actuators, .ro (a1.Steps.map cSStep)], .lv 1 [.ro (a2.Travels.map cSTravel)], .lv 2 [.i a0.Actuators, .ro (v7.map cSStep)], .lv 2 [.i v19.1.Low, .i v19.1.High], .lv 2 [.i v20.1.Low, .i v20.1.High], .lv 2 [.i v21.1.Low, .i v21.1.High]]⟩ ?_
                have q := e_g22; simp only [c5, c12, c23, c24, cond_true, cond_false, Bool.true_and, Bool.false_and, Bool.true_or, Bool.false_or] at q; subst q
                show _ = _
                kernel_rfl
          · refine W_gh ?_
            refine W_cond (c := (((addI .i64 (addI .i64 v19.2 v20.2) v21.2) != 0) || ((v21.1.Low != (addI .i64 v19.1.Low v20.1.Low)) || (v21.1.High != (addI .i64 v19.1.High v20.1.High))))) (by kernel_rfl) (fun c25 => ?_) (fun c25 => ?_)
            · replace h := fork_t c25 h
              refine W_seq ?_
              refine W_reg ?_
              refine O_p 1 ?_
              refine O_nil ?_
              refine W_ret ?_
              replace h := Option.some.inj h; subst h
              exact Fin_free (l := [.bool false]) (by kernel_rfl) (by kernel_rfl) rfl
            · replace h := fork_f c25 h
              refine W_skip ?_
              refine Gh_e ⟨⟨166, [(3, .po 0 0), (4, .po 1 0), (5, .po 2 0), (7, .po 3 0), (12, .po 6 0)]⟩, [.lv 2 [.i a0.Actuators, .ro (a0.Steps.map cSStep)], .lv 2 [.i a1.Actuators, .ro (a1.Steps.map cSStep)], .lv 1 [.ro (a2.Travels.map cSTravel)], .lv 2 [.i a0.Actuators, .ro (v7.map cSStep)], .lv 2 [.i v19.1.Low, .i v19.1.High], .lv 2 [.i v20.1.Low, .i v20.1.High], .lv 2 [.i v21.1.Low, .i v21.1.High]]⟩ ?_
              refine W_seq ?_
              refine W_seq ?_
              refine W_gh ?_
              refine W_reg ?_
              refine O_p 3 ?_
              refine O_nil ?_
              refine Gh_e ⟨⟨166, [(3, .po 0 0), (4, .po 1 0), (5, .po 2 0), (7, .po 3 0), (12, .po 6 0), (106, .i a0.Actuators), (107, .i 0)]⟩, [.lv 2 [.i a0.Actuators, .ro (a0.Steps.map cSStep)], .lv 2 [.i a1.Actuators, .ro (a1.Steps.map cSStep)], .lv 1 [.ro (a2.Travels.map cSTravel)], .lv 2 [.i a0.Actuators, .ro (v7.map cSStep)], .lv 2 [.i v19.1.Low, .i v19.1.High], .lv 2 [.i v20.1.Low, .i v20.1.High], .lv 2 [.i v21.1.Low, .i v21.1.High]]⟩ ?_
              refine W_loop (fun s26 : Int => ⟨⟨166, [(3, .po 0 0), (4, .po 1 0), (5, .po 2 0), (7, .po 3 0), (12, .po 6 0), (106, .i a0.Actuators), (107, .i s26)]⟩, [.lv 2 [.i a0.Actuators, .ro (a0.Steps.map cSStep)], .lv 2 [.i a1.Actuators, .ro (a1.Steps.map cSStep)], .lv 1 [.ro (a2.Travels.map cSTravel)], .lv 2 [.i a0.Actuators, .ro (v7.map cSStep)], .lv 2 [.i v19.1.Low, .i v19.1.High], .lv 2 [.i v20.1.Low, .i v20.1.High], .lv 2 [.i v21.1.Low, .i v21.1.High]]⟩) (fun w27 : Unit => ⟨⟨166, []⟩, [.lv 2 [.i a0.Actuators, .ro (a0.Steps.map cSStep)], .lv 2 [.i a1.Actuators, .ro (a1.Steps.map cSStep)], .lv 1 [.ro (a2.Travels.map cSTravel)], .lv 2 [.i a0.Actuators, .ro (v7.map cSStep)], .lv 2 [.i v19.1.Low, .i v19.1.High], .lv 2 [.i v20.1.Low, .i v20.1.High], .lv 2 [.i v21.1.Low, .i v21.1.High]]⟩) h (by kernel_rfl) (fun s26 c h => ?_) (fun w27 h => ?_)
              · refine W_gh ?_
                refine W_seq ?_
                refine W_reg ?_
                refine O_p 1 ?_
                refine O_nil ?_
                refine W_seq ?_
                refine W_gh ?_
                refine W_cond (c := (decide (s26 < a0.Actuators))) (by kernel_rfl) (fun c28 => ?_) (fun c28 => ?_)
                · replace h := fork_t c28 h
                  refine W_skip ?_
                  refine Gh_e ⟨⟨166, [(3, .po 0 0), (4, .po 1 0), (5, .po 2 0), (7, .po 3 0), (12, .po 6 0), (106, .i a0.Actuators), (107, .i s26)]⟩, [.lv 2 [.i a0.Actuators, .ro (a0.Steps.map cSStep)], .lv 2 [.i a1.Actuators, .ro (a1.Steps.map cSStep)], .lv 1 [.ro (a2.Travels.map cSTravel)], .lv 2 [.i a0.Actuators, .ro (v7.map cSStep)], .lv 2 [.i v19.1.Low, .i v19.1.High], .lv 2 [.i v20.1.Low, .i v20.1.High], .lv 2 [.i v21.1.Low, .i v21.1.High]]⟩ ?_
                  refine W_seq ?_
                  refine W_gh ?_
                  refine W_block ?_
                  refine W_seq ?_
                  refine W_gh ?_
                  refine W_reg ?_
                  refine O_p 2 ?_
                  refine O_nil ?_
                  refine Gh_e ⟨⟨166, [(3, .po 0 0), (4, .po 1 0), (5, .po 2 0), (7, .po 3 0), (12, .po 6 0), (14, .i s26), (106, .i a0.Actuators), (107, .i s26)]⟩, [.lv 2 [.i a0.Actuators, .ro (a0.Steps.map cSStep)], .lv 2 [.i a1.Actuators, .ro (a1.Steps.map cSStep)], .lv 1 [.ro (a2.Travels.map cSTravel)], .lv 2 [.i a0.Actuators, .ro (v7.map cSStep)], .lv 2 [.i v19.1.Low, .i v19.1.High], .lv 2 [.i v20.1.Low, .i v20.1.High], .lv 2 [.i v21.1.Low, .i v21.1.High]]⟩ ?_
                  refine W_seq ?_
                  refine W_gh ?_
                  refine W_reg ?_
                  refine O_p 3 ?_
                  refine O_call (fun v => .tup [.agg [.i v.1.Low, .i v.1.High], .i v.2]) h (.inr rfl) (ys := [.agg (cSSequence a0), .agg (cSPlant a2), .i s26]) (fun _ e => p21 _ _ _ _ e) (by kernel_rfl) (by kernel_rfl) (bels_cons (okSSequence.bel _) (bels_cons (okSPlant.bel _) (bels_cons rfl rfl))) (fun v29 e_v29 h => ?_)
                  refine O_p 6 ?_
                  refine O_nil ?_
                  refine Gh_e ⟨⟨166, [(3, .po 0 0), (4, .po 1 0), (5, .po 2 0), (7, .po 3 0), (12, .po 6 0), (14, .i s26), (15, .po 7 0), (16, .i v29.2), (106, .i a0.Actuators), (107, .i s26)]⟩, [.lv 2 [.i a0.Actuators, .ro (a0.Steps.map cSStep)], .lv 2 [.i a1.Actuators, .ro (a1.Steps.map cSStep)], .lv 1 [.ro (a2.Travels.map cSTravel)], .lv 2 [.i a0.Actuators, .ro (v7.map cSStep)], .lv 2 [.i v19.1.Low, .i v19.1.High], .lv 2 [.i v20.1.Low, .i v20.1.High], .lv 2 [.i v21.1.Low, .i v21.1.High], .lv 2 [.i v29.1.Low, .i v29.1.High]]⟩ ?_
                  refine W_seq ?_
                  refine W_gh ?_
                  refine W_reg ?_
                  refine O_p 3 ?_
                  refine O_call (fun v => .tup [.agg [.i v.1.Low, .i v.1.High], .i v.2]) h (.inr rfl) (ys := [.agg (cSSequence a1), .agg (cSPlant a2), .i s26]) (fun _ e => p21 _ _ _ _ e) (by kernel_rfl) (by kernel_rfl) (bels_cons (okSSequence.bel _) (bels_cons (okSPlant.bel _) (bels_cons rfl rfl))) (fun v30 e_v30 h => ?_)
                  refine O_p 6 ?_
                  refine O_nil ?_
                  refine Gh_e ⟨⟨166, [(3, .po 0 0), (4, .po 1 0), (5, .po 2 0), (7, .po 3 0), (12, .po 6 0), (14, .i s26), (15, .po 7 0), (16, .i v29.2), (17, .po 8 0), (18, .i v30.2), (106, .i a0.Actuators), (107, .i s26)]⟩, [.lv 2 [.i a0.Actuators, .ro (a0.Steps.map cSStep)], .lv 2 [.i a1.Actuators, .ro (a1.Steps.map cSStep)], .lv 1 [.ro (a2.Travels.map cSTravel)], .lv 2 [.i a0.Actuators, .ro (v7.map cSStep)], .lv 2 [.i v19.1.Low, .i v19.1.High], .lv 2 [.i v20.1.Low, .i v20.1.High], .lv 2 [.i v21.1.Low, .i v21.1.High], .lv 2 [.i v29.1.Low, .i v29.1.High], .lv 2 [.i v30.1.Low, .i v30.1.High]]⟩ ?_
                  refine W_seq ?_
                  refine W_gh ?_
                  refine W_reg ?_
                  refine O_p 3 ?_
                  refine O_call (fun v => .tup [.agg [.i v.1.Low, .i v.1.High], .i v.2]) h (.inr rfl) (ys := [.agg (cSSequence (⟨a0.Actuators, v7⟩ : SSequence)), .agg (cSPlant a2), .i s26]) (fun _ e => p21 _ _ _ _ e) (by kernel_rfl) (by kernel_rfl) (bels_cons (okSSequence.bel _) (bels_cons (okSPlant.bel _) (bels_cons rfl rfl))) (fun v31 e_v31 h => ?_)
                  refine O_p 6 ?_
                  refine O_nil ?_
                  refine Gh_e ⟨⟨166, [(3, .po 0 0), (4, .po 1 0), (5, .po 2 0), (7, .po 3 0), (12, .po 6 0), (15, .po 7 0), (16, .i v29.2), (17, .po 8 0), (18, .i v30.2), (19, .po 9 0), (20, .i v31.2), (106, .i a0.Actuators), (107, .i s26)]⟩, [.lv 2 [.i a0.Actuators, .ro (a0.Steps.map cSStep)], .lv 2 [.i a1.Actuators, .ro (a1.Steps.map cSStep)], .lv 1 [.ro (a2.Travels.map cSTravel)], .lv 2 [.i a0.Actuators, .ro (v7.map cSStep)], .lv 2 [.i v19.1.Low, .i v19.1.High], .lv 2 [.i v20.1.Low, .i v20.1.High], .lv 2 [.i v21.1.Low, .i v21.1.High], .lv 2 [.i v29.1.Low, .i v29.1.High], .lv 2 [.i v30.1.Low, .i v30.1.High], .lv 2 [.i v31.1.Low, .i v31.1.High]]⟩ ?_
                  refine W_seq ?_
                  refine W_cut ⟨⟨166, [(3, .po 0 0), (4, .po 1 0), (5, .po 2 0), (7, .po 3 0), (12, .po 6 0), (106, .i a0.Actuators), (107, .i s26), (163, .bool (((addI .i64 (addI .i64 v29.2 v30.2) v31.2) != 0) || ((v31.1.Low != (addI .i64 v29.1.Low v30.1.Low)) || ((v31.1.High != (addI .i64 v29.1.High v30.1.High)) || (decide (v31.1.High > v21.1.High))))))]⟩, [.lv 2 [.i a0.Actuators, .ro (a0.Steps.map cSStep)], .lv 2 [.i a1.Actuators, .ro (a1.Steps.map cSStep)], .lv 1 [.ro (a2.Travels.map cSTravel)], .lv 2 [.i a0.Actuators, .ro (v7.map cSStep)], .lv 2 [.i v19.1.Low, .i v19.1.High], .lv 2 [.i v20.1.Low, .i v20.1.High], .lv 2 [.i v21.1.Low, .i v21.1.High], .lv 2 [.i v29.1.Low, .i v29.1.High], .lv 2 [.i v30.1.Low, .i v30.1.High], .lv 2 [.i v31.1.Low, .i v31.1.High]]⟩ ?_ ?_
                  · generalize e_g32 : (((addI .i64 (addI .i64 v29.2 v30.2) v31.2) != 0) || ((v31.1.Low != (addI .i64 v29.1.Low v30.1.Low)) || ((v31.1.High != (addI .i64 v29.1.High v30.1.High)) || (decide (v31.1.High > v21.1.High))))) = g32
                    refine W_gh ?_
                    refine W_reg ?_
                    refine O_p 7 ?_
                    refine O_fork (n := 137) ((addI .i64 (addI .i64 v29.2 v30.2) v31.2) != 0) (by kernel_rfl) (fun c33 => ?_) (fun c33 => ?_)
                    · skip
                      refine O_p 26 ?_
                      refine O_nil ?_
                      refine Gh_e ⟨⟨166, [(3, .po 0 0), (4, .po 1 0), (5, .po 2 0), (7, .po 3 0), (12, .po 6 0), (106, .i a0.Actuators), (107, .i s26), (163, .bool true)]⟩, [.lv 2 [.i a0.Actuators, .ro (a0.Steps.map cSStep)], .lv 2 [.i a1.Actuators, .ro (a1.Steps.map cSStep)], .lv 1 [.ro (a2.Travels.map cSTravel)], .lv 2 [.i a0.Actuators, .ro (v7.map cSStep)], .lv 2 [.i v19.1.Low, .i v19.1.High], .lv 2 [.i v20.1.Low, .i v20.1.High], .lv 2 [.i v21.1.Low, .i v21.1.High], .lv 2 [.i v29.1.Low, .i v29.1.High], .lv 2 [.i v30.1.Low, .i v30.1.High], .lv 2 [.i v31.1.Low, .i v31.1.High]]⟩ ?_
                      have q := e_g32; simp only [c5, c12, c25, c28, c33, cond_true, cond_false, Bool.true_and, Bool.false_and, Bool.true_or, Bool.false_or] at q; subst q
                      show _ = _
                      kernel_rfl
                    · skip
                      refine O_p 10 ?_
                      refine O_fork (n := 147) (v31.1.Low != (addI .i64 v29.1.Low v30.1.Low)) (by kernel_rfl) (fun c34 => ?_) (fun c34 => ?_)
                      · skip
                        refine O_p 16 ?_
                        refine O_nil ?_
                        refine Gh_e ⟨⟨166, [(3, .po 0 0), (4, .po 1 0), (5, .po 2 0), (7, .po 3 0), (12, .po 6 0), (106, .i a0.Actuators), (107, .i s26), (163, .bool true)]⟩, [.lv 2 [.i a0.Actuators, .ro (a0.Steps.map cSStep)], .lv 2 [.i a1.Actuators, .ro (a1.Steps.map cSStep)], .lv 1 [.ro (a2.Travels.map cSTravel)], .lv 2 [.i a0.Actuators, .ro (v7.map cSStep)], .lv 2 [.i v19.1.Low, .i v19.1.High], .lv 2 [.i v20.1.Low, .i v20.1.High], .lv 2 [.i v21.1.Low, .i v21.1.High], .lv 2 [.i v29.1.Low, .i v29.1.High], .lv 2 [.i v30.1.Low, .i v30.1.High], .lv 2 [.i v31.1.Low, .i v31.1.High]]⟩ ?_
                        have q := e_g32; simp only [c5, c12, c25, c28, c33, c34, cond_true, cond_false, Bool.true_and, Bool.false_and, Bool.true_or, Bool.false_or] at q; subst q
                        show _ = _
                        kernel_rfl
                      · skip
                        refine O_p 10 ?_
                        refine O_fork (n := 157) (v31.1.High != (addI .i64 v29.1.High v30.1.High)) (by kernel_rfl) (fun c35 => ?_) (fun c35 => ?_)
                        · skip
                          refine O_p 6 ?_
                          refine O_nil ?_
                          refine Gh_e ⟨⟨166, [(3, .po 0 0), (4, .po 1 0), (5, .po 2 0), (7, .po 3 0), (12, .po 6 0), (106, .i a0.Actuators), (107, .i s26), (163, .bool true)]⟩, [.lv 2 [.i a0.Actuators, .ro (a0.Steps.map cSStep)], .lv 2 [.i a1.Actuators, .ro (a1.Steps.map cSStep)], .lv 1 [.ro (a2.Travels.map cSTravel)], .lv 2 [.i a0.Actuators, .ro (v7.map cSStep)], .lv 2 [.i v19.1.Low, .i v19.1.High], .lv 2 [.i v20.1.Low, .i v20.1.High], .lv 2 [.i v21.1.Low, .i v21.1.High], .lv 2 [.i v29.1.Low, .i v29.1.High], .lv 2 [.i v30.1.Low, .i v30.1.High], .lv 2 [.i v31.1.Low, .i v31.1.High]]⟩ ?_
                          have q := e_g32; simp only [c5, c12, c25, c28, c33, c34, c35, cond_true, cond_false, Bool.true_and, Bool.false_and, Bool.true_or, Bool.false_or] at q; subst q
                          show _ = _
                          kernel_rfl
                        · skip
                          refine O_p 6 ?_
                          refine O_nil ?_
                          refine Gh_e ⟨⟨166, [(3, .po 0 0), (4, .po 1 0), (5, .po 2 0), (7, .po 3 0), (12, .po 6 0), (106, .i a0.Actuators), (107, .i s26), (163, .bool (decide (v31.1.High > v21.1.High)))]⟩, [.lv 2 [.i a0.Actuators, .ro (a0.Steps.map cSStep)], .lv 2 [.i a1.Actuators, .ro (a1.Steps.map cSStep)], .lv 1 [.ro (a2.Travels.map cSTravel)], .lv 2 [.i a0.Actuators, .ro (v7.map cSStep)], .lv 2 [.i v19.1.Low, .i v19.1.High], .lv 2 [.i v20.1.Low, .i v20.1.High], .lv 2 [.i v21.1.Low, .i v21.1.High], .lv 2 [.i v29.1.Low, .i v29.1.High], .lv 2 [.i v30.1.Low, .i v30.1.High], .lv 2 [.i v31.1.Low, .i v31.1.High]]⟩ ?_
                          have q := e_g32; simp only [c5, c12, c25, c28, c33, c34, c35, cond_true, cond_false, Bool.true_and, Bool.false_and, Bool.true_or, Bool.false_or] at q; subst q
                          show _ = _
                          kernel_rfl
                  · refine W_gh ?_
                    refine W_cond (c := (((addI .i64 (addI .i64 v29.2 v30.2) v31.2) != 0) || ((v31.1.Low != (addI .i64 v29.1.Low v30.1.Low)) || ((v31.1.High != (addI .i64 v29.1.High v30.1.High)) || (decide (v31.1.High > v21.1.High)))))) (by kernel_rfl) (fun c36 => ?_) (fun c36 => ?_)
                    · replace h := fork_t c36 h
                      refine W_seq ?_
                      refine W_reg ?_
                      refine O_p 1 ?_
                      refine O_nil ?_
                      refine W_ret ?_
                      replace h := Option.some.inj h; subst h
                      refine ⟨_, rfl, fun h => ?_⟩
                      replace h := Option.some.inj h; subst h
                      exact Fin_free (l := [.bool false]) (by kernel_rfl) (by kernel_rfl) rfl
                    · replace h := fork_f c36 h
                      refine W_skip ?_
                      refine Gh_e ⟨⟨166, [(3, .po 0 0), (4, .po 1 0), (5, .po 2 0), (7, .po 3 0), (12, .po 6 0), (106, .i a0.Actuators), (107, .i s26)]⟩, [.lv 2 [.i a0.Actuators, .ro (a0.Steps.map cSStep)], .lv 2 [.i a1.Actuators, .ro (a1.Steps.map cSStep)], .lv 1 [.ro (a2.Travels.map cSTravel)], .lv 2 [.i a0.Actuators, .ro (v7.map cSStep)], .lv 2 [.i v19.1.Low, .i v19.1.High], .lv 2 [.i v20.1.Low, .i v20.1.High], .lv 2 [.i v21.1.Low, .i v21.1.High], .lv 2 [.i v29.1.Low, .i v29.1.High], .lv 2 [.i v30.1.Low, .i v30.1.High], .lv 2 [.i v31.1.Low, .i v31.1.High]]⟩ ?_
                      refine Gh_one (s1 := ⟨⟨166, [(3, .po 0 0), (4, .po 1 0), (5, .po 2 0), (7, .po 3 0), (12, .po 6 0), (106, .i a0.Actuators), (107, .i s26)]⟩, [.lv 2 [.i a0.Actuators, .ro (a0.Steps.map cSStep)], .lv 2 [.i a1.Actuators, .ro (a1.Steps.map cSStep)], .lv 1 [.ro (a2.Travels.map cSTravel)], .lv 2 [.i a0.Actuators, .ro (v7.map cSStep)], .lv 2 [.i v19.1.Low, .i v19.1.High], .lv 2 [.i v20.1.Low, .i v20.1.High], .lv 2 [.i v21.1.Low, .i v21.1.High], .lv 2 [.i v29.1.Low, .i v29.1.High], .lv 2 [.i v30.1.Low, .i v30.1.High], .lv 2 [.i v31.1.Low, .i v31.1.High]]⟩) (by kernel_rfl) ?_
                      refine Gh_at (s1 := ⟨⟨166, [(3, .po 0 0), (4, .po 1 0), (5, .po 2 0), (7, .po 3 0), (12, .po 6 0), (106, .i a0.Actuators), (107, .i s26)]⟩, [.lv 2 [.i a0.Actuators, .ro (a0.Steps.map cSStep)], .lv 2 [.i a1.Actuators, .ro (a1.Steps.map cSStep)], .lv 1 [.ro (a2.Travels.map cSTravel)], .lv 2 [.i a0.Actuators, .ro (v7.map cSStep)], .lv 2 [.i v19.1.Low, .i v19.1.High], .lv 2 [.i v20.1.Low, .i v20.1.High], .lv 2 [.i v21.1.Low, .i v21.1.High], .lv 2 [.i v29.1.Low, .i v29.1.High], .lv 2 [.i v30.1.Low, .i v30.1.High], .lv 2 [.i v31.1.Low, .i v31.1.High]]⟩) (by kernel_rfl) ?_
                      refine Gh_trunc (s1 := ⟨⟨166, [(3, .po 0 0), (4, .po 1 0), (5, .po 2 0), (7, .po 3 0), (12, .po 6 0), (106, .i a0.Actuators), (107, .i s26)]⟩, [.lv 2 [.i a0.Actuators, .ro (a0.Steps.map cSStep)], .lv 2 [.i a1.Actuators, .ro (a1.Steps.map cSStep)], .lv 1 [.ro (a2.Travels.map cSTravel)], .lv 2 [.i a0.Actuators, .ro (v7.map cSStep)], .lv 2 [.i v19.1.Low, .i v19.1.High], .lv 2 [.i v20.1.Low, .i v20.1.High], .lv 2 [.i v21.1.Low, .i v21.1.High]]⟩) (by kernel_rfl) (tb_ref rfl (tb_ref rfl (tb_ref rfl (tb_ref rfl (tb_ref rfl (tb_free rfl (tb_free rfl rfl))))))) (H1 := [.lv 2 [.i a0.Actuators, .ro (a0.Steps.map cSStep)], .lv 2 [.i a1.Actuators, .ro (a1.Steps.map cSStep)], .lv 1 [.ro (a2.Travels.map cSTravel)], .lv 2 [.i a0.Actuators, .ro (v7.map cSStep)], .lv 2 [.i v19.1.Low, .i v19.1.High], .lv 2 [.i v20.1.Low, .i v20.1.High], .lv 2 [.i v21.1.Low, .i v21.1.High]]) (by kernel_rfl) (ob_boxn (bn_free rfl (bn_free (ro_bel okSStep.bel _) rfl)) (ob_boxn (bn_free rfl (bn_free (ro_bel okSStep.bel _) rfl)) (ob_boxn (bn_free (ro_bel okSTravel.bel _) rfl) (ob_boxn (bn_free rfl (bn_free (ro_bel okSStep.bel _) rfl)) (ob_boxn (bn_free rfl (bn_free rfl rfl)) (ob_boxn (bn_free rfl (bn_free rfl rfl)) (ob_boxn (bn_free rfl (bn_free rfl rfl)) rfl))))))) (by kernel_rfl) ?_
                      refine Gh_nil ?_
                      refine W_gh ?_
                      refine W_reg ?_
                      refine O_p 2 ?_
                      refine O_nil ?_
                      refine Gh_e ⟨⟨166, [(3, .po 0 0), (4, .po 1 0), (5, .po 2 0), (7, .po 3 0), (12, .po 6 0), (106, .i a0.Actuators), (107, .i (addI .i64 s26 1))]⟩, [.lv 2 [.i a0.Actuators, .ro (a0.Steps.map cSStep)], .lv 2 [.i a1.Actuators, .ro (a1.Steps.map cSStep)], .lv 1 [.ro (a2.Travels.map cSTravel)], .lv 2 [.i a0.Actuators, .ro (v7.map cSStep)], .lv 2 [.i v19.1.Low, .i v19.1.High], .lv 2 [.i v20.1.Low, .i v20.1.High], .lv 2 [.i v21.1.Low, .i v21.1.High]]⟩ ?_
                      refine Gh_one (s1 := ⟨⟨166, [(3, .po 0 0), (4, .po 1 0), (5, .po 2 0), (7, .po 3 0), (12, .po 6 0), (106, .i a0.Actuators), (107, .i (addI .i64 s26 1))]⟩, [.lv 2 [.i a0.Actuators, .ro (a0.Steps.map cSStep)], .lv 2 [.i a1.Actuators, .ro (a1.Steps.map cSStep)], .lv 1 [.ro (a2.Travels.map cSTravel)], .lv 2 [.i a0.Actuators, .ro (v7.map cSStep)], .lv 2 [.i v19.1.Low, .i v19.1.High], .lv 2 [.i v20.1.Low, .i v20.1.High], .lv 2 [.i v21.1.Low, .i v21.1.High]]⟩) (by kernel_rfl) ?_
                      refine Gh_trunc0 (by kernel_rfl) ?_
                      refine Gh_nil ?_
                      replace h := Option.some.inj h; subst h
                      exact ⟨_, rfl, by kernel_rfl⟩
                · replace h := fork_f c28 h
                  refine W_exit ?_
                  refine X_hit ?_
                  refine Gh_one (s1 := ⟨⟨166, []⟩, [.lv 2 [.i a0.Actuators, .ro (a0.Steps.map cSStep)], .lv 2 [.i a1.Actuators, .ro (a1.Steps.map cSStep)], .lv 1 [.ro (a2.Travels.map cSTravel)], .lv 2 [.i a0.Actuators, .ro (v7.map cSStep)], .lv 2 [.i v19.1.Low, .i v19.1.High], .lv 2 [.i v20.1.Low, .i v20.1.High], .lv 2 [.i v21.1.Low, .i v21.1.High]]⟩) (by kernel_rfl) ?_
                  refine Gh_trunc0 (by kernel_rfl) ?_
                  refine Gh_nil ?_
                  replace h := Option.some.inj h; subst h
                  exact ⟨_, rfl, by kernel_rfl⟩
              · refine W_seq ?_
                refine W_gh ?_
                refine W_reg ?_
                refine O_call (fun v => .bool v) h (.inr rfl) (ys := []) (fun _ e => p12  _ e) (by kernel_rfl) (by kernel_rfl) rfl (fun v37 e_v37 h => ?_)
                refine O_p 1 ?_
                refine O_nil ?_
                refine Gh_e ⟨⟨166, [(6, .bool v37)]⟩, [.lv 2 [.i a0.Actuators, .ro (a0.Steps.map cSStep)], .lv 2 [.i a1.Actuators, .ro (a1.Steps.map cSStep)], .lv 1 [.ro (a2.Travels.map cSTravel)], .lv 2 [.i a0.Actuators, .ro (v7.map cSStep)], .lv 2 [.i v19.1.Low, .i v19.1.High], .lv 2 [.i v20.1.Low, .i v20.1.High], .lv 2 [.i v21.1.Low, .i v21.1.High]]⟩ ?_
                refine W_ret ?_
                replace h := Option.some.inj h; subst h
                exact Fin_free (l := [.bool v37]) (by kernel_rfl) (by kernel_rfl) rfl
end G17
