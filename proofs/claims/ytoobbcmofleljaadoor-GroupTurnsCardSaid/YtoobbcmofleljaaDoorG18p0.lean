/- The code computes the models, printed by a program of mine (dec.py). No condition. -/
import Derived.Test.YtoobbcmofleljaaDoorG18E
namespace G18
open Go Go.Pl Go.Am Go.Am.As
set_option linter.unusedVariables false
set_option linter.unusedSimpArgs false
set_option maxHeartbeats 1000000

theorem p81 (a0 : Int) (r : Bool) (h : m81 a0 = some r) : Pt E0 hp 81 [.i a0] (.bool r) := by
  unfold m81 at h
  refine Pt_W (fn81) rfl (by decide) ?_
  refine W_seq ?_
  refine W_gh ?_
  refine W_reg ?_
  refine O_p 1 ?_
  refine O_nil ?_
  refine Gh_e ⟨⟨9, [(0, .i a0)]⟩, []⟩ ?_
  refine W_seq ?_
  refine W_cut ⟨⟨9, [(2, .bool ((decide (a0 ≥ 0)) && (decide (a0 < 6))))]⟩, []⟩ ?_ ?_
  · generalize e_g1 : ((decide (a0 ≥ 0)) && (decide (a0 < 6))) = g1
    refine W_gh ?_
    refine W_reg ?_
    refine O_p 3 ?_
    refine O_fork (n := 5) (decide (a0 ≥ 0)) (by kernel_rfl) (fun c2 => ?_) (fun c2 => ?_)
    · skip
      refine O_p 4 ?_
      refine O_nil ?_
      refine Gh_e ⟨⟨9, [(2, .bool (decide (a0 < 6)))]⟩, []⟩ ?_
      have q := e_g1; simp only [c2, cond_true, cond_false, Bool.true_and, Bool.false_and, Bool.true_or, Bool.false_or] at q; subst q
      show _ = _
      kernel_rfl
    · skip
      refine O_p 4 ?_
      refine O_nil ?_
      refine Gh_e ⟨⟨9, [(2, .bool false)]⟩, []⟩ ?_
      have q := e_g1; simp only [c2, cond_true, cond_false, Bool.true_and, Bool.false_and, Bool.true_or, Bool.false_or] at q; subst q
      show _ = _
      kernel_rfl
  · refine W_ret ?_
    replace h := Option.some.inj h; subst h
    exact Fin_free (l := [.bool ((decide (a0 ≥ 0)) && (decide (a0 < 6)))]) (by kernel_rfl) (by kernel_rfl) rfl

theorem p73 (a0 : SStep) (r : Int) (h : m73 a0 = some r) : Pt E0 hp 73 [.agg (cSStep a0)] (.i r) := by
  unfold m73 at h
  refine Pt_W (fn73) rfl (by decide) ?_
  refine W_seq ?_
  refine W_gh ?_
  refine W_reg ?_
  refine O_p 2 ?_
  refine O_nil ?_
  refine Gh_e ⟨⟨49, [(1, .po 0 0)]⟩, [.lv 2 [.ro (a0.Strokes.map cSStroke), .i a0.Wait]]⟩ ?_
  refine W_seq ?_
  refine W_seq ?_
  refine W_gh ?_
  refine W_reg ?_
  refine O_p 2 ?_
  refine O_len (l := a0.Strokes) cSStroke (by kernel_rfl) (by kernel_rfl) ?_
  refine O_p 1 ?_
  refine O_nil ?_
  refine Gh_e ⟨⟨49, [(1, .po 0 0), (3, .i (a0.Strokes.length : Int))]⟩, [.lv 2 [.ro (a0.Strokes.map cSStroke), .i a0.Wait]]⟩ ?_
  refine W_gh ?_
  refine W_block ?_
  refine W_seq ?_
  refine W_gh ?_
  refine W_reg ?_
  refine O_p 3 ?_
  refine O_nil ?_
  refine Gh_e ⟨⟨49, [(1, .po 0 0), (3, .i (a0.Strokes.length : Int)), (10, .bool ((a0.Strokes.length : Int) == 0))]⟩, [.lv 2 [.ro (a0.Strokes.map cSStroke), .i a0.Wait]]⟩ ?_
  refine W_gh ?_
  refine W_cond (c := ((a0.Strokes.length : Int) == 0)) (by kernel_rfl) (fun c1 => ?_) (fun c1 => ?_)
  · replace h := fork_t c1 h
    refine W_seq ?_
    refine W_reg ?_
    refine O_p 1 ?_
    refine O_nil ?_
    refine W_ret ?_
    replace h := Option.some.inj h; subst h
    exact Fin_free (l := [.i 13]) (by kernel_rfl) (by kernel_rfl) rfl
  · replace h := fork_f c1 h
    refine W_seq ?_
    refine W_gh ?_
    refine W_reg ?_
    refine O_p 3 ?_
    refine O_nil ?_
    refine Gh_e ⟨⟨49, [(1, .po 0 0), (10, .bool ((a0.Strokes.length : Int) == 0)), (13, .bool (decide ((a0.Strokes.length : Int) > 6)))]⟩, [.lv 2 [.ro (a0.Strokes.map cSStroke), .i a0.Wait]]⟩ ?_
    refine W_gh ?_
    refine W_cond (c := (decide ((a0.Strokes.length : Int) > 6))) (by kernel_rfl) (fun c2 => ?_) (fun c2 => ?_)
    · replace h := fork_t c2 h
      refine W_seq ?_
      refine W_reg ?_
      refine O_p 1 ?_
      refine O_nil ?_
      refine W_ret ?_
      replace h := Option.some.inj h; subst h
      exact Fin_free (l := [.i 5]) (by kernel_rfl) (by kernel_rfl) rfl
    · replace h := fork_f c2 h
      refine W_skip ?_
      refine Gh_e ⟨⟨49, [(1, .po 0 0), (10, .bool ((a0.Strokes.length : Int) == 0))]⟩, [.lv 2 [.ro (a0.Strokes.map cSStroke), .i a0.Wait]]⟩ ?_
      refine Gh_e ⟨⟨49, [(1, .po 0 0)]⟩, [.lv 2 [.ro (a0.Strokes.map cSStroke), .i a0.Wait]]⟩ ?_
      refine Gh_e ⟨⟨49, [(1, .po 0 0)]⟩, [.lv 2 [.ro (a0.Strokes.map cSStroke), .i a0.Wait]]⟩ ?_
      refine W_seq ?_
      refine W_reg ?_
      refine O_p 1 ?_
      refine O_nil ?_
      refine W_seq ?_
      refine W_seq ?_
      refine W_gh ?_
      refine W_reg ?_
      refine O_p 2 ?_
      refine O_len (l := a0.Strokes) cSStroke (by kernel_rfl) (by kernel_rfl) ?_
      refine O_p 1 ?_
      refine O_nil ?_
      refine Gh_e ⟨⟨49, [(1, .po 0 0), (4, .i (-1)), (17, .ro (a0.Strokes.map cSStroke)), (18, .i (a0.Strokes.length : Int)), (19, .i 0)]⟩, [.lv 2 [.ro (a0.Strokes.map cSStroke), .i a0.Wait]]⟩ ?_
      refine W_loop (fun s3 : Int × Int => ⟨⟨49, [(1, .po 0 0), (4, .i s3.2), (17, .ro (a0.Strokes.map cSStroke)), (18, .i (a0.Strokes.length : Int)), (19, .i s3.1)]⟩, [.lv 2 [.ro (a0.Strokes.map cSStroke), .i a0.Wait]]⟩) (fun w4 : Unit => ⟨⟨49, [(1, .po 0 0)]⟩, [.lv 2 [.ro (a0.Strokes.map cSStroke), .i a0.Wait]]⟩) h (by kernel_rfl) (fun s3 c h => ?_) (fun w4 h => ?_)
      · refine W_gh ?_
        refine W_seq ?_
        refine W_reg ?_
        refine O_p 1 ?_
        refine O_nil ?_
        refine W_seq ?_
        refine W_gh ?_
        refine W_cond (c := (decide (s3.1 < (a0.Strokes.length : Int)))) (by kernel_rfl) (fun c5 => ?_) (fun c5 => ?_)
        · replace h := fork_t c5 h
          refine W_skip ?_
          refine Gh_e ⟨⟨49, [(1, .po 0 0), (4, .i s3.2), (17, .ro (a0.Strokes.map cSStroke)), (18, .i (a0.Strokes.length : Int)), (19, .i s3.1)]⟩, [.lv 2 [.ro (a0.Strokes.map cSStroke), .i a0.Wait]]⟩ ?_
          refine W_seq ?_
          refine W_gh ?_
          refine W_block ?_
          refine W_seq ?_
          refine W_gh ?_
          refine W_reg ?_
          refine O_idx (kd := .i64) cSStroke h (fun _ => rfl) (by kernel_rfl) (by kernel_rfl) (by kernel_rfl) (fun v6 e_v6 h => ?_)
          refine O_p 3 ?_
          refine O_nil ?_
          refine Gh_e ⟨⟨49, [(1, .po 0 0), (4, .i s3.2), (6, .po 1 0), (17, .ro (a0.Strokes.map cSStroke)), (18, .i (a0.Strokes.length : Int)), (19, .i s3.1)]⟩, [.lv 2 [.ro (a0.Strokes.map cSStroke), .i a0.Wait], .lv 2 [.i v6.Actuator, .bool v6.Out]]⟩ ?_
          refine W_seq ?_
          refine W_gh ?_
          refine W_block ?_
          refine W_seq ?_
          refine W_gh ?_
          refine W_reg ?_
          refine O_p 2 ?_
          refine O_call (fun v => .bool v) h (.inr rfl) (ys := [.i v6.Actuator]) (fun _ e => p81 _ _ e) (by kernel_rfl) (by kernel_rfl) (bels_cons rfl rfl) (fun v7 e_v7 h => ?_)
          refine O_p 2 ?_
          refine O_nil ?_
          refine Gh_e ⟨⟨49, [(1, .po 0 0), (4, .i s3.2), (6, .po 1 0), (17, .ro (a0.Strokes.map cSStroke)), (18, .i (a0.Strokes.length : Int)), (19, .i s3.1), (23, .bool (!v7))]⟩, [.lv 2 [.ro (a0.Strokes.map cSStroke), .i a0.Wait], .lv 2 [.i v6.Actuator, .bool v6.Out]]⟩ ?_
          refine W_gh ?_
          refine W_cond (c := (!v7)) (by kernel_rfl) (fun c8 => ?_) (fun c8 => ?_)
          · replace h := fork_t c8 h
            refine W_seq ?_
            refine W_reg ?_
            refine O_p 1 ?_
            refine O_nil ?_
            refine W_ret ?_
            replace h := Option.some.inj h; subst h
            refine ⟨_, rfl, fun h => ?_⟩
            replace h := Option.some.inj h; subst h
            exact Fin_free (l := [.i 2]) (by kernel_rfl) (by kernel_rfl) rfl
          · replace h := fork_f c8 h
            refine W_seq ?_
            refine W_gh ?_
            refine W_reg ?_
            refine O_p 5 ?_
            refine O_nil ?_
            refine Gh_e ⟨⟨49, [(1, .po 0 0), (4, .i s3.2), (6, .po 1 0), (17, .ro (a0.Strokes.map cSStroke)), (18, .i (a0.Strokes.length : Int)), (19, .i s3.1), (23, .bool (!v7)), (28, .bool (v6.Actuator == s3.2))]⟩, [.lv 2 [.ro (a0.Strokes.map cSStroke), .i a0.Wait], .lv 2 [.i v6.Actuator, .bool v6.Out]]⟩ ?_
            refine W_gh ?_
            refine W_cond (c := (v6.Actuator == s3.2)) (by kernel_rfl) (fun c9 => ?_) (fun c9 => ?_)
            · replace h := fork_t c9 h
              refine W_seq ?_
              refine W_reg ?_
              refine O_p 1 ?_
              refine O_nil ?_
              refine W_ret ?_
              replace h := Option.some.inj h; subst h
              refine ⟨_, rfl, fun h => ?_⟩
              replace h := Option.some.inj h; subst h
              exact Fin_free (l := [.i 7]) (by kernel_rfl) (by kernel_rfl) rfl
            · replace h := fork_f c9 h
              refine W_seq ?_
              refine W_gh ?_
              refine W_reg ?_
              refine O_p 5 ?_
              refine O_nil ?_
              refine Gh_e ⟨⟨49, [(1, .po 0 0), (6, .po 1 0), (17, .ro (a0.Strokes.map cSStroke)), (18, .i (a0.Strokes.length : Int)), (19, .i s3.1), (23, .bool (!v7)), (28, .bool (v6.Actuator == s3.2)), (33, .bool (decide (v6.Actuator < s3.2)))]⟩, [.lv 2 [.ro (a0.Strokes.map cSStroke), .i a0.Wait], .lv 2 [.i v6.Actuator, .bool v6.Out]]⟩ ?_
              refine W_gh ?_
              refine W_cond (c := (decide (v6.Actuator < s3.2))) (by kernel_rfl) (fun c10 => ?_) (fun c10 => ?_)
              · replace h := fork_t c10 h
                refine W_seq ?_
                refine W_reg ?_
                refine O_p 1 ?_
                refine O_nil ?_
                refine W_ret ?_
                replace h := Option.some.inj h; subst h
                refine ⟨_, rfl, fun h => ?_⟩
                replace h := Option.some.inj h; subst h
                exact Fin_free (l := [.i 9]) (by kernel_rfl) (by kernel_rfl) rfl
              · replace h := fork_f c10 h
                refine W_skip ?_
                refine Gh_e ⟨⟨49, [(1, .po 0 0), (6, .po 1 0), (17, .ro (a0.Strokes.map cSStroke)), (18, .i (a0.Strokes.length : Int)), (19, .i s3.1), (23, .bool (!v7)), (28, .bool (v6.Actuator == s3.2))]⟩, [.lv 2 [.ro (a0.Strokes.map cSStroke), .i a0.Wait], .lv 2 [.i v6.Actuator, .bool v6.Out]]⟩ ?_
                refine Gh_e ⟨⟨49, [(1, .po 0 0), (6, .po 1 0), (17, .ro (a0.Strokes.map cSStroke)), (18, .i (a0.Strokes.length : Int)), (19, .i s3.1), (23, .bool (!v7))]⟩, [.lv 2 [.ro (a0.Strokes.map cSStroke), .i a0.Wait], .lv 2 [.i v6.Actuator, .bool v6.Out]]⟩ ?_
                refine Gh_e ⟨⟨49, [(1, .po 0 0), (6, .po 1 0), (17, .ro (a0.Strokes.map cSStroke)), (18, .i (a0.Strokes.length : Int)), (19, .i s3.1)]⟩, [.lv 2 [.ro (a0.Strokes.map cSStroke), .i a0.Wait], .lv 2 [.i v6.Actuator, .bool v6.Out]]⟩ ?_
                refine Gh_e ⟨⟨49, [(1, .po 0 0), (6, .po 1 0), (17, .ro (a0.Strokes.map cSStroke)), (18, .i (a0.Strokes.length : Int)), (19, .i s3.1)]⟩, [.lv 2 [.ro (a0.Strokes.map cSStroke), .i a0.Wait], .lv 2 [.i v6.Actuator, .bool v6.Out]]⟩ ?_
                refine W_gh ?_
                refine W_reg ?_
                refine O_p 3 ?_
                refine O_nil ?_
                refine Gh_e ⟨⟨49, [(1, .po 0 0), (4, .i v6.Actuator), (17, .ro (a0.Strokes.map cSStroke)), (18, .i (a0.Strokes.length : Int)), (19, .i s3.1)]⟩, [.lv 2 [.ro (a0.Strokes.map cSStroke), .i a0.Wait], .lv 2 [.i v6.Actuator, .bool v6.Out]]⟩ ?_
                refine Gh_one (s1 := ⟨⟨49, [(1, .po 0 0), (4, .i v6.Actuator), (17, .ro (a0.Strokes.map cSStroke)), (18, .i (a0.Strokes.length : Int)), (19, .i s3.1)]⟩, [.lv 2 [.ro (a0.Strokes.map cSStroke), .i a0.Wait], .lv 2 [.i v6.Actuator, .bool v6.Out]]⟩) (by kernel_rfl) ?_
                refine Gh_at (s1 := ⟨⟨49, [(1, .po 0 0), (4, .i v6.Actuator), (17, .ro (a0.Strokes.map cSStroke)), (18, .i (a0.Strokes.length : Int)), (19, .i s3.1)]⟩, [.lv 2 [.ro (a0.Strokes.map cSStroke), .i a0.Wait], .lv 2 [.i v6.Actuator, .bool v6.Out]]⟩) (by kernel_rfl) ?_
                refine Gh_trunc (s1 := ⟨⟨49, [(1, .po 0 0), (4, .i v6.Actuator), (17, .ro (a0.Strokes.map cSStroke)), (18, .i (a0.Strokes.length : Int)), (19, .i s3.1)]⟩, [.lv 2 [.ro (a0.Strokes.map cSStroke), .i a0.Wait]]⟩) (by kernel_rfl) (tb_ref rfl (tb_free rfl (tb_free (ro_bel okSStroke.bel _) (tb_free rfl (tb_free rfl rfl))))) (H1 := [.lv 2 [.ro (a0.Strokes.map cSStroke), .i a0.Wait]]) (by kernel_rfl) (ob_boxn (bn_free (ro_bel okSStroke.bel _) (bn_free rfl rfl)) rfl) (by kernel_rfl) ?_
                refine Gh_nil ?_
                refine W_gh ?_
                refine W_reg ?_
                refine O_p 2 ?_
                refine O_nil ?_
                refine Gh_e ⟨⟨49, [(1, .po 0 0), (4, .i v6.Actuator), (17, .ro (a0.Strokes.map cSStroke)), (18, .i (a0.Strokes.length : Int)), (19, .i (addI .i64 s3.1 1))]⟩, [.lv 2 [.ro (a0.Strokes.map cSStroke), .i a0.Wait]]⟩ ?_
                refine Gh_one (s1 := ⟨⟨49, [(1, .po 0 0), (4, .i v6.Actuator), (17, .ro (a0.Strokes.map cSStroke)), (18, .i (a0.Strokes.length : Int)), (19, .i (addI .i64 s3.1 1))]⟩, [.lv 2 [.ro (a0.Strokes.map cSStroke), .i a0.Wait]]⟩) (by kernel_rfl) ?_
                refine Gh_trunc0 (by kernel_rfl) ?_
                refine Gh_nil ?_
                replace h := Option.some.inj h; subst h
                exact ⟨_, rfl, by kernel_rfl⟩
        · replace h := fork_f c5 h
          refine W_exit ?_
          refine X_hit ?_
          refine Gh_one (s1 := ⟨⟨49, [(1, .po 0 0)]⟩, [.lv 2 [.ro (a0.Strokes.map cSStroke), .i a0.Wait]]⟩) (by kernel_rfl) ?_
          refine Gh_trunc0 (by kernel_rfl) ?_
          refine Gh_nil ?_
          replace h := Option.some.inj h; subst h
          exact ⟨_, rfl, by kernel_rfl⟩
      · refine W_seq ?_
        refine W_seq ?_
        refine W_cut ⟨⟨49, [(48, .bool ((decide (a0.Wait < 0)) || (decide (a0.Wait > 1000000))))]⟩, [.lv 2 [.ro (a0.Strokes.map cSStroke), .i a0.Wait]]⟩ ?_ ?_
        · generalize e_g11 : ((decide (a0.Wait < 0)) || (decide (a0.Wait > 1000000))) = g11
          refine W_gh ?_
          refine W_reg ?_
          refine O_p 4 ?_
          refine O_fork (n := 44) (decide (a0.Wait < 0)) (by kernel_rfl) (fun c12 => ?_) (fun c12 => ?_)
          · skip
            refine O_p 4 ?_
            refine O_nil ?_
            refine Gh_e ⟨⟨49, [(48, .bool true)]⟩, [.lv 2 [.ro (a0.Strokes.map cSStroke), .i a0.Wait]]⟩ ?_
            have q := e_g11; simp only [c1, c2, c12, cond_true, cond_false, Bool.true_and, Bool.false_and, Bool.true_or, Bool.false_or] at q; subst q
            show _ = _
            kernel_rfl
          · skip
            refine O_p 4 ?_
            refine O_nil ?_
            refine Gh_e ⟨⟨49, [(48, .bool (decide (a0.Wait > 1000000)))]⟩, [.lv 2 [.ro (a0.Strokes.map cSStroke), .i a0.Wait]]⟩ ?_
            have q := e_g11; simp only [c1, c2, c12, cond_true, cond_false, Bool.true_and, Bool.false_and, Bool.true_or, Bool.false_or] at q; subst q
            show _ = _
            kernel_rfl
        · refine W_gh ?_
          refine W_cond (c := ((decide (a0.Wait < 0)) || (decide (a0.Wait > 1000000)))) (by kernel_rfl) (fun c13 => ?_) (fun c13 => ?_)
          · replace h := fork_t c13 h
            refine W_seq ?_
            refine W_reg ?_
            refine O_p 1 ?_
            refine O_nil ?_
            refine W_ret ?_
            replace h := Option.some.inj h; subst h
            exact Fin_free (l := [.i 2]) (by kernel_rfl) (by kernel_rfl) rfl
          · replace h := fork_f c13 h
            refine W_skip ?_
            refine Gh_e ⟨⟨49, []⟩, [.lv 2 [.ro (a0.Strokes.map cSStroke), .i a0.Wait]]⟩ ?_
            refine W_seq ?_
            refine W_reg ?_
            refine O_p 1 ?_
            refine O_nil ?_
            refine W_ret ?_
            replace h := Option.some.inj h; subst h
            exact Fin_free (l := [.i 0]) (by kernel_rfl) (by kernel_rfl) rfl

theorem p59 (a0 : SSequence) (a1 : SStep) (a2 : (Arr 6 Bool)) (r : Int) (h : m59 a0 a1 a2 = some r) : Pt E0 hp 59 [.agg (cSSequence a0), .agg (cSStep a1), .agg ((cA AV.bool) a2)] (.i r) := by
  unfold m59 at h
  refine Pt_W (fn59) rfl (by decide) ?_
  refine W_seq ?_
  refine W_gh ?_
  refine W_reg ?_
  refine O_p 2 ?_
  refine O_boxA AV.bool (by kernel_rfl) (a := a2) (by kernel_rfl) (fun _ => rfl) ?_
  refine O_p 1 ?_
  refine O_nil ?_
  refine Gh_e ⟨⟨45, [(3, .po 0 0), (4, .po 1 0), (5, .po 2 0)]⟩, [.lv 2 [.i a0.Actuators, .ro (a0.Steps.map cSStep)], .lv 2 [.ro (a1.Strokes.map cSStroke), .i a1.Wait], .lv 6 (a2.1.map AV.bool)]⟩ ?_
  refine W_seq ?_
  refine W_seq ?_
  refine W_gh ?_
  refine W_reg ?_
  refine O_p 1 ?_
  refine O_call (fun v => .i v) h (.inr rfl) (ys := [.agg (cSStep a1)]) (fun _ e => p73 _ _ e) (by kernel_rfl) (by kernel_rfl) (bels_cons (okSStep.bel _) rfl) (fun v1 e_v1 h => ?_)
  refine O_p 1 ?_
  refine O_nil ?_
  refine Gh_e ⟨⟨45, [(3, .po 0 0), (4, .po 1 0), (5, .po 2 0), (7, .i v1)]⟩, [.lv 2 [.i a0.Actuators, .ro (a0.Steps.map cSStep)], .lv 2 [.ro (a1.Strokes.map cSStroke), .i a1.Wait], .lv 6 (a2.1.map AV.bool)]⟩ ?_
  refine W_seq ?_
  refine W_gh ?_
  refine W_reg ?_
  refine O_p 2 ?_
  refine O_nil ?_
  refine Gh_e ⟨⟨45, [(3, .po 0 0), (4, .po 1 0), (5, .po 2 0), (7, .i v1), (15, .bool (v1 != 0))]⟩, [.lv 2 [.i a0.Actuators, .ro (a0.Steps.map cSStep)], .lv 2 [.ro (a1.Strokes.map cSStroke), .i a1.Wait], .lv 6 (a2.1.map AV.bool)]⟩ ?_
  refine W_gh ?_
  refine W_cond (c := (v1 != 0)) (by kernel_rfl) (fun c2 => ?_) (fun c2 => ?_)
  · replace h := fork_t c2 h
    refine W_seq ?_
    refine W_gh ?_
    refine W_reg ?_
    refine O_p 2 ?_
    refine O_nil ?_
    refine Gh_e ⟨⟨45, [(3, .po 0 0), (4, .po 1 0), (5, .po 2 0), (6, .i v1), (15, .bool (v1 != 0))]⟩, [.lv 2 [.i a0.Actuators, .ro (a0.Steps.map cSStep)], .lv 2 [.ro (a1.Strokes.map cSStroke), .i a1.Wait], .lv 6 (a2.1.map AV.bool)]⟩ ?_
    refine W_ret ?_
    replace h := Option.some.inj h; subst h
    exact Fin_free (l := [.i v1]) (by kernel_rfl) (by kernel_rfl) rfl
  · replace h := fork_f c2 h
    refine W_skip ?_
    refine Gh_e ⟨⟨45, [(3, .po 0 0), (4, .po 1 0), (5, .po 2 0)]⟩, [.lv 2 [.i a0.Actuators, .ro (a0.Steps.map cSStep)], .lv 2 [.ro (a1.Strokes.map cSStroke), .i a1.Wait], .lv 6 (a2.1.map AV.bool)]⟩ ?_
    refine W_seq ?_
    refine W_seq ?_
    refine W_gh ?_
    refine W_reg ?_
    refine O_p 2 ?_
    refine O_len (l := a1.Strokes) cSStroke (by kernel_rfl) (by kernel_rfl) ?_
    refine O_p 1 ?_
    refine O_nil ?_
    refine Gh_e ⟨⟨45, [(3, .po 0 0), (4, .po 1 0), (5, .po 2 0), (18, .ro (a1.Strokes.map cSStroke)), (19, .i (a1.Strokes.length : Int)), (20, .i 0)]⟩, [.lv 2 [.i a0.Actuators, .ro (a0.Steps.map cSStep)], .lv 2 [.ro (a1.Strokes.map cSStroke), .i a1.Wait], .lv 6 (a2.1.map AV.bool)]⟩ ?_
    refine W_loop (fun s3 : Int => ⟨⟨45, [(3, .po 0 0), (4, .po 1 0), (5, .po 2 0), (18, .ro (a1.Strokes.map cSStroke)), (19, .i (a1.Strokes.length : Int)), (20, .i s3)]⟩, [.lv 2 [.i a0.Actuators, .ro (a0.Steps.map cSStep)], .lv 2 [.ro (a1.Strokes.map cSStroke), .i a1.Wait], .lv 6 (a2.1.map AV.bool)]⟩) (fun w4 : Unit => ⟨⟨45, [(4, .po 1 0), (5, .po 2 0)]⟩, [.lv 2 [.i a0.Actuators, .ro (a0.Steps.map cSStep)], .lv 2 [.ro (a1.Strokes.map cSStroke), .i a1.Wait], .lv 6 (a2.1.map AV.bool)]⟩) h (by kernel_rfl) (fun s3 c h => ?_) (fun w4 h => ?_)
    · refine W_gh ?_
      refine W_seq ?_
      refine W_reg ?_
      refine O_p 1 ?_
      refine O_nil ?_
      refine W_seq ?_
      refine W_gh ?_
      refine W_cond (c := (decide (s3 < (a1.Strokes.length : Int)))) (by kernel_rfl) (fun c5 => ?_) (fun c5 => ?_)
      · replace h := fork_t c5 h
        refine W_skip ?_
        refine Gh_e ⟨⟨45, [(3, .po 0 0), (4, .po 1 0), (5, .po 2 0), (18, .ro (a1.Strokes.map cSStroke)), (19, .i (a1.Strokes.length : Int)), (20, .i s3)]⟩, [.lv 2 [.i a0.Actuators, .ro (a0.Steps.map cSStep)], .lv 2 [.ro (a1.Strokes.map cSStroke), .i a1.Wait], .lv 6 (a2.1.map AV.bool)]⟩ ?_
        refine W_seq ?_
        refine W_gh ?_
        refine W_block ?_
        refine W_seq ?_
        refine W_gh ?_
        refine W_reg ?_
        refine O_idx (kd := .i64) cSStroke h (fun _ => rfl) (by kernel_rfl) (by kernel_rfl) (by kernel_rfl) (fun v6 e_v6 h => ?_)
        refine O_p 3 ?_
        refine O_nil ?_
        refine Gh_e ⟨⟨45, [(3, .po 0 0), (4, .po 1 0), (5, .po 2 0), (9, .po 3 0), (18, .ro (a1.Strokes.map cSStroke)), (19, .i (a1.Strokes.length : Int)), (20, .i s3)]⟩, [.lv 2 [.i a0.Actuators, .ro (a0.Steps.map cSStep)], .lv 2 [.ro (a1.Strokes.map cSStroke), .i a1.Wait], .lv 6 (a2.1.map AV.bool), .lv 2 [.i v6.Actuator, .bool v6.Out]]⟩ ?_
        refine W_seq ?_
        refine W_gh ?_
        refine W_reg ?_
        refine O_p 5 ?_
        refine O_nil ?_
        refine Gh_e ⟨⟨45, [(3, .po 0 0), (4, .po 1 0), (5, .po 2 0), (18, .ro (a1.Strokes.map cSStroke)), (19, .i (a1.Strokes.length : Int)), (20, .i s3), (28, .bool (decide (v6.Actuator ≥ a0.Actuators)))]⟩, [.lv 2 [.i a0.Actuators, .ro (a0.Steps.map cSStep)], .lv 2 [.ro (a1.Strokes.map cSStroke), .i a1.Wait], .lv 6 (a2.1.map AV.bool), .lv 2 [.i v6.Actuator, .bool v6.Out]]⟩ ?_
        refine W_gh ?_
        refine W_cond (c := (decide (v6.Actuator ≥ a0.Actuators))) (by kernel_rfl) (fun c7 => ?_) (fun c7 => ?_)
        · replace h := fork_t c7 h
          refine W_seq ?_
          refine W_reg ?_
          refine O_p 1 ?_
          refine O_nil ?_
          refine W_ret ?_
          replace h := Option.some.inj h; subst h
          refine ⟨_, rfl, fun h => ?_⟩
          replace h := Option.some.inj h; subst h
          exact Fin_free (l := [.i 6]) (by kernel_rfl) (by kernel_rfl) rfl
        · replace h := fork_f c7 h
          refine W_skip ?_
          refine Gh_e ⟨⟨45, [(3, .po 0 0), (4, .po 1 0), (5, .po 2 0), (18, .ro (a1.Strokes.map cSStroke)), (19, .i (a1.Strokes.length : Int)), (20, .i s3)]⟩, [.lv 2 [.i a0.Actuators, .ro (a0.Steps.map cSStep)], .lv 2 [.ro (a1.Strokes.map cSStroke), .i a1.Wait], .lv 6 (a2.1.map AV.bool), .lv 2 [.i v6.Actuator, .bool v6.Out]]⟩ ?_
          refine Gh_one (s1 := ⟨⟨45, [(3, .po 0 0), (4, .po 1 0), (5, .po 2 0), (18, .ro (a1.Strokes.map cSStroke)), (19, .i (a1.Strokes.length : Int)), (20, .i s3)]⟩, [.lv 2 [.i a0.Actuators, .ro (a0.Steps.map cSStep)], .lv 2 [.ro (a1.Strokes.map cSStroke), .i a1.Wait], .lv 6 (a2.1.map AV.bool), .lv 2 [.i v6.Actuator, .bool v6.Out]]⟩) (by kernel_rfl) ?_
          refine Gh_at (s1 := ⟨⟨45, [(3, .po 0 0), (4, .po 1 0), (5, .po 2 0), (18, .ro (a1.Strokes.map cSStroke)), (19, .i (a1.Strokes.length : Int)), (20, .i s3)]⟩, [.lv 2 [.i a0.Actuators, .ro (a0.Steps.map cSStep)], .lv 2 [.ro (a1.Strokes.map cSStroke), .i a1.Wait], .lv 6 (a2.1.map AV.bool), .lv 2 [.i v6.Actuator, .bool v6.Out]]⟩) (by kernel_rfl) ?_
          refine Gh_trunc (s1 := ⟨⟨45, [(3, .po 0 0), (4, .po 1 0), (5, .po 2 0), (18, .ro (a1.Strokes.map cSStroke)), (19, .i (a1.Strokes.length : Int)), (20, .i s3)]⟩, [.lv 2 [.i a0.Actuators, .ro (a0.Steps.map cSStep)], .lv 2 [.ro (a1.Strokes.map cSStroke), .i a1.Wait], .lv 6 (a2.1.map AV.bool)]⟩) (by kernel_rfl) (tb_ref rfl (tb_ref rfl (tb_ref rfl (tb_free (ro_bel okSStroke.bel _) (tb_free rfl (tb_free rfl rfl)))))) (H1 := [.lv 2 [.i a0.Actuators, .ro (a0.Steps.map cSStep)], .lv 2 [.ro (a1.Strokes.map cSStroke), .i a1.Wait], .lv 6 (a2.1.map AV.bool)]) (by kernel_rfl) (ob_boxn (bn_free rfl (bn_free (ro_bel okSStep.bel _) rfl)) (ob_boxn (bn_free (ro_bel okSStroke.bel _) (bn_free rfl rfl)) (ob_boxn (bels_mono (Nat.zero_le _) _ (bels_arr (fun _ => rfl) _)) rfl))) (by kernel_rfl) ?_
          refine Gh_nil ?_
          refine W_gh ?_
          refine W_reg ?_
          refine O_p 2 ?_
          refine O_nil ?_
          refine Gh_e ⟨⟨45, [(3, .po 0 0), (4, .po 1 0), (5, .po 2 0), (18, .ro (a1.Strokes.map cSStroke)), (19, .i (a1.Strokes.length : Int)), (20, .i (addI .i64 s3 1))]⟩, [.lv 2 [.i a0.Actuators, .ro (a0.Steps.map cSStep)], .lv 2 [.ro (a1.Strokes.map cSStroke), .i a1.Wait], .lv 6 (a2.1.map AV.bool)]⟩ ?_
          refine Gh_one (s1 := ⟨⟨45, [(3, .po 0 0), (4, .po 1 0), (5, .po 2 0), (18, .ro (a1.Strokes.map cSStroke)), (19, .i (a1.Strokes.length : Int)), (20, .i (addI .i64 s3 1))]⟩, [.lv 2 [.i a0.Actuators, .ro (a0.Steps.map cSStep)], .lv 2 [.ro (a1.Strokes.map cSStroke), .i a1.Wait], .lv 6 (a2.1.map AV.bool)]⟩) (by kernel_rfl) ?_
          refine Gh_trunc0 (by kernel_rfl) ?_
          refine Gh_nil ?_
          replace h := Option.some.inj h; subst h
          exact ⟨_, rfl, by kernel_rfl⟩
      · replace h := fork_f c5 h
        refine W_exit ?_
        refine X_hit ?_
        refine Gh_one (s1 := ⟨⟨45, [(4, .po 1 0), (5, .po 2 0)]⟩, [.lv 2 [.i a0.Actuators, .ro (a0.Steps.map cSStep)], .lv 2 [.ro (a1.Strokes.map cSStroke), .i a1.Wait], .lv 6 (a2.1.map AV.bool)]⟩) (by kernel_rfl) ?_
        refine Gh_trunc0 (by kernel_rfl) ?_
        refine Gh_nil ?_
        replace h := Option.some.inj h; subst h
        exact ⟨_, rfl, by kernel_rfl⟩
    · refine W_seq ?_
      refine W_seq ?_
      refine W_gh ?_
      refine W_reg ?_
      refine O_p 2 ?_
      refine O_len (l := a1.Strokes) cSStroke (by kernel_rfl) (by kernel_rfl) ?_
      refine O_p 1 ?_
      refine O_nil ?_
      refine Gh_e ⟨⟨45, [(5, .po 2 0), (31, .ro (a1.Strokes.map cSStroke)), (32, .i (a1.Strokes.length : Int)), (33, .i 0)]⟩, [.lv 2 [.i a0.Actuators, .ro (a0.Steps.map cSStep)], .lv 2 [.ro (a1.Strokes.map cSStroke), .i a1.Wait], .lv 6 (a2.1.map AV.bool)]⟩ ?_
      refine W_loop (fun s8 : Int => ⟨⟨45, [(5, .po 2 0), (31, .ro (a1.Strokes.map cSStroke)), (32, .i (a1.Strokes.length : Int)), (33, .i s8)]⟩, [.lv 2 [.i a0.Actuators, .ro (a0.Steps.map cSStep)], .lv 2 [.ro (a1.Strokes.map cSStroke), .i a1.Wait], .lv 6 (a2.1.map AV.bool)]⟩) (fun w9 : Unit => ⟨⟨45, []⟩, [.lv 2 [.i a0.Actuators, .ro (a0.Steps.map cSStep)], .lv 2 [.ro (a1.Strokes.map cSStroke), .i a1.Wait], .lv 6 (a2.1.map AV.bool)]⟩) h (by kernel_rfl) (fun s8 c h => ?_) (fun w9 h => ?_)
      · refine W_gh ?_
        refine W_seq ?_
        refine W_reg ?_
        refine O_p 1 ?_
        refine O_nil ?_
        refine W_seq ?_
        refine W_gh ?_
        refine W_cond (c := (decide (s8 < (a1.Strokes.length : Int)))) (by kernel_rfl) (fun c10 => ?_) (fun c10 => ?_)
        · replace h := fork_t c10 h
          refine W_skip ?_
          refine Gh_e ⟨⟨45, [(5, .po 2 0), (31, .ro (a1.Strokes.map cSStroke)), (32, .i (a1.Strokes.length : Int)), (33, .i s8)]⟩, [.lv 2 [.i a0.Actuators, .ro (a0.Steps.map cSStep)], .lv 2 [.ro (a1.Strokes.map cSStroke), .i a1.Wait], .lv 6 (a2.1.map AV.bool)]⟩ ?_
          refine W_seq ?_
          refine W_gh ?_
          refine W_block ?_
          refine W_seq ?_
          refine W_gh ?_
          refine W_reg ?_
          refine O_idx (kd := .i64) cSStroke h (fun _ => rfl) (by kernel_rfl) (by kernel_rfl) (by kernel_rfl) (fun v11 e_v11 h => ?_)
          refine O_p 3 ?_
          refine O_nil ?_
          refine Gh_e ⟨⟨45, [(5, .po 2 0), (11, .po 3 0), (31, .ro (a1.Strokes.map cSStroke)), (32, .i (a1.Strokes.length : Int)), (33, .i s8)]⟩, [.lv 2 [.i a0.Actuators, .ro (a0.Steps.map cSStep)], .lv 2 [.ro (a1.Strokes.map cSStroke), .i a1.Wait], .lv 6 (a2.1.map AV.bool), .lv 2 [.i v11.Actuator, .bool v11.Out]]⟩ ?_
          refine W_seq ?_
          refine W_gh ?_
          refine W_draw ?_
          refine O_p 2 ?_
          refine O_iadB (kd := .i64) (id := 2) AV.bool h (by kernel_rfl) (by kernel_rfl) (by kernel_rfl) (by kernel_rfl) (fun v12 e_v12 h => ?_)
          refine O_ldA (id := 2) AV.bool e_v12 (by kernel_rfl) (by kernel_rfl) (by kernel_rfl) ?_
          refine O_p 3 ?_
          refine O_nil ?_
          refine Gh_e ⟨⟨45, [(5, .po 2 0), (31, .ro (a1.Strokes.map cSStroke)), (32, .i (a1.Strokes.length : Int)), (33, .i s8), (43, .bool ((v12 == v11.Out) != false))]⟩, [.lv 2 [.i a0.Actuators, .ro (a0.Steps.map cSStep)], .lv 2 [.ro (a1.Strokes.map cSStroke), .i a1.Wait], .lv 6 (a2.1.map AV.bool), .lv 2 [.i v11.Actuator, .bool v11.Out]]⟩ ?_
          refine W_gh ?_
          refine W_cond (c := ((v12 == v11.Out) != false)) (by kernel_rfl) (fun c13 => ?_) (fun c13 => ?_)
          · replace h := fork_t c13 h
            refine W_seq ?_
            refine W_reg ?_
            refine O_p 1 ?_
            refine O_nil ?_
            refine W_ret ?_
            replace h := Option.some.inj h; subst h
            refine ⟨_, rfl, fun h => ?_⟩
            replace h := Option.some.inj h; subst h
            exact Fin_free (l := [.i 14]) (by kernel_rfl) (by kernel_rfl) rfl
          · replace h := fork_f c13 h
            refine W_skip ?_
            refine Gh_e ⟨⟨45, [(5, .po 2 0), (31, .ro (a1.Strokes.map cSStroke)), (32, .i (a1.Strokes.length : Int)), (33, .i s8)]⟩, [.lv 2 [.i a0.Actuators, .ro (a0.Steps.map cSStep)], .lv 2 [.ro (a1.Strokes.map cSStroke), .i a1.Wait], .lv 6 (a2.1.map AV.bool), .lv 2 [.i v11.Actuator, .bool v11.Out]]⟩ ?_
            refine Gh_one (s1 := ⟨⟨45, [(5, .po 2 0), (31, .ro (a1.Strokes.map cSStroke)), (32, .i (a1.Strokes.length : Int)), (33, .i s8)]⟩, [.lv 2 [.i a0.Actuators, .ro (a0.Steps.map cSStep)], .lv 2 [.ro (a1.Strokes.map cSStroke), .i a1.Wait], .lv 6 (a2.1.map AV.bool), .lv 2 [.i v11.Actuator, .bool v11.Out]]⟩) (by kernel_rfl) ?_
            refine Gh_at (s1 := ⟨⟨45, [(5, .po 2 0), (31, .ro (a1.Strokes.map cSStroke)), (32, .i (a1.Strokes.length : Int)), (33, .i s8)]⟩, [.lv 2 [.i a0.Actuators, .ro (a0.Steps.map cSStep)], .lv 2 [.ro (a1.Strokes.map cSStroke), .i a1.Wait], .lv 6 (a2.1.map AV.bool), .lv 2 [.i v11.Actuator, .bool v11.Out]]⟩) (by kernel_rfl) ?_
            refine Gh_trunc (s1 := ⟨⟨45, [(5, .po 2 0), (31, .ro (a1.Strokes.map cSStroke)), (32, .i (a1.Strokes.length : Int)), (33, .i s8)]⟩, [.lv 2 [.i a0.Actuators, .ro (a0.Steps.map cSStep)], .lv 2 [.ro (a1.Strokes.map cSStroke), .i a1.Wait], .lv 6 (a2.1.map AV.bool)]⟩) (by kernel_rfl) (tb_ref rfl (tb_free (ro_bel okSStroke.bel _) (tb_free rfl (tb_free rfl rfl)))) (H1 := [.lv 2 [.i a0.Actuators, .ro (a0.Steps.map cSStep)], .lv 2 [.ro (a1.Strokes.map cSStroke), .i a1.Wait], .lv 6 (a2.1.map AV.bool)]) (by kernel_rfl) (ob_boxn (bn_free rfl (bn_free (ro_bel okSStep.bel _) rfl)) (ob_boxn (bn_free (ro_bel okSStroke.bel _) (bn_free rfl rfl)) (ob_boxn (bels_mono (Nat.zero_le _) _ (bels_arr (fun _ => rfl) _)) rfl))) (by kernel_rfl) ?_
            refine Gh_nil ?_
            refine W_gh ?_
            refine W_reg ?_
            refine O_p 2 ?_
            refine O_nil ?_
            refine Gh_e ⟨⟨45, [(5, .po 2 0), (31, .ro (a1.Strokes.map cSStroke)), (32, .i (a1.Strokes.length : Int)), (33, .i (addI .i64 s8 1))]⟩, [.lv 2 [.i a0.Actuators, .ro (a0.Steps.map cSStep)], .lv 2 [.ro (a1.Strokes.map cSStroke), .i a1.Wait], .lv 6 (a2.1.map AV.bool)]⟩ ?_
            refine Gh_one (s1 := ⟨⟨45, [(5, .po 2 0), (31, .ro (a1.Strokes.map cSStroke)), (32, .i (a1.Strokes.length : Int)), (33, .i (addI .i64 s8 1))]⟩, [.lv 2 [.i a0.Actuators, .ro (a0.Steps.map cSStep)], .lv 2 [.ro (a1.Strokes.map cSStroke), .i a1.Wait], .lv 6 (a2.1.map AV.bool)]⟩) (by kernel_rfl) ?_
            refine Gh_trunc0 (by kernel_rfl) ?_
            refine Gh_nil ?_
            replace h := Option.some.inj h; subst h
            exact ⟨_, rfl, by kernel_rfl⟩
        · replace h := fork_f c10 h
          refine W_exit ?_
          refine X_hit ?_
          refine Gh_one (s1 := ⟨⟨45, []⟩, [.lv 2 [.i a0.Actuators, .ro (a0.Steps.map cSStep)], .lv 2 [.ro (a1.Strokes.map cSStroke), .i a1.Wait], .lv 6 (a2.1.map AV.bool)]⟩) (by kernel_rfl) ?_
          refine Gh_trunc0 (by kernel_rfl) ?_
          refine Gh_nil ?_
          replace h := Option.some.inj h; subst h
          exact ⟨_, rfl, by kernel_rfl⟩
      · refine W_seq ?_
        refine W_reg ?_
        refine O_p 1 ?_
        refine O_nil ?_
        refine W_ret ?_
        replace h := Option.some.inj h; subst h
        exact Fin_free (l := [.i 0]) (by kernel_rfl) (by kernel_rfl) rfl

theorem p60 (a0 : (Arr 6 Bool)) (a1 : SStep) (r : (Arr 6 Bool)) (h : m60 a0 a1 = some r) : Pt E0 hp 60 [.agg ((cA AV.bool) a0), .agg (cSStep a1)] (.agg (r.1.map AV.bool)) := by
  unfold m60 at h
  refine Pt_W (fn60) rfl (by decide) ?_
  refine W_seq ?_
  refine W_gh ?_
  refine W_reg ?_
  refine O_boxA AV.bool (by kernel_rfl) (a := a0) (by kernel_rfl) (fun _ => rfl) ?_
  refine O_p 2 ?_
  refine O_nil ?_
  refine Gh_e ⟨⟨21, [(2, .po 0 0), (3, .po 1 0), (4, .po 2 0)]⟩, [.lv 6 (a0.1.map AV.bool), .lv 2 [.ro (a1.Strokes.map cSStroke), .i a1.Wait], .lv 6 ((Arr.rep 6 false).1.map AV.bool)]⟩ ?_
  refine W_seq ?_
  refine W_seq ?_
  refine W_gh ?_
  refine W_reg ?_
  refine O_p 2 ?_
  refine O_len (l := a1.Strokes) cSStroke (by kernel_rfl) (by kernel_rfl) ?_
  refine O_p 1 ?_
  refine O_nil ?_
  refine Gh_e ⟨⟨21, [(2, .po 0 0), (4, .po 2 0), (8, .ro (a1.Strokes.map cSStroke)), (9, .i (a1.Strokes.length : Int)), (10, .i 0)]⟩, [.lv 6 (a0.1.map AV.bool), .lv 2 [.ro (a1.Strokes.map cSStroke), .i a1.Wait], .lv 6 ((Arr.rep 6 false).1.map AV.bool)]⟩ ?_
  refine W_loopS (fun s1 : (Arr 6 Bool) × Int => ⟨⟨21, [(2, .po 0 0), (4, .po 2 0), (8, .ro (a1.Strokes.map cSStroke)), (9, .i (a1.Strokes.length : Int)), (10, .i s1.2)]⟩, [.lv 6 (s1.1.1.map AV.bool), .lv 2 [.ro (a1.Strokes.map cSStroke), .i a1.Wait], .lv 6 ((Arr.rep 6 false).1.map AV.bool)]⟩) (fun w2 : (Arr 6 Bool) => ⟨⟨21, [(2, .po 0 0), (4, .po 2 0)]⟩, [.lv 6 (w2.1.map AV.bool), .lv 2 [.ro (a1.Strokes.map cSStroke), .i a1.Wait], .lv 6 ((Arr.rep 6 false).1.map AV.bool)]⟩) h (by kernel_rfl) (fun s1 c h => ?_) (fun w2 e_w2 h => ?_)
  · refine W_gh ?_
    refine W_seq ?_
    refine W_reg ?_
    refine O_p 1 ?_
    refine O_nil ?_
    refine W_seq ?_
    refine W_gh ?_
    refine W_cond (c := (decide (s1.2 < (a1.Strokes.length : Int)))) (by kernel_rfl) (fun c3 => ?_) (fun c3 => ?_)
    · replace h := fork_t c3 h
      refine W_skip ?_
      refine Gh_e ⟨⟨21, [(2, .po 0 0), (4, .po 2 0), (8, .ro (a1.Strokes.map cSStroke)), (9, .i (a1.Strokes.length : Int)), (10, .i s1.2)]⟩, [.lv 6 (s1.1.1.map AV.bool), .lv 2 [.ro (a1.Strokes.map cSStroke), .i a1.Wait], .lv 6 ((Arr.rep 6 false).1.map AV.bool)]⟩ ?_
      refine W_seq ?_
      refine W_gh ?_
      refine W_block ?_
      refine W_seq ?_
      refine W_gh ?_
      refine W_reg ?_
      refine O_idx (kd := .i64) cSStroke h (fun _ => rfl) (by kernel_rfl) (by kernel_rfl) (by kernel_rfl) (fun v4 e_v4 h => ?_)
      refine O_p 3 ?_
      refine O_nil ?_
      refine Gh_e ⟨⟨21, [(2, .po 0 0), (4, .po 2 0), (6, .po 3 0), (8, .ro (a1.Strokes.map cSStroke)), (9, .i (a1.Strokes.length : Int)), (10, .i s1.2)]⟩, [.lv 6 (s1.1.1.map AV.bool), .lv 2 [.ro (a1.Strokes.map cSStroke), .i a1.Wait], .lv 6 ((Arr.rep 6 false).1.map AV.bool), .lv 2 [.i v4.Actuator, .bool v4.Out]]⟩ ?_
      refine W_gh ?_
      refine W_reg ?_
      refine O_p 4 ?_
      refine O_iadB (kd := .i64) (id := 0) AV.bool h (by kernel_rfl) (by kernel_rfl) (by kernel_rfl) (by kernel_rfl) (fun v5 e_v5 h => ?_)
      refine O_stA (id := 0) AV.bool e_v5 (by kernel_rfl) (by kernel_rfl) (by kernel_rfl) (v := v4.Out) (by kernel_rfl) (fun _ => rfl) (fun _ => rfl) ?_
      refine O_nil ?_
      refine Gh_e ⟨⟨21, [(2, .po 0 0), (4, .po 2 0), (8, .ro (a1.Strokes.map cSStroke)), (9, .i (a1.Strokes.length : Int)), (10, .i s1.2)]⟩, [.lv 6 ((s1.1.put v4.Actuator.toNat v4.Out).1.map AV.bool), .lv 2 [.ro (a1.Strokes.map cSStroke), .i a1.Wait], .lv 6 ((Arr.rep 6 false).1.map AV.bool), .lv 2 [.i v4.Actuator, .bool v4.Out]]⟩ ?_
      refine Gh_one (s1 := ⟨⟨21, [(2, .po 0 0), (4, .po 2 0), (8, .ro (a1.Strokes.map cSStroke)), (9, .i (a1.Strokes.length : Int)), (10, .i s1.2)]⟩, [.lv 6 ((s1.1.put v4.Actuator.toNat v4.Out).1.map AV.bool), .lv 2 [.ro (a1.Strokes.map cSStroke), .i a1.Wait], .lv 6 ((Arr.rep 6 false).1.map AV.bool), .lv 2 [.i v4.Actuator, .bool v4.Out]]⟩) (by kernel_rfl) ?_
      refine Gh_at (s1 := ⟨⟨21, [(2, .po 0 0), (4, .po 2 0), (8, .ro (a1.Strokes.map cSStroke)), (9, .i (a1.Strokes.length : Int)), (10, .i s1.2)]⟩, [.lv 6 ((s1.1.put v4.Actuator.toNat v4.Out).1.map AV.bool), .lv 2 [.ro (a1.Strokes.map cSStroke), .i a1.Wait], .lv 6 ((Arr.rep 6 false).1.map AV.bool), .lv 2 [.i v4.Actuator, .bool v4.Out]]⟩) (by kernel_rfl) ?_
      refine Gh_trunc (s1 := ⟨⟨21, [(2, .po 0 0), (4, .po 2 0), (8, .ro (a1.Strokes.map cSStroke)), (9, .i (a1.Strokes.length : Int)), (10, .i s1.2)]⟩, [.lv 6 ((s1.1.put v4.Actuator.toNat v4.Out).1.map AV.bool), .lv 2 [.ro (a1.Strokes.map cSStroke), .i a1.Wait], .lv 6 ((Arr.rep 6 false).1.map AV.bool)]⟩) (by kernel_rfl) (tb_ref rfl (tb_ref rfl (tb_free (ro_bel okSStroke.bel _) (tb_free rfl (tb_free rfl rfl))))) (H1 := [.lv 6 ((s1.1.put v4.Actuator.toNat v4.Out).1.map AV.bool), .lv 2 [.ro (a1.Strokes.map cSStroke), .i a1.Wait], .lv 6 ((Arr.rep 6 false).1.map AV.bool)]) (by kernel_rfl) (ob_boxn (bels_mono (Nat.zero_le _) _ (bels_arr (fun _ => rfl) _)) (ob_boxn (bn_free (ro_bel okSStroke.bel _) (bn_free rfl rfl)) (ob_boxn (bels_mono (Nat.zero_le _) _ (bels_arr (fun _ => rfl) _)) rfl))) (by kernel_rfl) ?_
      refine Gh_nil ?_
      refine W_gh ?_
      refine W_reg ?_
      refine O_p 2 ?_
      refine O_nil ?_
      refine Gh_e ⟨⟨21, [(2, .po 0 0), (4, .po 2 0), (8, .ro (a1.Strokes.map cSStroke)), (9, .i (a1.Strokes.length : Int)), (10, .i (addI .i64 s1.2 1))]⟩, [.lv 6 ((s1.1.put v4.Actuator.toNat v4.Out).1.map AV.bool), .lv 2 [.ro (a1.Strokes.map cSStroke), .i a1.Wait], .lv 6 ((Arr.rep 6 false).1.map AV.bool)]⟩ ?_
      refine Gh_one (s1 := ⟨⟨21, [(2, .po 0 0), (4, .po 2 0), (8, .ro (a1.Strokes.map cSStroke)), (9, .i (a1.Strokes.length : Int)), (10, .i (addI .i64 s1.2 1))]⟩, [.lv 6 ((s1.1.put v4.Actuator.toNat v4.Out).1.map AV.bool), .lv 2 [.ro (a1.Strokes.map cSStroke), .i a1.Wait], .lv 6 ((Arr.rep 6 false).1.map AV.bool)]⟩) (by kernel_rfl) ?_
      refine Gh_trunc0 (by kernel_rfl) ?_
      refine Gh_nil ?_
      replace h := Option.some.inj h; subst h
      exact ⟨_, rfl, by kernel_rfl⟩
    · replace h := fork_f c3 h
      refine W_exit ?_
      refine X_hit ?_
      refine Gh_one (s1 := ⟨⟨21, [(2, .po 0 0), (4, .po 2 0)]⟩, [.lv 6 (s1.1.1.map AV.bool), .lv 2 [.ro (a1.Strokes.map cSStroke), .i a1.Wait], .lv 6 ((Arr.rep 6 false).1.map AV.bool)]⟩) (by kernel_rfl) ?_
      refine Gh_trunc0 (by kernel_rfl) ?_
      refine Gh_nil ?_
      replace h := Option.some.inj h; subst h
      exact ⟨_, rfl, by kernel_rfl⟩
  · refine W_seq ?_
    refine W_gh ?_
    refine W_reg ?_
    refine O_ldW (id := 0) (c1 := AV.bool) (a := w2) (by kernel_rfl) (by kernel_rfl) (by kernel_rfl) ?_
    refine O_stB (id := 2) (c1 := AV.bool) (a := w2) (old := ((Arr.rep 6 false).1.map AV.bool)) (by kernel_rfl) (by kernel_rfl) (by kernel_rfl) (by kernel_rfl) (fun _ => rfl) (by simp [Arr.len]) ?_
    refine O_nil ?_
    refine Gh_e ⟨⟨21, [(4, .po 2 0)]⟩, [.lv 6 (w2.1.map AV.bool), .lv 2 [.ro (a1.Strokes.map cSStroke), .i a1.Wait], .lv 6 (w2.1.map AV.bool)]⟩ ?_
    refine W_ret ?_
    replace h := Option.some.inj h; subst h
    exact Fin_free (l := [.agg (w2.1.map AV.bool)]) (res_arr (id := 2) (by kernel_rfl) (by kernel_rfl)) (by kernel_rfl) (bels_arr (fun _ => rfl) _)

theorem p74 (a0 : (List Bool)) (a1 : Bool) (r : Int) (h : m74 a0 a1 = some r) : Pt E0 hp 74 [.ro (a0.map cB), .bool a1] (.i r) := by
  unfold m74 at h
  refine Pt_W (fn74) rfl (by decide) ?_
  refine W_seq ?_
  refine W_gh ?_
  refine W_reg ?_
  refine O_p 1 ?_
  refine O_nil ?_
  refine Gh_e ⟨⟨19, [(0, .ro (a0.map cB)), (1, .bool a1)]⟩, []⟩ ?_
  refine W_seq ?_
  refine W_seq ?_
  refine W_gh ?_
  refine W_reg ?_
  refine O_p 1 ?_
  refine O_len (l := a0) cB (by kernel_rfl) (by kernel_rfl) ?_
  refine O_p 1 ?_
  refine O_nil ?_
  refine Gh_e ⟨⟨19, [(0, .ro (a0.map cB)), (1, .bool a1), (7, .i (a0.length : Int)), (8, .i 0)]⟩, []⟩ ?_
  refine W_loop (fun s1 : Int => ⟨⟨19, [(0, .ro (a0.map cB)), (1, .bool a1), (7, .i (a0.length : Int)), (8, .i s1)]⟩, []⟩) (fun w2 : Unit => ⟨⟨19, []⟩, []⟩) h (by kernel_rfl) (fun s1 c h => ?_) (fun w2 h => ?_)
  · refine W_gh ?_
    refine W_seq ?_
    refine W_reg ?_
    refine O_p 1 ?_
    refine O_nil ?_
    refine W_seq ?_
    refine W_gh ?_
    refine W_cond (c := (decide (s1 < (a0.length : Int)))) (by kernel_rfl) (fun c3 => ?_) (fun c3 => ?_)
    · replace h := fork_t c3 h
      refine W_skip ?_
      refine Gh_e ⟨⟨19, [(0, .ro (a0.map cB)), (1, .bool a1), (7, .i (a0.length : Int)), (8, .i s1)]⟩, []⟩ ?_
      refine W_seq ?_
      refine W_gh ?_
      refine W_block ?_
      refine W_seq ?_
      refine W_gh ?_
      refine W_reg ?_
      refine O_p 2 ?_
      refine O_nil ?_
      refine Gh_e ⟨⟨19, [(0, .ro (a0.map cB)), (1, .bool a1), (5, .i s1), (7, .i (a0.length : Int)), (8, .i s1)]⟩, []⟩ ?_
      refine W_seq ?_
      refine W_gh ?_
      refine W_reg ?_
      refine O_p 3 ?_
      refine O_idx (kd := .i64) cB h (fun _ => rfl) (by kernel_rfl) (by kernel_rfl) (by kernel_rfl) (fun v4 e_v4 h => ?_)
      refine O_p 2 ?_
      refine O_nil ?_
      refine Gh_e ⟨⟨19, [(0, .ro (a0.map cB)), (1, .bool a1), (5, .i s1), (7, .i (a0.length : Int)), (8, .i s1), (16, .bool ((a1 == v4) != false))]⟩, []⟩ ?_
      refine W_gh ?_
      refine W_cond (c := ((a1 == v4) != false)) (by kernel_rfl) (fun c5 => ?_) (fun c5 => ?_)
      · replace h := fork_t c5 h
        refine W_seq ?_
        refine W_gh ?_
        refine W_reg ?_
        refine O_p 2 ?_
        refine O_nil ?_
        refine Gh_e ⟨⟨19, [(0, .ro (a0.map cB)), (1, .bool a1), (4, .i s1), (7, .i (a0.length : Int)), (8, .i s1), (16, .bool ((a1 == v4) != false))]⟩, []⟩ ?_
        refine W_ret ?_
        replace h := Option.some.inj h; subst h
        refine ⟨_, rfl, fun h => ?_⟩
        replace h := Option.some.inj h; subst h
        exact Fin_free (l := [.i s1]) (by kernel_rfl) (by kernel_rfl) rfl
      · replace h := fork_f c5 h
        refine W_skip ?_
        refine Gh_e ⟨⟨19, [(0, .ro (a0.map cB)), (1, .bool a1), (7, .i (a0.length : Int)), (8, .i s1)]⟩, []⟩ ?_
        refine Gh_e ⟨⟨19, [(0, .ro (a0.map cB)), (1, .bool a1), (7, .i (a0.length : Int)), (8, .i s1)]⟩, []⟩ ?_
        refine W_gh ?_
        refine W_reg ?_
        refine O_p 2 ?_
        refine O_nil ?_
        refine Gh_e ⟨⟨19, [(0, .ro (a0.map cB)), (1, .bool a1), (7, .i (a0.length : Int)), (8, .i (addI .i64 s1 1))]⟩, []⟩ ?_
        refine Gh_e ⟨⟨19, [(0, .ro (a0.map cB)), (1, .bool a1), (7, .i (a0.length : Int)), (8, .i (addI .i64 s1 1))]⟩, []⟩ ?_
        replace h := Option.some.inj h; subst h
        exact ⟨_, rfl, by kernel_rfl⟩
    · replace h := fork_f c3 h
      refine W_exit ?_
      refine X_hit ?_
      refine Gh_e ⟨⟨19, []⟩, []⟩ ?_
      replace h := Option.some.inj h; subst h
      exact ⟨_, rfl, by kernel_rfl⟩
  · refine W_seq ?_
    refine W_reg ?_
    refine O_p 1 ?_
    refine O_nil ?_
    refine W_ret ?_
    replace h := Option.some.inj h; subst h
    exact Fin_free (l := [.i (-1)]) (by kernel_rfl) (by kernel_rfl) rfl

theorem p61 (a0 : (List Bool)) (a1 : Bool) (r : Bool) (h : m61 a0 a1 = some r) : Pt E0 hp 61 [.ro (a0.map cB), .bool a1] (.bool r) := by
  unfold m61 at h
  refine Pt_W (fn61) rfl (by decide) ?_
  refine W_seq ?_
  refine W_gh ?_
  refine W_reg ?_
  refine O_p 1 ?_
  refine O_nil ?_
  refine Gh_e ⟨⟨9, [(0, .ro (a0.map cB)), (1, .bool a1)]⟩, []⟩ ?_
  refine W_seq ?_
  refine W_gh ?_
  refine W_reg ?_
  refine O_p 2 ?_
  refine O_call (fun v => .i v) h (.inr rfl) (ys := [.ro (a0.map cB), .bool a1]) (fun _ e => p74 _ _ _ e) (by kernel_rfl) (by kernel_rfl) (bels_cons (ro_bel okB.bel _) (bels_cons rfl rfl)) (fun v1 e_v1 h => ?_)
  refine O_p 2 ?_
  refine O_nil ?_
  refine Gh_e ⟨⟨9, [(4, .bool (decide (v1 ≥ 0)))]⟩, []⟩ ?_
  refine W_ret ?_
  replace h := Option.some.inj h; subst h
  exact Fin_free (l := [.bool (decide (v1 ≥ 0))]) (by kernel_rfl) (by kernel_rfl) rfl

theorem p35 (a0 : SSequence) (r : Int) (h : m35 a0 = some r) : Pt E0 hp 35 [.agg (cSSequence a0)] (.i r) := by
  unfold m35 at h
  refine Pt_W (fn35) rfl (by decide) ?_
  refine W_seq ?_
  refine W_gh ?_
  refine W_reg ?_
  refine O_p 2 ?_
  refine O_nil ?_
  refine Gh_e ⟨⟨65, [(1, .po 0 0)]⟩, [.lv 2 [.i a0.Actuators, .ro (a0.Steps.map cSStep)]]⟩ ?_
  refine W_seq ?_
  refine W_gh ?_
  refine W_block ?_
  refine W_seq ?_
  refine W_cut ⟨⟨65, [(1, .po 0 0), (10, .bool ((decide (a0.Actuators < 1)) || (decide (a0.Actuators > 6))))]⟩, [.lv 2 [.i a0.Actuators, .ro (a0.Steps.map cSStep)]]⟩ ?_ ?_
  · generalize e_g1 : ((decide (a0.Actuators < 1)) || (decide (a0.Actuators > 6))) = g1
    refine W_gh ?_
    refine W_reg ?_
    refine O_p 4 ?_
    refine O_fork (n := 14) (decide (a0.Actuators < 1)) (by kernel_rfl) (fun c2 => ?_) (fun c2 => ?_)
    · skip
      refine O_p 5 ?_
      refine O_nil ?_
      refine Gh_e ⟨⟨65, [(1, .po 0 0), (10, .bool true)]⟩, [.lv 2 [.i a0.Actuators, .ro (a0.Steps.map cSStep)]]⟩ ?_
      have q := e_g1; simp only [c2, cond_true, cond_false, Bool.true_and, Bool.false_and, Bool.true_or, Bool.false_or] at q; subst q
      show _ = _
      kernel_rfl
    · skip
      refine O_p 5 ?_
      refine O_nil ?_
      refine Gh_e ⟨⟨65, [(1, .po 0 0), (10, .bool (decide (a0.Actuators > 6)))]⟩, [.lv 2 [.i a0.Actuators, .ro (a0.Steps.map cSStep)]]⟩ ?_
      have q := e_g1; simp only [c2, cond_true, cond_false, Bool.true_and, Bool.false_and, Bool.true_or, Bool.false_or] at q; subst q
      show _ = _
      kernel_rfl
  · refine W_gh ?_
    refine W_cond (c := ((decide (a0.Actuators < 1)) || (decide (a0.Actuators > 6)))) (by kernel_rfl) (fun c3 => ?_) (fun c3 => ?_)
    · replace h := fork_t c3 h
      refine W_seq ?_
      refine W_reg ?_
      refine O_p 1 ?_
      refine O_nil ?_
      refine W_ret ?_
      replace h := Option.some.inj h; subst h
      exact Fin_free (l := [.i 2]) (by kernel_rfl) (by kernel_rfl) rfl
    · replace h := fork_f c3 h
      refine W_seq ?_
      refine W_gh ?_
      refine W_reg ?_
      refine O_p 2 ?_
      refine O_len (l := a0.Steps) cSStep (by kernel_rfl) (by kernel_rfl) ?_
      refine O_p 2 ?_
      refine O_nil ?_
      refine Gh_e ⟨⟨65, [(1, .po 0 0), (10, .bool ((decide (a0.Actuators < 1)) || (decide (a0.Actuators > 6)))), (19, .bool ((a0.Steps.length : Int) == 0))]⟩, [.lv 2 [.i a0.Actuators, .ro (a0.Steps.map cSStep)]]⟩ ?_
      refine W_gh ?_
      refine W_cond (c := ((a0.Steps.length : Int) == 0)) (by kernel_rfl) (fun c4 => ?_) (fun c4 => ?_)
      · replace h := fork_t c4 h
        refine W_seq ?_
        refine W_reg ?_
        refine O_p 1 ?_
        refine O_nil ?_
        refine W_ret ?_
        replace h := Option.some.inj h; subst h
        exact Fin_free (l := [.i 13]) (by kernel_rfl) (by kernel_rfl) rfl
      · replace h := fork_f c4 h
        refine W_seq ?_
        refine W_gh ?_
        refine W_reg ?_
        refine O_p 2 ?_
        refine O_len (l := a0.Steps) cSStep (by kernel_rfl) (by kernel_rfl) ?_
        refine O_p 2 ?_
        refine O_nil ?_
        refine Gh_e ⟨⟨65, [(1, .po 0 0), (10, .bool ((decide (a0.Actuators < 1)) || (decide (a0.Actuators > 6)))), (19, .bool ((a0.Steps.length : Int) == 0)), (24, .bool (decide ((a0.Steps.length : Int) > 64)))]⟩, [.lv 2 [.i a0.Actuators, .ro (a0.Steps.map cSStep)]]⟩ ?_
        refine W_gh ?_
        refine W_cond (c := (decide ((a0.Steps.length : Int) > 64))) (by kernel_rfl) (fun c5 => ?_) (fun c5 => ?_)
        · replace h := fork_t c5 h
          refine W_seq ?_
          refine W_reg ?_
          refine O_p 1 ?_
          refine O_nil ?_
          refine W_ret ?_
          replace h := Option.some.inj h; subst h
          exact Fin_free (l := [.i 5]) (by kernel_rfl) (by kernel_rfl) rfl
        · replace h := fork_f c5 h
          refine W_skip ?_
          refine Gh_e ⟨⟨65, [(1, .po 0 0), (10, .bool ((decide (a0.Actuators < 1)) || (decide (a0.Actuators > 6)))), (19, .bool ((a0.Steps.length : Int) == 0))]⟩, [.lv 2 [.i a0.Actuators, .ro (a0.Steps.map cSStep)]]⟩ ?_
          refine Gh_e ⟨⟨65, [(1, .po 0 0), (10, .bool ((decide (a0.Actuators < 1)) || (decide (a0.Actuators > 6))))]⟩, [.lv 2 [.i a0.Actuators, .ro (a0.Steps.map cSStep)]]⟩ ?_
          refine Gh_e ⟨⟨65, [(1, .po 0 0)]⟩, [.lv 2 [.i a0.Actuators, .ro (a0.Steps.map cSStep)]]⟩ ?_
          refine Gh_e ⟨⟨65, [(1, .po 0 0)]⟩, [.lv 2 [.i a0.Actuators, .ro (a0.Steps.map cSStep)]]⟩ ?_
          refine W_seq ?_
          refine W_reg ?_
          refine O_p 2 ?_
          refine O_nil ?_
          refine W_seq ?_
          refine W_seq ?_
          refine W_gh ?_
          refine W_reg ?_
          refine O_p 2 ?_
          refine O_len (l := a0.Steps) cSStep (by kernel_rfl) (by kernel_rfl) ?_
          refine O_p 1 ?_
          refine O_nil ?_
          refine Gh_e ⟨⟨65, [(1, .po 0 0), (3, .po 1 0), (4, .po 2 0), (30, .ro (a0.Steps.map cSStep)), (31, .i (a0.Steps.length : Int)), (32, .i 0)]⟩, [.lv 2 [.i a0.Actuators, .ro (a0.Steps.map cSStep)], .lv 6 ((Arr.rep 6 false).1.map AV.bool), .lv 6 ((Arr.rep 6 false).1.map AV.bool)]⟩ ?_
          refine W_loop (fun s6 : (Arr 6 Bool) × (Arr 6 Bool) × Int => ⟨⟨65, [(1, .po 0 0), (3, .po 1 0), (4, .po 2 0), (30, .ro (a0.Steps.map cSStep)), (31, .i (a0.Steps.length : Int)), (32, .i s6.2.2)]⟩, [.lv 2 [.i a0.Actuators, .ro (a0.Steps.map cSStep)], .lv 6 (s6.1.1.map AV.bool), .lv 6 (s6.2.1.1.map AV.bool)]⟩) (fun w7 : (Arr 6 Bool) × (Arr 6 Bool) => ⟨⟨65, [(1, .po 0 0), (3, .po 1 0), (4, .po 2 0)]⟩, [.lv 2 [.i a0.Actuators, .ro (a0.Steps.map cSStep)], .lv 6 (w7.1.1.map AV.bool), .lv 6 (w7.2.1.map AV.bool)]⟩) h (by kernel_rfl) (fun s6 c h => ?_) (fun w7 h => ?_)
          · refine W_gh ?_
            refine W_seq ?_
            refine W_reg ?_
            refine O_p 1 ?_
            refine O_nil ?_
            refine W_seq ?_
            refine W_gh ?_
            refine W_cond (c := (decide (s6.2.2 < (a0.Steps.length : Int)))) (by kernel_rfl) (fun c8 => ?_) (fun c8 => ?_)
            · replace h := fork_t c8 h
              refine W_skip ?_
              refine Gh_e ⟨⟨65, [(1, .po 0 0), (3, .po 1 0), (4, .po 2 0), (30, .ro (a0.Steps.map cSStep)), (31, .i (a0.Steps.length : Int)), (32, .i s6.2.2)]⟩, [.lv 2 [.i a0.Actuators, .ro (a0.Steps.map cSStep)], .lv 6 (s6.1.1.map AV.bool), .lv 6 (s6.2.1.1.map AV.bool)]⟩ ?_
              refine W_seq ?_
              refine W_gh ?_
              refine W_block ?_
              refine W_seq ?_
              refine W_gh ?_
              refine W_reg ?_
              refine O_idx (kd := .i64) cSStep h (fun _ => rfl) (by kernel_rfl) (by kernel_rfl) (by kernel_rfl) (fun v9 e_v9 h => ?_)
              refine O_p 3 ?_
              refine O_nil ?_
              refine Gh_e ⟨⟨65, [(1, .po 0 0), (3, .po 1 0), (4, .po 2 0), (6, .po 3 0), (30, .ro (a0.Steps.map cSStep)), (31, .i (a0.Steps.length : Int)), (32, .i s6.2.2)]⟩, [.lv 2 [.i a0.Actuators, .ro (a0.Steps.map cSStep)], .lv 6 (s6.1.1.map AV.bool), .lv 6 (s6.2.1.1.map AV.bool), .lv 2 [.ro (v9.Strokes.map cSStroke), .i v9.Wait]]⟩ ?_
              refine W_seq ?_
              refine W_seq ?_
              refine W_gh ?_
              refine W_reg ?_
              refine O_p 2 ?_
              refine O_ldW (id := 1) (c1 := AV.bool) (a := s6.1) (by kernel_rfl) (by kernel_rfl) (by kernel_rfl) ?_
              refine O_call (fun v => .i v) h (.inr rfl) (ys := [.agg (cSSequence a0), .agg (cSStep v9), .agg ((cA AV.bool) s6.1)]) (fun _ e => p59 _ _ _ _ e) (by kernel_rfl) (by kernel_rfl) (bels_cons (okSSequence.bel _) (bels_cons (okSStep.bel _) (bels_cons ((okA 6 (fun _ => rfl) (fun _ => rfl)).bel _) rfl))) (fun v10 e_v10 h => ?_)
              refine O_p 1 ?_
              refine O_nil ?_
              refine Gh_e ⟨⟨65, [(1, .po 0 0), (3, .po 1 0), (4, .po 2 0), (6, .po 3 0), (7, .i v10), (30, .ro (a0.Steps.map cSStep)), (31, .i (a0.Steps.length : Int)), (32, .i s6.2.2)]⟩, [.lv 2 [.i a0.Actuators, .ro (a0.Steps.map cSStep)], .lv 6 (s6.1.1.map AV.bool), .lv 6 (s6.2.1.1.map AV.bool), .lv 2 [.ro (v9.Strokes.map cSStroke), .i v9.Wait]]⟩ ?_
              refine W_seq ?_
              refine W_gh ?_
              refine W_reg ?_
              refine O_p 2 ?_
              refine O_nil ?_
              refine Gh_e ⟨⟨65, [(1, .po 0 0), (3, .po 1 0), (4, .po 2 0), (6, .po 3 0), (7, .i v10), (30, .ro (a0.Steps.map cSStep)), (31, .i (a0.Steps.length : Int)), (32, .i s6.2.2), (41, .bool (v10 != 0))]⟩, [.lv 2 [.i a0.Actuators, .ro (a0.Steps.map cSStep)], .lv 6 (s6.1.1.map AV.bool), .lv 6 (s6.2.1.1.map AV.bool), .lv 2 [.ro (v9.Strokes.map cSStroke), .i v9.Wait]]⟩ ?_
              refine W_gh ?_
              refine W_cond (c := (v10 != 0)) (by kernel_rfl) (fun c11 => ?_) (fun c11 => ?_)
              · replace h := fork_t c11 h
                refine W_seq ?_
                refine W_gh ?_
                refine W_reg ?_
                refine O_p 2 ?_
                refine O_nil ?_
                refine Gh_e ⟨⟨65, [(1, .po 0 0), (2, .i v10), (3, .po 1 0), (4, .po 2 0), (6, .po 3 0), (30, .ro (a0.Steps.map cSStep)), (31, .i (a0.Steps.length : Int)), (32, .i s6.2.2), (41, .bool (v10 != 0))]⟩, [.lv 2 [.i a0.Actuators, .ro (a0.Steps.map cSStep)], .lv 6 (s6.1.1.map AV.bool), .lv 6 (s6.2.1.1.map AV.bool), .lv 2 [.ro (v9.Strokes.map cSStroke), .i v9.Wait]]⟩ ?_
                refine W_ret ?_
                replace h := Option.some.inj h; subst h
                refine ⟨_, rfl, fun h => ?_⟩
                replace h := Option.some.inj h; subst h
                exact Fin_free (l := [.i v10]) (by kernel_rfl) (by kernel_rfl) rfl
              · replace h := fork_f c11 h
                refine W_skip ?_
                refine Gh_e ⟨⟨65, [(1, .po 0 0), (3, .po 1 0), (4, .po 2 0), (6, .po 3 0), (30, .ro (a0.Steps.map cSStep)), (31, .i (a0.Steps.length : Int)), (32, .i s6.2.2)]⟩, [.lv 2 [.i a0.Actuators, .ro (a0.Steps.map cSStep)], .lv 6 (s6.1.1.map AV.bool), .lv 6 (s6.2.1.1.map AV.bool), .lv 2 [.ro (v9.Strokes.map cSStroke), .i v9.Wait]]⟩ ?_
                refine W_seq ?_
                refine W_gh ?_
                refine W_reg ?_
                refine O_ldW (id := 1) (c1 := AV.bool) (a := s6.1) (by kernel_rfl) (by kernel_rfl) (by kernel_rfl) ?_
                refine O_p 1 ?_
                refine O_call (fun v => .agg (v.1.map AV.bool)) h (.inr rfl) (ys := [.agg ((cA AV.bool) s6.1), .agg (cSStep v9)]) (fun _ e => p60 _ _ _ e) (by kernel_rfl) (by kernel_rfl) (bels_cons ((okA 6 (fun _ => rfl) (fun _ => rfl)).bel _) (bels_cons (okSStep.bel _) rfl)) (fun v12 e_v12 h => ?_)
                refine O_stB (id := 1) (c1 := AV.bool) (a := v12) (old := (s6.1.1.map AV.bool)) (by kernel_rfl) (by kernel_rfl) (by kernel_rfl) (by kernel_rfl) (fun _ => rfl) (by simp [Arr.len]) ?_
                refine O_nil ?_
                refine Gh_e ⟨⟨65, [(1, .po 0 0), (3, .po 1 0), (4, .po 2 0), (6, .po 3 0), (30, .ro (a0.Steps.map cSStep)), (31, .i (a0.Steps.length : Int)), (32, .i s6.2.2)]⟩, [.lv 2 [.i a0.Actuators, .ro (a0.Steps.map cSStep)], .lv 6 (v12.1.map AV.bool), .lv 6 (s6.2.1.1.map AV.bool), .lv 2 [.ro (v9.Strokes.map cSStroke), .i v9.Wait]]⟩ ?_
                refine W_seq ?_
                refine W_gh ?_
                refine W_reg ?_
                refine O_p 2 ?_
                refine O_len (l := v9.Strokes) cSStroke (by kernel_rfl) (by kernel_rfl) ?_
                refine O_p 1 ?_
                refine O_nil ?_
                refine Gh_e ⟨⟨65, [(1, .po 0 0), (3, .po 1 0), (4, .po 2 0), (30, .ro (a0.Steps.map cSStep)), (31, .i (a0.Steps.length : Int)), (32, .i s6.2.2), (47, .ro (v9.Strokes.map cSStroke)), (48, .i (v9.Strokes.length : Int)), (49, .i 0)]⟩, [.lv 2 [.i a0.Actuators, .ro (a0.Steps.map cSStep)], .lv 6 (v12.1.map AV.bool), .lv 6 (s6.2.1.1.map AV.bool), .lv 2 [.ro (v9.Strokes.map cSStroke), .i v9.Wait]]⟩ ?_
                refine W_loopS (fun s13 : (Arr 6 Bool) × Int => ⟨⟨65, [(1, .po 0 0), (3, .po 1 0), (4, .po 2 0), (30, .ro (a0.Steps.map cSStep)), (31, .i (a0.Steps.length : Int)), (32, .i s6.2.2), (47, .ro (v9.Strokes.map cSStroke)), (48, .i (v9.Strokes.length : Int)), (49, .i s13.2)]⟩, [.lv 2 [.i a0.Actuators, .ro (a0.Steps.map cSStep)], .lv 6 (v12.1.map AV.bool), .lv 6 (s13.1.1.map AV.bool), .lv 2 [.ro (v9.Strokes.map cSStroke), .i v9.Wait]]⟩) (fun w14 : (Arr 6 Bool) => ⟨⟨65, [(1, .po 0 0), (3, .po 1 0), (4, .po 2 0), (30, .ro (a0.Steps.map cSStep)), (31, .i (a0.Steps.length : Int)), (32, .i s6.2.2)]⟩, [.lv 2 [.i a0.Actuators, .ro (a0.Steps.map cSStep)], .lv 6 (v12.1.map AV.bool), .lv 6 (w14.1.map AV.bool), .lv 2 [.ro (v9.Strokes.map cSStroke), .i v9.Wait]]⟩) h (by kernel_rfl) (fun s13 c h => ?_) (fun w14 e_w14 h => ?_)
                · refine W_gh ?_
                  refine W_seq ?_
                  refine W_reg ?_
                  refine O_p 1 ?_
                  refine O_nil ?_
                  refine W_seq ?_
                  refine W_gh ?_
                  refine W_cond (c := (decide (s13.2 < (v9.Strokes.length : Int)))) (by kernel_rfl) (fun c15 => ?_) (fun c15 => ?_)
                  · replace h := fork_t c15 h
                    refine W_skip ?_
                    refine Gh_e ⟨⟨65, [(1, .po 0 0), (3, .po 1 0), (4, .po 2 0), (30, .ro (a0.Steps.map cSStep)), (31, .i (a0.Steps.length : Int)), (32, .i s6.2.2), (47, .ro (v9.Strokes.map cSStroke)), (48, .i (v9.Strokes.length : Int)), (49, .i s13.2)]⟩, [.lv 2 [.i a0.Actuators, .ro (a0.Steps.map cSStep)], .lv 6 (v12.1.map AV.bool), .lv 6 (s13.1.1.map AV.bool), .lv 2 [.ro (v9.Strokes.map cSStroke), .i v9.Wait]]⟩ ?_
                    refine W_seq ?_
                    refine W_gh ?_
                    refine W_block ?_
                    refine W_seq ?_
                    refine W_gh ?_
                    refine W_reg ?_
                    refine O_idx (kd := .i64) cSStroke h (fun _ => rfl) (by kernel_rfl) (by kernel_rfl) (by kernel_rfl) (fun v16 e_v16 h => ?_)
                    refine O_p 3 ?_
                    refine O_nil ?_
                    refine Gh_e ⟨⟨65, [(1, .po 0 0), (3, .po 1 0), (4, .po 2 0), (9, .po 4 0), (30, .ro (a0.Steps.map cSStep)), (31, .i (a0.Steps.length : Int)), (32, .i s6.2.2), (47, .ro (v9.Strokes.map cSStroke)), (48, .i (v9.Strokes.length : Int)), (49, .i s13.2)]⟩, [.lv 2 [.i a0.Actuators, .ro (a0.Steps.map cSStep)], .lv 6 (v12.1.map AV.bool), .lv 6 (s13.1.1.map AV.bool), .lv 2 [.ro (v9.Strokes.map cSStroke), .i v9.Wait], .lv 2 [.i v16.Actuator, .bool v16.Out]]⟩ ?_
                    refine W_gh ?_
                    refine W_reg ?_
                    refine O_p 2 ?_
                    refine O_iadB (kd := .i64) (id := 2) AV.bool h (by kernel_rfl) (by kernel_rfl) (by kernel_rfl) (by kernel_rfl) (fun v17 e_v17 h => ?_)
                    refine O_stA (id := 2) AV.bool e_v17 (by kernel_rfl) (by kernel_rfl) (by kernel_rfl) (v := true) (by kernel_rfl) (fun _ => rfl) (fun _ => rfl) ?_
                    refine O_nil ?_
                    refine Gh_e ⟨⟨65, [(1, .po 0 0), (3, .po 1 0), (4, .po 2 0), (30, .ro (a0.Steps.map cSStep)), (31, .i (a0.Steps.length : Int)), (32, .i s6.2.2), (47, .ro (v9.Strokes.map cSStroke)), (48, .i (v9.Strokes.length : Int)), (49, .i s13.2)]⟩, [.lv 2 [.i a0.Actuators, .ro (a0.Steps.map cSStep)], .lv 6 (v12.1.map AV.bool), .lv 6 ((s13.1.put v16.Actuator.toNat true).1.map AV.bool), .lv 2 [.ro (v9.Strokes.map cSStroke), .i v9.Wait], .lv 2 [.i v16.Actuator, .bool v16.Out]]⟩ ?_
                    refine Gh_one (s1 := ⟨⟨65, [(1, .po 0 0), (3, .po 1 0), (4, .po 2 0), (30, .ro (a0.Steps.map cSStep)), (31, .i (a0.Steps.length : Int)), (32, .i s6.2.2), (47, .ro (v9.Strokes.map cSStroke)), (48, .i (v9.Strokes.length : Int)), (49, .i s13.2)]⟩, [.lv 2 [.i a0.Actuators, .ro (a0.Steps.map cSStep)], .lv 6 (v12.1.map AV.bool), .lv 6 ((s13.1.put v16.Actuator.toNat true).1.map AV.bool), .lv 2 [.ro (v9.Strokes.map cSStroke), .i v9.Wait], .lv 2 [.i v16.Actuator, .bool v16.Out]]⟩) (by kernel_rfl) ?_
                    refine Gh_at (s1 := ⟨⟨65, [(1, .po 0 0), (3, .po 1 0), (4, .po 2 0), (30, .ro (a0.Steps.map cSStep)), (31, .i (a0.Steps.length : Int)), (32, .i s6.2.2), (47, .ro (v9.Strokes.map cSStroke)), (48, .i (v9.Strokes.length : Int)), (49, .i s13.2)]⟩, [.lv 2 [.i a0.Actuators, .ro (a0.Steps.map cSStep)], .lv 6 (v12.1.map AV.bool), .lv 6 ((s13.1.put v16.Actuator.toNat true).1.map AV.bool), .lv 2 [.ro (v9.Strokes.map cSStroke), .i v9.Wait], .lv 2 [.i v16.Actuator, .bool v16.Out]]⟩) (by kernel_rfl) ?_
                    refine Gh_trunc (s1 := ⟨⟨65, [(1, .po 0 0), (3, .po 1 0), (4, .po 2 0), (30, .ro (a0.Steps.map cSStep)), (31, .i (a0.Steps.length : Int)), (32, .i s6.2.2), (47, .ro (v9.Strokes.map cSStroke)), (48, .i (v9.Strokes.length : Int)), (49, .i s13.2)]⟩, [.lv 2 [.i a0.Actuators, .ro (a0.Steps.map cSStep)], .lv 6 (v12.1.map AV.bool), .lv 6 ((s13.1.put v16.Actuator.toNat true).1.map AV.bool), .lv 2 [.ro (v9.Strokes.map cSStroke), .i v9.Wait]]⟩) (by kernel_rfl) (tb_ref rfl (tb_ref rfl (tb_ref rfl (tb_free (ro_bel okSStep.bel _) (tb_free rfl (tb_free rfl (tb_free (ro_bel okSStroke.bel _) (tb_free rfl (tb_free rfl rfl))))))))) (H1 := [.lv 2 [.i a0.Actuators, .ro (a0.Steps.map cSStep)], .lv 6 (v12.1.map AV.bool), .lv 6 ((s13.1.put v16.Actuator.toNat true).1.map AV.bool), .lv 2 [.ro (v9.Strokes.map cSStroke), .i v9.Wait]]) (by kernel_rfl) (ob_boxn (bn_free rfl (bn_free (ro_bel okSStep.bel _) rfl)) (ob_boxn (bels_mono (Nat.zero_le _) _ (bels_arr (fun _ => rfl) _)) (ob_boxn (bels_mono (Nat.zero_le _) _ (bels_arr (fun _ => rfl) _)) (ob_boxn (bn_free (ro_bel okSStroke.bel _) (bn_free rfl rfl)) rfl)))) (by kernel_rfl) ?_
                    refine Gh_nil ?_
                    refine W_gh ?_
                    refine W_reg ?_
                    refine O_p 2 ?_
                    refine O_nil ?_
                    refine Gh_e ⟨⟨65, [(1, .po 0 0), (3, .po 1 0), (4, .po 2 0), (30, .ro (a0.Steps.map cSStep)), (31, .i (a0.Steps.length : Int)), (32, .i s6.2.2), (47, .ro (v9.Strokes.map cSStroke)), (48, .i (v9.Strokes.length : Int)), (49, .i (addI .i64 s13.2 1))]⟩, [.lv 2 [.i a0.Actuators, .ro (a0.Steps.map cSStep)], .lv 6 (v12.1.map AV.bool), .lv 6 ((s13.1.put v16.Actuator.toNat true).1.map AV.bool), .lv 2 [.ro (v9.Strokes.map cSStroke), .i v9.Wait]]⟩ ?_
                    refine Gh_one (s1 := ⟨⟨65, [(1, .po 0 0), (3, .po 1 0), (4, .po 2 0), (30, .ro (a0.Steps.map cSStep)), (31, .i (a0.Steps.length : Int)), (32, .i s6.2.2), (47, .ro (v9.Strokes.map cSStroke)), (48, .i (v9.Strokes.length : Int)), (49, .i (addI .i64 s13.2 1))]⟩, [.lv 2 [.i a0.Actuators, .ro (a0.Steps.map cSStep)], .lv 6 (v12.1.map AV.bool), .lv 6 ((s13.1.put v16.Actuator.toNat true).1.map AV.bool), .lv 2 [.ro (v9.Strokes.map cSStroke), .i v9.Wait]]⟩) (by kernel_rfl) ?_
                    refine Gh_trunc0 (by kernel_rfl) ?_
                    refine Gh_nil ?_
                    replace h := Option.some.inj h; subst h
                    exact ⟨_, rfl, by kernel_rfl⟩
                  · replace h := fork_f c15 h
                    refine W_exit ?_
                    refine X_hit ?_
                    refine Gh_one (s1 := ⟨⟨65, [(1, .po 0 0), (3, .po 1 0), (4, .po 2 0), (30, .ro (a0.Steps.map cSStep)), (31, .i (a0.Steps.length : Int)), (32, .i s6.2.2)]⟩, [.lv 2 [.i a0.Actuators, .ro (a0.Steps.map cSStep)], .lv 6 (v12.1.map AV.bool), .lv 6 (s13.1.1.map AV.bool), .lv 2 [.ro (v9.Strokes.map cSStroke), .i v9.Wait]]⟩) (by kernel_rfl) ?_
                    refine Gh_trunc0 (by kernel_rfl) ?_
                    refine Gh_nil ?_
                    replace h := Option.some.inj h; subst h
                    exact ⟨_, rfl, by kernel_rfl⟩
                · refine Gh_one (s1 := ⟨⟨65, [(1, .po 0 0), (3, .po 1 0), (4, .po 2 0), (30, .ro (a0.Steps.map cSStep)), (31, .i (a0.Steps.length : Int)), (32, .i s6.2.2)]⟩, [.lv 2 [.i a0.Actuators, .ro (a0.Steps.map cSStep)], .lv 6 (v12.1.map AV.bool), .lv 6 (w14.1.map AV.bool), .lv 2 [.ro (v9.Strokes.map cSStroke), .i v9.Wait]]⟩) (by kernel_rfl) ?_
                  refine Gh_at (s1 := ⟨⟨65, [(1, .po 0 0), (3, .po 1 0), (4, .po 2 0), (30, .ro (a0.Steps.map cSStep)), (31, .i (a0.Steps.length : Int)), (32, .i s6.2.2)]⟩, [.lv 2 [.i a0.Actuators, .ro (a0.Steps.map cSStep)], .lv 6 (v12.1.map AV.bool), .lv 6 (w14.1.map AV.bool), .lv 2 [.ro (v9.Strokes.map cSStroke), .i v9.Wait]]⟩) (by kernel_rfl) ?_
                  refine Gh_trunc (s1 := ⟨⟨65, [(1, .po 0 0), (3, .po 1 0), (4, .po 2 0), (30, .ro (a0.Steps.map cSStep)), (31, .i (a0.Steps.length : Int)), (32, .i s6.2.2)]⟩, [.lv 2 [.i a0.Actuators, .ro (a0.Steps.map cSStep)], .lv 6 (v12.1.map AV.bool), .lv 6 (w14.1.map AV.bool)]⟩) (by kernel_rfl) (tb_ref rfl (tb_ref rfl (tb_ref rfl (tb_free (ro_bel okSStep.bel _) (tb_free rfl (tb_free rfl rfl)))))) (H1 := [.lv 2 [.i a0.Actuators, .ro (a0.Steps.map cSStep)], .lv 6 (v12.1.map AV.bool), .lv 6 (w14.1.map AV.bool)]) (by kernel_rfl) (ob_boxn (bn_free rfl (bn_free (ro_bel okSStep.bel _) rfl)) (ob_boxn (bels_mono (Nat.zero_le _) _ (bels_arr (fun _ => rfl) _)) (ob_boxn (bels_mono (Nat.zero_le _) _ (bels_arr (fun _ => rfl) _)) rfl))) (by kernel_rfl) ?_
                  refine Gh_nil ?_
                  refine W_gh ?_
                  refine W_reg ?_
                  refine O_p 2 ?_
                  refine O_nil ?_
                  refine Gh_e ⟨⟨65, [(1, .po 0 0), (3, .po 1 0), (4, .po 2 0), (30, .ro (a0.Steps.map cSStep)), (31, .i (a0.Steps.length : Int)), (32, .i (addI .i64 s6.2.2 1))]⟩, [.lv 2 [.i a0.Actuators, .ro (a0.Steps.map cSStep)], .lv 6 (v12.1.map AV.bool), .lv 6 (w14.1.map AV.bool)]⟩ ?_
                  refine Gh_one (s1 := ⟨⟨65, [(1, .po 0 0), (3, .po 1 0), (4, .po 2 0), (30, .ro (a0.Steps.map cSStep)), (31, .i (a0.Steps.length : Int)), (32, .i (addI .i64 s6.2.2 1))]⟩, [.lv 2 [.i a0.Actuators, .ro (a0.Steps.map cSStep)], .lv 6 (v12.1.map AV.bool), .lv 6 (w14.1.map AV.bool)]⟩) (by kernel_rfl) ?_
                  refine Gh_trunc0 (by kernel_rfl) ?_
                  refine Gh_nil ?_
                  replace h := Option.some.inj h; subst h
                  exact ⟨_, rfl, by kernel_rfl⟩
            · replace h := fork_f c8 h
              refine W_exit ?_
              refine X_hit ?_
              refine Gh_one (s1 := ⟨⟨65, [(1, .po 0 0), (3, .po 1 0), (4, .po 2 0)]⟩, [.lv 2 [.i a0.Actuators, .ro (a0.Steps.map cSStep)], .lv 6 (s6.1.1.map AV.bool), .lv 6 (s6.2.1.1.map AV.bool)]⟩) (by kernel_rfl) ?_
              refine Gh_trunc0 (by kernel_rfl) ?_
              refine Gh_nil ?_
              replace h := Option.some.inj h; subst h
              exact ⟨_, rfl, by kernel_rfl⟩
          · refine W_seq ?_
            refine W_seq ?_
            refine W_gh ?_
            refine W_reg ?_
            refine O_ldW (id := 1) (c1 := AV.bool) (a := w7.1) (by kernel_rfl) (by kernel_rfl) (by kernel_rfl) ?_
            refine O_p 1 ?_
            refine O_eqArrB (a := w7.1) (b := (Arr.rep 6 false)) (by kernel_rfl) ⟨by kernel_rfl, by kernel_rfl⟩ (by kernel_rfl) ?_
            refine O_nil ?_
            refine Gh_e ⟨⟨65, [(1, .po 0 0), (4, .po 2 0), (60, .bool ((w7.1.1 == (Arr.rep 6 false).1) != true))]⟩, [.lv 2 [.i a0.Actuators, .ro (a0.Steps.map cSStep)], .lv 6 (w7.1.1.map AV.bool), .lv 6 (w7.2.1.map AV.bool)]⟩ ?_
            refine W_gh ?_
            refine W_cond (c := ((w7.1.1 == (Arr.rep 6 false).1) != true)) (by kernel_rfl) (fun c18 => ?_) (fun c18 => ?_)
            · replace h := fork_t c18 h
              refine W_seq ?_
              refine W_reg ?_
              refine O_p 1 ?_
              refine O_nil ?_
              refine W_ret ?_
              replace h := Option.some.inj h; subst h
              exact Fin_free (l := [.i 9]) (by kernel_rfl) (by kernel_rfl) rfl
            · replace h := fork_f c18 h
              refine W_skip ?_
              refine Gh_e ⟨⟨65, [(1, .po 0 0), (4, .po 2 0)]⟩, [.lv 2 [.i a0.Actuators, .ro (a0.Steps.map cSStep)], .lv 6 (w7.1.1.map AV.bool), .lv 6 (w7.2.1.map AV.bool)]⟩ ?_
              refine W_seq ?_
              refine W_seq ?_
              refine W_gh ?_
              refine W_reg ?_
              refine O_p 2 ?_
              refine O_slcA (id := 2) (kl := .i64) (kh := .i64) (c1 := AV.bool) cB (fun _ => rfl) (fun _ => rfl) (fun _ => rfl) h (by kernel_rfl) (by kernel_rfl) (by kernel_rfl) (by kernel_rfl) (by kernel_rfl) (fun v19 e_v19 y_v19 f_v19 h => ?_)
              refine O_lent (fun v => .bool v) h (.inr rfl) (ys := [.ro (v19.map cB), .bool false]) (fun _ e => p61 _ _ _ e) (by kernel_rfl) (snaps_of (xs := [y_v19, .bool false]) (by kernel_rfl) (mapO_cons (f_v19 (by kernel_rfl)) (mapO_cons (pk_free rfl) rfl))) (fun _ => rfl) (fun v20 e_v20 h => ?_)
              refine O_nil ?_
              refine Gh_e ⟨⟨65, [(64, .bool v20)]⟩, [.lv 2 [.i a0.Actuators, .ro (a0.Steps.map cSStep)], .lv 6 (w7.1.1.map AV.bool), .lv 6 (w7.2.1.map AV.bool)]⟩ ?_
              refine W_gh ?_
              refine W_cond (c := v20) (by kernel_rfl) (fun c21 => ?_) (fun c21 => ?_)
              · replace h := fork_t c21 h
                refine W_seq ?_
                refine W_reg ?_
                refine O_p 1 ?_
                refine O_nil ?_
                refine W_ret ?_
                replace h := Option.some.inj h; subst h
                exact Fin_free (l := [.i 13]) (by kernel_rfl) (by kernel_rfl) rfl
              · replace h := fork_f c21 h
                refine W_skip ?_
                refine Gh_e ⟨⟨65, []⟩, [.lv 2 [.i a0.Actuators, .ro (a0.Steps.map cSStep)], .lv 6 (w7.1.1.map AV.bool), .lv 6 (w7.2.1.map AV.bool)]⟩ ?_
                refine W_seq ?_
                refine W_reg ?_
                refine O_p 1 ?_
                refine O_nil ?_
                refine W_ret ?_
                replace h := Option.some.inj h; subst h
                exact Fin_free (l := [.i 0]) (by kernel_rfl) (by kernel_rfl) rfl

theorem p36 (a0 : SStep) (r : Int) (h : m36 a0 = some r) : Pt E0 hp 36 [.agg (cSStep a0)] (.int .u64 r) := by
  unfold m36 at h
  refine Pt_W (fn36) rfl (by decide) ?_
  refine W_seq ?_
  refine W_gh ?_
  refine W_reg ?_
  refine O_p 2 ?_
  refine O_nil ?_
  refine Gh_e ⟨⟨21, [(1, .po 0 0)]⟩, [.lv 2 [.ro (a0.Strokes.map cSStroke), .i a0.Wait]]⟩ ?_
  refine W_seq ?_
  refine W_reg ?_
  refine O_p 1 ?_
  refine O_nil ?_
  refine W_seq ?_
  refine W_seq ?_
  refine W_gh ?_
  refine W_reg ?_
  refine O_p 2 ?_
  refine O_len (l := a0.Strokes) cSStroke (by kernel_rfl) (by kernel_rfl) ?_
  refine O_p 1 ?_
  refine O_nil ?_
  refine Gh_e ⟨⟨21, [(3, .int .u64 0), (7, .ro (a0.Strokes.map cSStroke)), (8, .i (a0.Strokes.length : Int)), (9, .i 0)]⟩, [.lv 2 [.ro (a0.Strokes.map cSStroke), .i a0.Wait]]⟩ ?_
  refine W_loopS (fun s1 : Int × Int => ⟨⟨21, [(3, .int .u64 s1.1), (7, .ro (a0.Strokes.map cSStroke)), (8, .i (a0.Strokes.length : Int)), (9, .i s1.2)]⟩, [.lv 2 [.ro (a0.Strokes.map cSStroke), .i a0.Wait]]⟩) (fun w2 : Int => ⟨⟨21, [(3, .int .u64 w2)]⟩, [.lv 2 [.ro (a0.Strokes.map cSStroke), .i a0.Wait]]⟩) h (by kernel_rfl) (fun s1 c h => ?_) (fun w2 e_w2 h => ?_)
  · refine W_gh ?_
    refine W_seq ?_
    refine W_reg ?_
    refine O_p 1 ?_
    refine O_nil ?_
    refine W_seq ?_
    refine W_gh ?_
    refine W_cond (c := (decide (s1.2 < (a0.Strokes.length : Int)))) (by kernel_rfl) (fun c3 => ?_) (fun c3 => ?_)
    · replace h := fork_t c3 h
      refine W_skip ?_
      refine Gh_e ⟨⟨21, [(3, .int .u64 s1.1), (7, .ro (a0.Strokes.map cSStroke)), (8, .i (a0.Strokes.length : Int)), (9, .i s1.2)]⟩, [.lv 2 [.ro (a0.Strokes.map cSStroke), .i a0.Wait]]⟩ ?_
      refine W_seq ?_
      refine W_gh ?_
      refine W_block ?_
      refine W_seq ?_
      refine W_gh ?_
      refine W_reg ?_
      refine O_idx (kd := .i64) cSStroke h (fun _ => rfl) (by kernel_rfl) (by kernel_rfl) (by kernel_rfl) (fun v4 e_v4 h => ?_)
      refine O_p 3 ?_
      refine O_nil ?_
      refine Gh_e ⟨⟨21, [(3, .int .u64 s1.1), (5, .po 1 0), (7, .ro (a0.Strokes.map cSStroke)), (8, .i (a0.Strokes.length : Int)), (9, .i s1.2)]⟩, [.lv 2 [.ro (a0.Strokes.map cSStroke), .i a0.Wait], .lv 2 [.i v4.Actuator, .bool v4.Out]]⟩ ?_
      refine W_gh ?_
      refine W_reg ?_
      refine O_p 3 ?_
      refine O_iadPL (kd := .i64) (cs := [.int .u64 1, .int .u64 2, .int .u64 4, .int .u64 8, .int .u64 16, .int .u64 32]) (AV.int .u64) h (by kernel_rfl) (by kernel_rfl) (by kernel_rfl) (by kernel_rfl) (by kernel_rfl) (fun v5 e_v5 R_v5 h => ?_)
      refine O_p 3 ?_
      refine O_nil ?_
      refine Gh_e ⟨⟨21, [(3, .int .u64 (orI .u64 s1.1 v5)), (7, .ro (a0.Strokes.map cSStroke)), (8, .i (a0.Strokes.length : Int)), (9, .i s1.2)]⟩, [.lv 2 [.ro (a0.Strokes.map cSStroke), .i a0.Wait], .lv 2 [.i v4.Actuator, .bool v4.Out]]⟩ ?_
      refine Gh_one (s1 := ⟨⟨21, [(3, .int .u64 (orI .u64 s1.1 v5)), (7, .ro (a0.Strokes.map cSStroke)), (8, .i (a0.Strokes.length : Int)), (9, .i s1.2)]⟩, [.lv 2 [.ro (a0.Strokes.map cSStroke), .i a0.Wait], .lv 2 [.i v4.Actuator, .bool v4.Out]]⟩) (by kernel_rfl) ?_
      refine Gh_at (s1 := ⟨⟨21, [(3, .int .u64 (orI .u64 s1.1 v5)), (7, .ro (a0.Strokes.map cSStroke)), (8, .i (a0.Strokes.length : Int)), (9, .i s1.2)]⟩, [.lv 2 [.ro (a0.Strokes.map cSStroke), .i a0.Wait], .lv 2 [.i v4.Actuator, .bool v4.Out]]⟩) (by kernel_rfl) ?_
      refine Gh_trunc (s1 := ⟨⟨21, [(3, .int .u64 (orI .u64 s1.1 v5)), (7, .ro (a0.Strokes.map cSStroke)), (8, .i (a0.Strokes.length : Int)), (9, .i s1.2)]⟩, [.lv 2 [.ro (a0.Strokes.map cSStroke), .i a0.Wait]]⟩) (by kernel_rfl) (tb_free rfl (tb_free (ro_bel okSStroke.bel _) (tb_free rfl (tb_free rfl rfl)))) (H1 := [.lv 2 [.ro (a0.Strokes.map cSStroke), .i a0.Wait]]) (by kernel_rfl) (ob_boxn (bn_free (ro_bel okSStroke.bel _) (bn_free rfl rfl)) rfl) (by kernel_rfl) ?_
      refine Gh_nil ?_
      refine W_gh ?_
      refine W_reg ?_
      refine O_p 2 ?_
      refine O_nil ?_
      refine Gh_e ⟨⟨21, [(3, .int .u64 (orI .u64 s1.1 v5)), (7, .ro (a0.Strokes.map cSStroke)), (8, .i (a0.Strokes.length : Int)), (9, .i (addI .i64 s1.2 1))]⟩, [.lv 2 [.ro (a0.Strokes.map cSStroke), .i a0.Wait]]⟩ ?_
      refine Gh_one (s1 := ⟨⟨21, [(3, .int .u64 (orI .u64 s1.1 v5)), (7, .ro (a0.Strokes.map cSStroke)), (8, .i (a0.Strokes.length : Int)), (9, .i (addI .i64 s1.2 1))]⟩, [.lv 2 [.ro (a0.Strokes.map cSStroke), .i a0.Wait]]⟩) (by kernel_rfl) ?_
      refine Gh_trunc0 (by kernel_rfl) ?_
      refine Gh_nil ?_
      replace h := Option.some.inj h; subst h
      exact ⟨_, rfl, by kernel_rfl⟩
    · replace h := fork_f c3 h
      refine W_exit ?_
      refine X_hit ?_
      refine Gh_one (s1 := ⟨⟨21, [(3, .int .u64 s1.1)]⟩, [.lv 2 [.ro (a0.Strokes.map cSStroke), .i a0.Wait]]⟩) (by kernel_rfl) ?_
      refine Gh_trunc0 (by kernel_rfl) ?_
      refine Gh_nil ?_
      replace h := Option.some.inj h; subst h
      exact ⟨_, rfl, by kernel_rfl⟩
  · refine W_seq ?_
    refine W_gh ?_
    refine W_reg ?_
    refine O_p 2 ?_
    refine O_nil ?_
    refine Gh_e ⟨⟨21, [(2, .int .u64 w2)]⟩, [.lv 2 [.ro (a0.Strokes.map cSStroke), .i a0.Wait]]⟩ ?_
    refine W_ret ?_
    replace h := Option.some.inj h; subst h
    exact Fin_free (l := [.int .u64 w2]) (by kernel_rfl) (by kernel_rfl) rfl

theorem p44 (a0 : SSequence) (a1 : Int) (a2 : Int) (r : (Int × Bool)) (h : m44 a0 a1 a2 = some r) : Pt E0 hp 44 [.agg (cSSequence a0), .i a1, .i a2] (.tup [.int .u64 r.1, .bool r.2]) := by
  unfold m44 at h
  refine Pt_W (fn44) rfl (by decide) ?_
  refine W_seq ?_
  refine W_gh ?_
  refine W_reg ?_
  refine O_p 3 ?_
  refine O_nil ?_
  refine Gh_e ⟨⟨37, [(1, .i a1), (2, .i a2), (3, .po 0 0)]⟩, [.lv 2 [.i a0.Actuators, .ro (a0.Steps.map cSStep)]]⟩ ?_
  refine W_seq ?_
  refine W_reg ?_
  refine O_p 1 ?_
  refine O_nil ?_
  refine W_seq ?_
  refine W_seq ?_
  refine W_gh ?_
  refine W_reg ?_
  refine O_p 2 ?_
  refine O_nil ?_
  refine Gh_e ⟨⟨37, [(1, .i a1), (3, .po 0 0), (8, .int .u64 0), (11, .i a2), (12, .i 0)]⟩, [.lv 2 [.i a0.Actuators, .ro (a0.Steps.map cSStep)]]⟩ ?_
  refine W_loop (fun s1 : Int × Int => ⟨⟨37, [(1, .i a1), (3, .po 0 0), (8, .int .u64 s1.2), (11, .i a2), (12, .i s1.1)]⟩, [.lv 2 [.i a0.Actuators, .ro (a0.Steps.map cSStep)]]⟩) (fun w2 : Int => ⟨⟨37, [(8, .int .u64 w2)]⟩, [.lv 2 [.i a0.Actuators, .ro (a0.Steps.map cSStep)]]⟩) h (by kernel_rfl) (fun s1 c h => ?_) (fun w2 h => ?_)
  · refine W_gh ?_
    refine W_seq ?_
    refine W_reg ?_
    refine O_p 1 ?_
    refine O_nil ?_
    refine W_seq ?_
    refine W_gh ?_
    refine W_cond (c := (decide (s1.1 < a2))) (by kernel_rfl) (fun c3 => ?_) (fun c3 => ?_)
    · replace h := fork_t c3 h
      refine W_skip ?_
      refine Gh_e ⟨⟨37, [(1, .i a1), (3, .po 0 0), (8, .int .u64 s1.2), (11, .i a2), (12, .i s1.1)]⟩, [.lv 2 [.i a0.Actuators, .ro (a0.Steps.map cSStep)]]⟩ ?_
      refine W_seq ?_
      refine W_gh ?_
      refine W_block ?_
      refine W_seq ?_
      refine W_gh ?_
      refine W_reg ?_
      refine O_p 2 ?_
      refine O_nil ?_
      refine Gh_e ⟨⟨37, [(1, .i a1), (3, .po 0 0), (8, .int .u64 s1.2), (9, .i s1.1), (11, .i a2), (12, .i s1.1)]⟩, [.lv 2 [.i a0.Actuators, .ro (a0.Steps.map cSStep)]]⟩ ?_
      refine W_seq ?_
      refine W_gh ?_
      refine W_draw ?_
      refine O_p 7 ?_
      refine O_len (l := a0.Steps) cSStep (by kernel_rfl) (by kernel_rfl) ?_
      refine O_rem (kd := .i64) h (by kernel_rfl) (by kernel_rfl) (by kernel_rfl) (fun v4 e_v4 h => ?_)
      refine O_idx (kd := .i64) cSStep h (fun _ => rfl) (by kernel_rfl) (by kernel_rfl) (by kernel_rfl) (fun v5 e_v5 h => ?_)
      refine O_p 1 ?_
      refine O_call (fun v => .int .u64 v) h (.inr rfl) (ys := [.agg (cSStep v5)]) (fun _ e => p36 _ _ e) (by kernel_rfl) (by kernel_rfl) (bels_cons (okSStep.bel _) rfl) (fun v6 e_v6 h => ?_)
      refine O_p 1 ?_
      refine O_nil ?_
      refine Gh_e ⟨⟨37, [(1, .i a1), (3, .po 0 0), (8, .int .u64 s1.2), (10, .int .u64 v6), (11, .i a2), (12, .i s1.1)]⟩, [.lv 2 [.i a0.Actuators, .ro (a0.Steps.map cSStep)]]⟩ ?_
      refine W_seq ?_
      refine W_seq ?_
      refine W_gh ?_
      refine W_reg ?_
      refine O_p 4 ?_
      refine O_nil ?_
      refine Gh_e ⟨⟨37, [(1, .i a1), (3, .po 0 0), (8, .int .u64 s1.2), (10, .int .u64 v6), (11, .i a2), (12, .i s1.1), (30, .bool ((andI .u64 s1.2 v6) != 0))]⟩, [.lv 2 [.i a0.Actuators, .ro (a0.Steps.map cSStep)]]⟩ ?_
      refine W_gh ?_
      refine W_cond (c := ((andI .u64 s1.2 v6) != 0)) (by kernel_rfl) (fun c7 => ?_) (fun c7 => ?_)
      · replace h := fork_t c7 h
        refine W_seq ?_
        refine W_gh ?_
        refine W_reg ?_
        refine O_p 3 ?_
        refine O_nil ?_
        refine Gh_e ⟨⟨37, [(1, .i a1), (3, .po 0 0), (6, .int .u64 s1.2), (7, .bool false), (10, .int .u64 v6), (11, .i a2), (12, .i s1.1), (30, .bool ((andI .u64 s1.2 v6) != 0))]⟩, [.lv 2 [.i a0.Actuators, .ro (a0.Steps.map cSStep)]]⟩ ?_
        refine W_ret ?_
        replace h := Option.some.inj h; subst h
        refine ⟨_, rfl, fun h => ?_⟩
        replace h := Option.some.inj h; subst h
        exact Fin_free (l := [.int .u64 s1.2, .bool false]) (by kernel_rfl) (by kernel_rfl) rfl
      · replace h := fork_f c7 h
        refine W_skip ?_
        refine Gh_e ⟨⟨37, [(1, .i a1), (3, .po 0 0), (8, .int .u64 s1.2), (10, .int .u64 v6), (11, .i a2), (12, .i s1.1)]⟩, [.lv 2 [.i a0.Actuators, .ro (a0.Steps.map cSStep)]]⟩ ?_
        refine W_gh ?_
        refine W_reg ?_
        refine O_p 4 ?_
        refine O_nil ?_
        refine Gh_e ⟨⟨37, [(1, .i a1), (3, .po 0 0), (8, .int .u64 (orI .u64 s1.2 v6)), (11, .i a2), (12, .i s1.1)]⟩, [.lv 2 [.i a0.Actuators, .ro (a0.Steps.map cSStep)]]⟩ ?_
        refine Gh_e ⟨⟨37, [(1, .i a1), (3, .po 0 0), (8, .int .u64 (orI .u64 s1.2 v6)), (11, .i a2), (12, .i s1.1)]⟩, [.lv 2 [.i a0.Actuators, .ro (a0.Steps.map cSStep)]]⟩ ?_
        refine W_gh ?_
        refine W_reg ?_
        refine O_p 2 ?_
        refine O_nil ?_
        refine Gh_e ⟨⟨37, [(1, .i a1), (3, .po 0 0), (8, .int .u64 (orI .u64 s1.2 v6)), (11, .i a2), (12, .i (addI .i64 s1.1 1))]⟩, [.lv 2 [.i a0.Actuators, .ro (a0.Steps.map cSStep)]]⟩ ?_
        refine Gh_e ⟨⟨37, [(1, .i a1), (3, .po 0 0), (8, .int .u64 (orI .u64 s1.2 v6)), (11, .i a2), (12, .i (addI .i64 s1.1 1))]⟩, [.lv 2 [.i a0.Actuators, .ro (a0.Steps.map cSStep)]]⟩ ?_
        replace h := Option.some.inj h; subst h
        exact ⟨_, rfl, by kernel_rfl⟩
    · replace h := fork_f c3 h
      refine W_exit ?_
      refine X_hit ?_
      refine Gh_e ⟨⟨37, [(8, .int .u64 s1.2)]⟩, [.lv 2 [.i a0.Actuators, .ro (a0.Steps.map cSStep)]]⟩ ?_
      replace h := Option.some.inj h; subst h
      exact ⟨_, rfl, by kernel_rfl⟩
  · refine W_seq ?_
    refine W_gh ?_
    refine W_reg ?_
    refine O_p 3 ?_
    refine O_nil ?_
    refine Gh_e ⟨⟨37, [(6, .int .u64 w2), (7, .bool true)]⟩, [.lv 2 [.i a0.Actuators, .ro (a0.Steps.map cSStep)]]⟩ ?_
    refine W_ret ?_
    replace h := Option.some.inj h; subst h
    exact Fin_free (l := [.int .u64 w2, .bool true]) (by kernel_rfl) (by kernel_rfl) rfl

theorem p39 (a0 : SSequence) (a1 : Int) (r : (List Int)) (h : m39 a0 a1 = some r) : Pt E0 hp 39 [.agg (cSSequence a0), .i a1] (.ro (r.map cI_i64)) := by
  unfold m39 at h
  refine Pt_W (fn39) rfl (by decide) ?_
  refine W_seq ?_
  refine W_gh ?_
  refine W_reg ?_
  refine O_p 2 ?_
  refine O_nil ?_
  refine Gh_e ⟨⟨43, [(1, .i a1), (2, .po 0 0)]⟩, [.lv 2 [.i a0.Actuators, .ro (a0.Steps.map cSStep)]]⟩ ?_
  refine W_seq ?_
  refine W_gh ?_
  refine W_reg ?_
  refine O_p 3 ?_
  refine O_nil ?_
  refine Gh_one (s1 := ⟨⟨43, [(1, .i a1), (2, .po 0 0), (5, .own 1 1 0 1)]⟩, [.lv 2 [.i a0.Actuators, .ro (a0.Steps.map cSStep)], .live .norm 1 (([a1] : List Int).map cI_i64)]⟩) (by kernel_rfl) ?_
  refine Gh_trunc0 (by kernel_rfl) ?_
  refine Gh_nil ?_
  refine W_seq ?_
  refine W_seq ?_
  refine W_reg ?_
  refine O_p 2 ?_
  refine O_nil ?_
  refine W_loopS (fun s1 : (List Int) × Int × Int => ⟨⟨43, [(1, .i a1), (2, .po 0 0), (5, .own 1 s1.1.length 0 s1.1.length), (6, .i s1.2.1), (7, .i s1.2.2)]⟩, [.lv 2 [.i a0.Actuators, .ro (a0.Steps.map cSStep)], .live .norm 1 (s1.1.map cI_i64)]⟩) (fun w2 : (List Int) => ⟨⟨43, [(5, .own 1 w2.length 0 w2.length)]⟩, [.lv 2 [.i a0.Actuators, .ro (a0.Steps.map cSStep)], .live .norm 1 (w2.map cI_i64)]⟩) h (by kernel_rfl) (fun s1 c h => ?_) (fun w2 e_w2 h => ?_)
  · refine W_gh ?_
    refine W_seq ?_
    refine W_seq ?_
    refine W_gh ?_
    refine W_reg ?_
    refine O_p 3 ?_
    refine O_len (l := a0.Steps) cSStep (by kernel_rfl) (by kernel_rfl) ?_
    refine O_p 1 ?_
    refine O_nil ?_
    refine Gh_e ⟨⟨43, [(1, .i a1), (2, .po 0 0), (5, .own 1 s1.1.length 0 s1.1.length), (6, .i s1.2.1), (7, .i s1.2.2), (16, .bool (decide (s1.2.2 < (a0.Steps.length : Int))))]⟩, [.lv 2 [.i a0.Actuators, .ro (a0.Steps.map cSStep)], .live .norm 1 (s1.1.map cI_i64)]⟩ ?_
    refine W_gh ?_
    refine W_cond (c := (decide (s1.2.2 < (a0.Steps.length : Int)))) (by kernel_rfl) (fun c3 => ?_) (fun c3 => ?_)
    · replace h := fork_t c3 h
      refine W_skip ?_
      refine Gh_e ⟨⟨43, [(1, .i a1), (2, .po 0 0), (5, .own 1 s1.1.length 0 s1.1.length), (6, .i s1.2.1), (7, .i s1.2.2)]⟩, [.lv 2 [.i a0.Actuators, .ro (a0.Steps.map cSStep)], .live .norm 1 (s1.1.map cI_i64)]⟩ ?_
      refine W_seq ?_
      refine W_gh ?_
      refine W_block ?_
      refine W_seq ?_
      refine W_seq ?_
      refine W_gh ?_
      refine W_draw ?_
      refine O_p 5 ?_
      refine O_iadO (kd := .i64) (id := 1) (nl := .norm) cI_i64 h rfl (by kernel_rfl) (by kernel_rfl) (by kernel_rfl) (by kernel_rfl) (fun v4 e_v4 h => ?_)
      refine O_ldO (id := 1) (nl := .norm) (sz := 1) (o := 0) cI_i64 e_v4 rfl (by kernel_rfl) (by kernel_rfl) (by kernel_rfl) (w := .i v4) (by kernel_rfl) ?_
      refine O_p 2 ?_
      refine O_call (fun v => .tup [.int .u64 v.1, .bool v.2]) h (.inr rfl) (ys := [.agg (cSSequence a0), .i v4, .i (addI .i64 s1.2.1 1)]) (fun _ e => p44 _ _ _ _ e) (by kernel_rfl) (by kernel_rfl) (bels_cons (okSSequence.bel _) (bels_cons rfl (bels_cons rfl rfl))) (fun v5 e_v5 h => ?_)
      refine O_p 5 ?_
      refine O_nil ?_
      refine Gh_e ⟨⟨43, [(1, .i a1), (2, .po 0 0), (5, .own 1 s1.1.length 0 s1.1.length), (6, .i s1.2.1), (7, .i s1.2.2), (9, .bool v5.2)]⟩, [.lv 2 [.i a0.Actuators, .ro (a0.Steps.map cSStep)], .live .norm 1 (s1.1.map cI_i64)]⟩ ?_
      refine W_seq ?_
      refine W_gh ?_
      refine W_reg ?_
      refine O_p 2 ?_
      refine O_nil ?_
      refine Gh_e ⟨⟨43, [(1, .i a1), (2, .po 0 0), (5, .own 1 s1.1.length 0 s1.1.length), (6, .i s1.2.1), (7, .i s1.2.2), (33, .bool (!v5.2))]⟩, [.lv 2 [.i a0.Actuators, .ro (a0.Steps.map cSStep)], .live .norm 1 (s1.1.map cI_i64)]⟩ ?_
      refine W_joinS (fun v : (List Int) × Int => ⟨⟨43, [(1, .i a1), (2, .po 0 0), (5, .own 1 v.1.length 0 v.1.length), (6, .i v.2), (7, .i s1.2.2)]⟩, [.lv 2 [.i a0.Actuators, .ro (a0.Steps.map cSStep)], .live .norm 1 (v.1.map cI_i64)]⟩) h (fun w h => ?_) (fun w6 e_w6 h => ?_)
      · refine W_gh ?_
        refine W_cond (c := (!v5.2)) (by kernel_rfl) (fun c7 => ?_) (fun c7 => ?_)
        · replace h := fork_t c7 h
          refine W_seq ?_
          refine W_gh ?_
          refine W_reg ?_
          refine O_p 5 ?_
          refine O_app (C := cI_i64) (id := 1) (nl := .norm) okI_i64 h rfl (by kernel_rfl) (by kernel_rfl) (by kernel_rfl) (by kernel_rfl) rfl (fun l8 e_l8 h => ?_)
          refine O_p 1 ?_
          refine O_nil ?_
          refine Gh_one (s1 := ⟨⟨43, [(1, .i a1), (2, .po 0 0), (5, .own 1 l8.length 0 l8.length), (6, .i s1.2.1), (7, .i s1.2.2), (33, .bool (!v5.2))]⟩, [.lv 2 [.i a0.Actuators, .ro (a0.Steps.map cSStep)], .live .norm 1 (l8.map cI_i64), .live .norm 1 (([(addI .i64 a1 s1.2.2)] : List Int).map cI_i64)]⟩) (by kernel_rfl) ?_
          refine Gh_at (s1 := ⟨⟨43, [(1, .i a1), (2, .po 0 0), (5, .own 1 l8.length 0 l8.length), (6, .i s1.2.1), (7, .i s1.2.2), (33, .bool (!v5.2))]⟩, [.lv 2 [.i a0.Actuators, .ro (a0.Steps.map cSStep)], .live .norm 1 (l8.map cI_i64), .live .norm 1 (([(addI .i64 a1 s1.2.2)] : List Int).map cI_i64)]⟩) (by kernel_rfl) ?_
          refine Gh_trunc (s1 := ⟨⟨43, [(1, .i a1), (2, .po 0 0), (5, .own 1 l8.length 0 l8.length), (6, .i s1.2.1), (7, .i s1.2.2), (33, .bool (!v5.2))]⟩, [.lv 2 [.i a0.Actuators, .ro (a0.Steps.map cSStep)], .live .norm 1 (l8.map cI_i64)]⟩) (by kernel_rfl) (tb_free rfl (tb_ref rfl (tb_ref rfl (tb_free rfl (tb_free rfl (tb_free rfl rfl)))))) (H1 := [.lv 2 [.i a0.Actuators, .ro (a0.Steps.map cSStep)], .live .norm 1 (l8.map cI_i64)]) (by kernel_rfl) (ob_boxn (bn_free rfl (bn_free (ro_bel okSStep.bel _) rfl)) (ob_list okI_i64.bel rfl)) (by kernel_rfl) ?_
          refine Gh_nil ?_
          refine W_reg ?_
          refine O_p 1 ?_
          refine O_nil ?_
          refine Gh_one (s1 := ⟨⟨43, [(1, .i a1), (2, .po 0 0), (5, .own 1 l8.length 0 l8.length), (6, .i 0), (7, .i s1.2.2)]⟩, [.lv 2 [.i a0.Actuators, .ro (a0.Steps.map cSStep)], .live .norm 1 (l8.map cI_i64)]⟩) (by kernel_rfl) ?_
          refine Gh_trunc0 (by kernel_rfl) ?_
          refine Gh_nil ?_
          replace h := Option.some.inj h; subst h
          show _ = _
          kernel_rfl
        · replace h := fork_f c7 h
          refine W_skip ?_
          refine Gh_one (s1 := ⟨⟨43, [(1, .i a1), (2, .po 0 0), (5, .own 1 s1.1.length 0 s1.1.length), (6, .i s1.2.1), (7, .i s1.2.2)]⟩, [.lv 2 [.i a0.Actuators, .ro (a0.Steps.map cSStep)], .live .norm 1 (s1.1.map cI_i64)]⟩) (by kernel_rfl) ?_
          refine Gh_trunc0 (by kernel_rfl) ?_
          refine Gh_nil ?_
          replace h := Option.some.inj h; subst h
          show _ = _
          kernel_rfl
      · refine W_gh ?_
        refine W_reg ?_
        refine O_p 3 ?_
        refine O_nil ?_
        refine Gh_e ⟨⟨43, [(1, .i a1), (2, .po 0 0), (5, .own 1 w6.1.length 0 w6.1.length), (6, .i (addI .i64 w6.2 1)), (7, .i s1.2.2)]⟩, [.lv 2 [.i a0.Actuators, .ro (a0.Steps.map cSStep)], .live .norm 1 (w6.1.map cI_i64)]⟩ ?_
        refine Gh_one (s1 := ⟨⟨43, [(1, .i a1), (2, .po 0 0), (5, .own 1 w6.1.length 0 w6.1.length), (6, .i (addI .i64 w6.2 1)), (7, .i s1.2.2)]⟩, [.lv 2 [.i a0.Actuators, .ro (a0.Steps.map cSStep)], .live .norm 1 (w6.1.map cI_i64)]⟩) (by kernel_rfl) ?_
        refine Gh_trunc0 (by kernel_rfl) ?_
        refine Gh_nil ?_
        refine W_gh ?_
        refine W_reg ?_
        refine O_p 3 ?_
        refine O_nil ?_
        refine Gh_e ⟨⟨43, [(1, .i a1), (2, .po 0 0), (5, .own 1 w6.1.length 0 w6.1.length), (6, .i (addI .i64 w6.2 1)), (7, .i (addI .i64 s1.2.2 1))]⟩, [.lv 2 [.i a0.Actuators, .ro (a0.Steps.map cSStep)], .live .norm 1 (w6.1.map cI_i64)]⟩ ?_
        refine Gh_one (s1 := ⟨⟨43, [(1, .i a1), (2, .po 0 0), (5, .own 1 w6.1.length 0 w6.1.length), (6, .i (addI .i64 w6.2 1)), (7, .i (addI .i64 s1.2.2 1))]⟩, [.lv 2 [.i a0.Actuators, .ro (a0.Steps.map cSStep)], .live .norm 1 (w6.1.map cI_i64)]⟩) (by kernel_rfl) ?_
        refine Gh_trunc0 (by kernel_rfl) ?_
        refine Gh_nil ?_
        replace h := Option.some.inj h; subst h
        exact ⟨_, rfl, by kernel_rfl⟩
    · replace h := fork_f c3 h
      refine W_exit ?_
      refine X_hit ?_
      refine Gh_one (s1 := ⟨⟨43, [(5, .own 1 s1.1.length 0 s1.1.length)]⟩, [.lv 2 [.i a0.Actuators, .ro (a0.Steps.map cSStep)], .live .norm 1 (s1.1.map cI_i64)]⟩) (by kernel_rfl) ?_
      refine Gh_trunc0 (by kernel_rfl) ?_
      refine Gh_nil ?_
      replace h := Option.some.inj h; subst h
      exact ⟨_, rfl, by kernel_rfl⟩
  · refine W_seq ?_
    refine W_gh ?_
    refine W_reg ?_
    refine O_p 2 ?_
    refine O_nil ?_
    refine Gh_e ⟨⟨43, [(4, .own 1 w2.length 0 w2.length)]⟩, [.lv 2 [.i a0.Actuators, .ro (a0.Steps.map cSStep)], .live .norm 1 (w2.map cI_i64)]⟩ ?_
    refine W_ret ?_
    replace h := Option.some.inj h; subst h
    exact Fin_pk (l := [.own 1 w2.length 0 w2.length]) (by kernel_rfl) (pk_own (d := 5) (id := 1) (nl := .norm) (sz := 1) (l := w2) okI_i64.bel (by kernel_rfl) rfl)

theorem p42 (a0 : SSequence) (a1 : Int) (a2 : Int) (r : Int) (h : m42 a0 a1 a2 = some r) : Pt E0 hp 42 [.agg (cSSequence a0), .i a1, .i a2] (.i r) := by
  unfold m42 at h
  refine Pt_W (fn42) rfl (by decide) ?_
  refine W_seq ?_
  refine W_gh ?_
  refine W_reg ?_
  refine O_p 2 ?_
  refine O_nil ?_
  refine Gh_e ⟨⟨37, [(1, .i a1), (2, .i a2), (3, .po 0 0)]⟩, [.lv 2 [.i a0.Actuators, .ro (a0.Steps.map cSStep)]]⟩ ?_
  refine W_seq ?_
  refine W_reg ?_
  refine O_p 1 ?_
  refine O_nil ?_
  refine W_seq ?_
  refine W_loopS (fun s1 : Int × Int => ⟨⟨37, [(1, .i s1.1), (2, .i a2), (3, .po 0 0), (7, .i s1.2)]⟩, [.lv 2 [.i a0.Actuators, .ro (a0.Steps.map cSStep)]]⟩) (fun w2 : Int => ⟨⟨37, [(7, .i w2)]⟩, [.lv 2 [.i a0.Actuators, .ro (a0.Steps.map cSStep)]]⟩) h (by kernel_rfl) (fun s1 c h => ?_) (fun w2 e_w2 h => ?_)
  · refine W_gh ?_
    refine W_seq ?_
    refine W_seq ?_
    refine W_gh ?_
    refine W_reg ?_
    refine O_p 3 ?_
    refine O_nil ?_
    refine Gh_e ⟨⟨37, [(1, .i s1.1), (2, .i a2), (3, .po 0 0), (7, .i s1.2), (13, .bool (decide (s1.1 < a2)))]⟩, [.lv 2 [.i a0.Actuators, .ro (a0.Steps.map cSStep)]]⟩ ?_
    refine W_gh ?_
    refine W_cond (c := (decide (s1.1 < a2))) (by kernel_rfl) (fun c3 => ?_) (fun c3 => ?_)
    · replace h := fork_t c3 h
      refine W_skip ?_
      refine Gh_e ⟨⟨37, [(1, .i s1.1), (2, .i a2), (3, .po 0 0), (7, .i s1.2)]⟩, [.lv 2 [.i a0.Actuators, .ro (a0.Steps.map cSStep)]]⟩ ?_
      refine W_gh ?_
      refine W_block ?_
      refine W_seq ?_
      refine W_reg ?_
      refine O_p 1 ?_
      refine O_nil ?_
      refine W_seq ?_
      refine W_loopS (fun s4 : Int => ⟨⟨37, [(1, .i s1.1), (2, .i a2), (3, .po 0 0), (7, .i s1.2), (8, .i s4)]⟩, [.lv 2 [.i a0.Actuators, .ro (a0.Steps.map cSStep)]]⟩) (fun w5 : Int => ⟨⟨37, [(1, .i s1.1), (2, .i a2), (3, .po 0 0), (7, .i s1.2), (8, .i w5)]⟩, [.lv 2 [.i a0.Actuators, .ro (a0.Steps.map cSStep)]]⟩) h (by kernel_rfl) (fun s4 c h => ?_) (fun w5 e_w5 h => ?_)
      · refine W_gh ?_
        refine W_seq ?_
        refine W_seq ?_
        refine W_gh ?_
        refine W_reg ?_
        refine O_p 5 ?_
        refine O_nil ?_
        refine Gh_e ⟨⟨37, [(1, .i s1.1), (2, .i a2), (3, .po 0 0), (7, .i s1.2), (8, .i s4), (18, .bool (decide ((addI .i64 s1.1 s4) < a2)))]⟩, [.lv 2 [.i a0.Actuators, .ro (a0.Steps.map cSStep)]]⟩ ?_
        refine W_gh ?_
        refine W_cond (c := (decide ((addI .i64 s1.1 s4) < a2))) (by kernel_rfl) (fun c6 => ?_) (fun c6 => ?_)
        · replace h := fork_t c6 h
          refine W_skip ?_
          refine Gh_e ⟨⟨37, [(1, .i s1.1), (2, .i a2), (3, .po 0 0), (7, .i s1.2), (8, .i s4)]⟩, [.lv 2 [.i a0.Actuators, .ro (a0.Steps.map cSStep)]]⟩ ?_
          refine W_gh ?_
          refine W_block ?_
          refine W_seq ?_
          refine W_seq ?_
          refine W_gh ?_
          refine W_reg ?_
          refine O_p 4 ?_
          refine O_call (fun v => .tup [.int .u64 v.1, .bool v.2]) h (.inr rfl) (ys := [.agg (cSSequence a0), .i s1.1, .i (addI .i64 s4 1)]) (fun _ e => p44 _ _ _ _ e) (by kernel_rfl) (by kernel_rfl) (bels_cons (okSSequence.bel _) (bels_cons rfl (bels_cons rfl rfl))) (fun v7 e_v7 h => ?_)
          refine O_p 5 ?_
          refine O_nil ?_
          refine Gh_e ⟨⟨37, [(1, .i s1.1), (2, .i a2), (3, .po 0 0), (7, .i s1.2), (8, .i s4), (10, .bool v7.2)]⟩, [.lv 2 [.i a0.Actuators, .ro (a0.Steps.map cSStep)]]⟩ ?_
          refine W_seq ?_
          refine W_gh ?_
          refine W_reg ?_
          refine O_p 2 ?_
          refine O_nil ?_
          refine Gh_e ⟨⟨37, [(1, .i s1.1), (2, .i a2), (3, .po 0 0), (7, .i s1.2), (8, .i s4), (28, .bool (!v7.2))]⟩, [.lv 2 [.i a0.Actuators, .ro (a0.Steps.map cSStep)]]⟩ ?_
          refine W_gh ?_
          refine W_cond (c := (!v7.2)) (by kernel_rfl) (fun c8 => ?_) (fun c8 => ?_)
          · replace h := fork_t c8 h
            refine W_exit ?_
            refine X_miss (by decide) ?_
            refine X_hit ?_
            refine Gh_e ⟨⟨37, [(1, .i s1.1), (2, .i a2), (3, .po 0 0), (7, .i s1.2), (8, .i s4)]⟩, [.lv 2 [.i a0.Actuators, .ro (a0.Steps.map cSStep)]]⟩ ?_
            replace h := Option.some.inj h; subst h
            exact ⟨_, rfl, by kernel_rfl⟩
          · replace h := fork_f c8 h
            refine W_skip ?_
            refine Gh_e ⟨⟨37, [(1, .i s1.1), (2, .i a2), (3, .po 0 0), (7, .i s1.2), (8, .i s4)]⟩, [.lv 2 [.i a0.Actuators, .ro (a0.Steps.map cSStep)]]⟩ ?_
            refine W_gh ?_
            refine W_reg ?_
            refine O_p 3 ?_
            refine O_nil ?_
            refine Gh_e ⟨⟨37, [(1, .i s1.1), (2, .i a2), (3, .po 0 0), (7, .i s1.2), (8, .i (addI .i64 s4 1))]⟩, [.lv 2 [.i a0.Actuators, .ro (a0.Steps.map cSStep)]]⟩ ?_
            refine Gh_e ⟨⟨37, [(1, .i s1.1), (2, .i a2), (3, .po 0 0), (7, .i s1.2), (8, .i (addI .i64 s4 1))]⟩, [.lv 2 [.i a0.Actuators, .ro (a0.Steps.map cSStep)]]⟩ ?_
            refine Gh_e ⟨⟨37, [(1, .i s1.1), (2, .i a2), (3, .po 0 0), (7, .i s1.2), (8, .i (addI .i64 s4 1))]⟩, [.lv 2 [.i a0.Actuators, .ro (a0.Steps.map cSStep)]]⟩ ?_
            replace h := Option.some.inj h; subst h
            exact ⟨_, rfl, by kernel_rfl⟩
        · replace h := fork_f c6 h
          refine W_exit ?_
          refine X_hit ?_
          refine Gh_e ⟨⟨37, [(1, .i s1.1), (2, .i a2), (3, .po 0 0), (7, .i s1.2), (8, .i s4)]⟩, [.lv 2 [.i a0.Actuators, .ro (a0.Steps.map cSStep)]]⟩ ?_
          replace h := Option.some.inj h; subst h
          exact ⟨_, rfl, by kernel_rfl⟩
      · refine W_seq ?_
        refine W_gh ?_
        refine W_reg ?_
        refine O_p 4 ?_
        refine O_nil ?_
        refine Gh_e ⟨⟨37, [(1, .i (addI .i64 s1.1 w5)), (2, .i a2), (3, .po 0 0), (7, .i s1.2)]⟩, [.lv 2 [.i a0.Actuators, .ro (a0.Steps.map cSStep)]]⟩ ?_
        refine W_gh ?_
        refine W_reg ?_
        refine O_p 3 ?_
        refine O_nil ?_
        refine Gh_e ⟨⟨37, [(1, .i (addI .i64 s1.1 w5)), (2, .i a2), (3, .po 0 0), (7, .i (addI .i64 s1.2 1))]⟩, [.lv 2 [.i a0.Actuators, .ro (a0.Steps.map cSStep)]]⟩ ?_
        refine Gh_e ⟨⟨37, [(1, .i (addI .i64 s1.1 w5)), (2, .i a2), (3, .po 0 0), (7, .i (addI .i64 s1.2 1))]⟩, [.lv 2 [.i a0.Actuators, .ro (a0.Steps.map cSStep)]]⟩ ?_
        refine Gh_e ⟨⟨37, [(1, .i (addI .i64 s1.1 w5)), (2, .i a2), (3, .po 0 0), (7, .i (addI .i64 s1.2 1))]⟩, [.lv 2 [.i a0.Actuators, .ro (a0.Steps.map cSStep)]]⟩ ?_
        replace h := Option.some.inj h; subst h
        exact ⟨_, rfl, by kernel_rfl⟩
    · replace h := fork_f c3 h
      refine W_exit ?_
      refine X_hit ?_
      refine Gh_e ⟨⟨37, [(7, .i s1.2)]⟩, [.lv 2 [.i a0.Actuators, .ro (a0.Steps.map cSStep)]]⟩ ?_
      replace h := Option.some.inj h; subst h
      exact ⟨_, rfl, by kernel_rfl⟩
  · refine W_seq ?_
    refine W_gh ?_
    refine W_reg ?_
    refine O_p 2 ?_
    refine O_nil ?_
    refine Gh_e ⟨⟨37, [(6, .i w2)]⟩, [.lv 2 [.i a0.Actuators, .ro (a0.Steps.map cSStep)]]⟩ ?_
    refine W_ret ?_
    replace h := Option.some.inj h; subst h
    exact Fin_free (l := [.i w2]) (by kernel_rfl) (by kernel_rfl) rfl
end G18
