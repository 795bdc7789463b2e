/- The code computes the models, printed by a program of mine (dec.py). No condition. -/
import Derived.Test.YtoobbcmofleljaaDoorG18p0
import Derived.Test.YtoobbcmofleljaaDoorG18x
namespace G18
open Go Go.Pl Go.Am Go.Am.As
set_option linter.unusedVariables false
set_option linter.unusedSimpArgs false
set_option maxHeartbeats 1000000

theorem p11 (a0 : SSequence) (r : Bool) (h : m11 a0 = some r) : Pt E0 hp 11 [.agg (cSSequence a0)] (.bool r) := by
  unfold m11 at h
  refine Pt_W (fn11) rfl (by decide) ?_
  refine W_seq ?_
  refine W_gh ?_
  refine W_reg ?_
  refine O_p 2 ?_
  refine O_nil ?_
  refine Gh_e ⟨⟨23, [(1, .po 0 0)]⟩, [.lv 2 [.i a0.Actuators, .ro (a0.Steps.map cSStep)]]⟩ ?_
  refine W_seq ?_
  refine W_seq ?_
  refine W_gh ?_
  refine W_reg ?_
  refine O_p 2 ?_
  refine O_len (l := a0.Steps) cSStep (by kernel_rfl) (by kernel_rfl) ?_
  refine O_p 1 ?_
  refine O_nil ?_
  refine Gh_e ⟨⟨23, [(1, .po 0 0), (7, .bool (decide ((a0.Steps.length : Int) > 128)))]⟩, [.lv 2 [.i a0.Actuators, .ro (a0.Steps.map cSStep)]]⟩ ?_
  refine W_gh ?_
  refine W_cond (c := (decide ((a0.Steps.length : Int) > 128))) (by kernel_rfl) (fun c1 => ?_) (fun c1 => ?_)
  · replace h := fork_t c1 h
    refine W_seq ?_
    refine W_reg ?_
    refine O_p 1 ?_
    refine O_nil ?_
    refine W_ret ?_
    replace h := Option.some.inj h; subst h
    exact Fin_free (l := [.bool false]) (by kernel_rfl) (by kernel_rfl) rfl
  · replace h := fork_f c1 h
    refine W_skip ?_
    refine Gh_e ⟨⟨23, [(1, .po 0 0)]⟩, [.lv 2 [.i a0.Actuators, .ro (a0.Steps.map cSStep)]]⟩ ?_
    refine W_seq ?_
    refine W_seq ?_
    refine W_reg ?_
    refine O_p 1 ?_
    refine O_nil ?_
    refine W_loop (fun s2 : Int => ⟨⟨23, [(1, .po 0 0), (3, .i s2)]⟩, [.lv 2 [.i a0.Actuators, .ro (a0.Steps.map cSStep)]]⟩) (fun w3 : Unit => ⟨⟨23, []⟩, [.lv 2 [.i a0.Actuators, .ro (a0.Steps.map cSStep)]]⟩) h (by kernel_rfl) (fun s2 c h => ?_) (fun w3 h => ?_)
    · refine W_gh ?_
      refine W_seq ?_
      refine W_seq ?_
      refine W_gh ?_
      refine W_reg ?_
      refine O_p 3 ?_
      refine O_len (l := a0.Steps) cSStep (by kernel_rfl) (by kernel_rfl) ?_
      refine O_p 1 ?_
      refine O_nil ?_
      refine Gh_e ⟨⟨23, [(1, .po 0 0), (3, .i s2), (12, .bool (decide (s2 < (a0.Steps.length : Int))))]⟩, [.lv 2 [.i a0.Actuators, .ro (a0.Steps.map cSStep)]]⟩ ?_
      refine W_gh ?_
      refine W_cond (c := (decide (s2 < (a0.Steps.length : Int)))) (by kernel_rfl) (fun c4 => ?_) (fun c4 => ?_)
      · replace h := fork_t c4 h
        refine W_skip ?_
        refine Gh_e ⟨⟨23, [(1, .po 0 0), (3, .i s2)]⟩, [.lv 2 [.i a0.Actuators, .ro (a0.Steps.map cSStep)]]⟩ ?_
        refine W_seq ?_
        refine W_gh ?_
        refine W_block ?_
        refine W_seq ?_
        refine W_gh ?_
        refine W_reg ?_
        refine O_p 3 ?_
        refine O_idx (kd := .i64) cSStep h (fun _ => rfl) (by kernel_rfl) (by kernel_rfl) (by kernel_rfl) (fun v5 e_v5 h => ?_)
        refine O_p 2 ?_
        refine O_len (l := v5.Strokes) cSStroke (by kernel_rfl) (by kernel_rfl) ?_
        refine O_p 1 ?_
        refine O_nil ?_
        refine Gh_e ⟨⟨23, [(1, .po 0 0), (3, .i s2), (22, .bool (decide ((v5.Strokes.length : Int) > 40)))]⟩, [.lv 2 [.i a0.Actuators, .ro (a0.Steps.map cSStep)]]⟩ ?_
        refine W_gh ?_
        refine W_cond (c := (decide ((v5.Strokes.length : Int) > 40))) (by kernel_rfl) (fun c6 => ?_) (fun c6 => ?_)
        · replace h := fork_t c6 h
          refine W_seq ?_
          refine W_reg ?_
          refine O_p 1 ?_
          refine O_nil ?_
          refine W_ret ?_
          replace h := Option.some.inj h; subst h
          refine ⟨_, rfl, fun h => ?_⟩
          replace h := Option.some.inj h; subst h
          exact Fin_free (l := [.bool false]) (by kernel_rfl) (by kernel_rfl) rfl
        · replace h := fork_f c6 h
          refine W_skip ?_
          refine Gh_e ⟨⟨23, [(1, .po 0 0), (3, .i s2)]⟩, [.lv 2 [.i a0.Actuators, .ro (a0.Steps.map cSStep)]]⟩ ?_
          refine Gh_e ⟨⟨23, [(1, .po 0 0), (3, .i s2)]⟩, [.lv 2 [.i a0.Actuators, .ro (a0.Steps.map cSStep)]]⟩ ?_
          refine W_gh ?_
          refine W_reg ?_
          refine O_p 3 ?_
          refine O_nil ?_
          refine Gh_e ⟨⟨23, [(1, .po 0 0), (3, .i (addI .i64 s2 1))]⟩, [.lv 2 [.i a0.Actuators, .ro (a0.Steps.map cSStep)]]⟩ ?_
          refine Gh_e ⟨⟨23, [(1, .po 0 0), (3, .i (addI .i64 s2 1))]⟩, [.lv 2 [.i a0.Actuators, .ro (a0.Steps.map cSStep)]]⟩ ?_
          replace h := Option.some.inj h; subst h
          exact ⟨_, rfl, by kernel_rfl⟩
      · replace h := fork_f c4 h
        refine W_exit ?_
        refine X_hit ?_
        refine Gh_e ⟨⟨23, []⟩, [.lv 2 [.i a0.Actuators, .ro (a0.Steps.map cSStep)]]⟩ ?_
        replace h := Option.some.inj h; subst h
        exact ⟨_, rfl, by kernel_rfl⟩
    · refine W_seq ?_
      refine W_reg ?_
      refine O_p 1 ?_
      refine O_nil ?_
      refine W_ret ?_
      replace h := Option.some.inj h; subst h
      exact Fin_free (l := [.bool true]) (by kernel_rfl) (by kernel_rfl) rfl

theorem p82 (a0 : Int) (r : Bool) (h : m82 a0 = some r) : Pt E0 hp 82 [.i a0] (.bool r) := by
  unfold m82 at h
  refine Pt_W (fn82) rfl (by decide) ?_
  refine W_seq ?_
  refine W_gh ?_
  refine W_reg ?_
  refine O_p 1 ?_
  refine O_nil ?_
  refine Gh_e ⟨⟨9, [(0, .i a0)]⟩, []⟩ ?_
  refine W_seq ?_
  refine W_cut ⟨⟨9, [(2, .bool ((decide (a0 ≥ 0)) && (decide (a0 < 6))))]⟩, []⟩ ?_ ?_
  · generalize e_g1 : ((decide (a0 ≥ 0)) && (decide (a0 < 6))) = g1
    refine W_gh ?_
    refine W_reg ?_
    refine O_p 3 ?_
    refine O_fork (n := 5) (decide (a0 ≥ 0)) (by kernel_rfl) (fun c2 => ?_) (fun c2 => ?_)
    · skip
      refine O_p 4 ?_
      refine O_nil ?_
      refine Gh_e ⟨⟨9, [(2, .bool (decide (a0 < 6)))]⟩, []⟩ ?_
      have q := e_g1; simp only [c2, cond_true, cond_false, Bool.true_and, Bool.false_and, Bool.true_or, Bool.false_or] at q; subst q
      show _ = _
      kernel_rfl
    · skip
      refine O_p 4 ?_
      refine O_nil ?_
      refine Gh_e ⟨⟨9, [(2, .bool false)]⟩, []⟩ ?_
      have q := e_g1; simp only [c2, cond_true, cond_false, Bool.true_and, Bool.false_and, Bool.true_or, Bool.false_or] at q; subst q
      show _ = _
      kernel_rfl
  · refine W_ret ?_
    replace h := Option.some.inj h; subst h
    exact Fin_free (l := [.bool ((decide (a0 ≥ 0)) && (decide (a0 < 6)))]) (by kernel_rfl) (by kernel_rfl) rfl

theorem p83 (a0 : Int) (r : Bool) (h : m83 a0 = some r) : Pt E0 hp 83 [.i a0] (.bool r) := by
  unfold m83 at h
  refine Pt_W (fn83) rfl (by decide) ?_
  refine W_seq ?_
  refine W_gh ?_
  refine W_reg ?_
  refine O_p 1 ?_
  refine O_nil ?_
  refine Gh_e ⟨⟨9, [(0, .i a0)]⟩, []⟩ ?_
  refine W_seq ?_
  refine W_cut ⟨⟨9, [(2, .bool ((decide (a0 ≥ 0)) && (decide (a0 ≤ 1000000))))]⟩, []⟩ ?_ ?_
  · generalize e_g1 : ((decide (a0 ≥ 0)) && (decide (a0 ≤ 1000000))) = g1
    refine W_gh ?_
    refine W_reg ?_
    refine O_p 3 ?_
    refine O_fork (n := 5) (decide (a0 ≥ 0)) (by kernel_rfl) (fun c2 => ?_) (fun c2 => ?_)
    · skip
      refine O_p 4 ?_
      refine O_nil ?_
      refine Gh_e ⟨⟨9, [(2, .bool (decide (a0 ≤ 1000000)))]⟩, []⟩ ?_
      have q := e_g1; simp only [c2, cond_true, cond_false, Bool.true_and, Bool.false_and, Bool.true_or, Bool.false_or] at q; subst q
      show _ = _
      kernel_rfl
    · skip
      refine O_p 4 ?_
      refine O_nil ?_
      refine Gh_e ⟨⟨9, [(2, .bool false)]⟩, []⟩ ?_
      have q := e_g1; simp only [c2, cond_true, cond_false, Bool.true_and, Bool.false_and, Bool.true_or, Bool.false_or] at q; subst q
      show _ = _
      kernel_rfl
  · refine W_ret ?_
    replace h := Option.some.inj h; subst h
    exact Fin_free (l := [.bool ((decide (a0 ≥ 0)) && (decide (a0 ≤ 1000000)))]) (by kernel_rfl) (by kernel_rfl) rfl

theorem p75 (a0 : SStep) (r : Int) (h : m75 a0 = some r) : Pt E0 hp 75 [.agg (cSStep a0)] (.i r) := by
  unfold m75 at h
  refine Pt_W (fn75) rfl (by decide) ?_
  refine W_seq ?_
  refine W_gh ?_
  refine W_reg ?_
  refine O_p 2 ?_
  refine O_nil ?_
  refine Gh_e ⟨⟨67, [(1, .po 0 0)]⟩, [.lv 2 [.ro (a0.Strokes.map cSStroke), .i a0.Wait]]⟩ ?_
  refine W_seq ?_
  refine W_seq ?_
  refine W_gh ?_
  refine W_reg ?_
  refine O_p 2 ?_
  refine O_len (l := a0.Strokes) cSStroke (by kernel_rfl) (by kernel_rfl) ?_
  refine O_p 1 ?_
  refine O_nil ?_
  refine Gh_e ⟨⟨67, [(1, .po 0 0), (7, .bool ((a0.Strokes.length : Int) == 0))]⟩, [.lv 2 [.ro (a0.Strokes.map cSStroke), .i a0.Wait]]⟩ ?_
  refine W_gh ?_
  refine W_cond (c := ((a0.Strokes.length : Int) == 0)) (by kernel_rfl) (fun c1 => ?_) (fun c1 => ?_)
  · replace h := fork_t c1 h
    refine W_seq ?_
    refine W_reg ?_
    refine O_p 1 ?_
    refine O_nil ?_
    refine W_ret ?_
    replace h := Option.some.inj h; subst h
    exact Fin_free (l := [.i 13]) (by kernel_rfl) (by kernel_rfl) rfl
  · replace h := fork_f c1 h
    refine W_skip ?_
    refine Gh_e ⟨⟨67, [(1, .po 0 0)]⟩, [.lv 2 [.ro (a0.Strokes.map cSStroke), .i a0.Wait]]⟩ ?_
    refine W_seq ?_
    refine W_seq ?_
    refine W_gh ?_
    refine W_reg ?_
    refine O_p 2 ?_
    refine O_len (l := a0.Strokes) cSStroke (by kernel_rfl) (by kernel_rfl) ?_
    refine O_p 1 ?_
    refine O_nil ?_
    refine Gh_e ⟨⟨67, [(1, .po 0 0), (11, .bool (decide ((a0.Strokes.length : Int) > 6)))]⟩, [.lv 2 [.ro (a0.Strokes.map cSStroke), .i a0.Wait]]⟩ ?_
    refine W_gh ?_
    refine W_cond (c := (decide ((a0.Strokes.length : Int) > 6))) (by kernel_rfl) (fun c2 => ?_) (fun c2 => ?_)
    · replace h := fork_t c2 h
      refine W_seq ?_
      refine W_reg ?_
      refine O_p 1 ?_
      refine O_nil ?_
      refine W_ret ?_
      replace h := Option.some.inj h; subst h
      exact Fin_free (l := [.i 5]) (by kernel_rfl) (by kernel_rfl) rfl
    · replace h := fork_f c2 h
      refine W_skip ?_
      refine Gh_e ⟨⟨67, [(1, .po 0 0)]⟩, [.lv 2 [.ro (a0.Strokes.map cSStroke), .i a0.Wait]]⟩ ?_
      refine W_seq ?_
      refine W_seq ?_
      refine W_reg ?_
      refine O_p 1 ?_
      refine O_nil ?_
      refine W_loop (fun s3 : Int => ⟨⟨67, [(1, .po 0 0), (3, .i s3)]⟩, [.lv 2 [.ro (a0.Strokes.map cSStroke), .i a0.Wait]]⟩) (fun w4 : Unit => ⟨⟨67, [(1, .po 0 0)]⟩, [.lv 2 [.ro (a0.Strokes.map cSStroke), .i a0.Wait]]⟩) h (by kernel_rfl) (fun s3 c h => ?_) (fun w4 h => ?_)
      · refine W_gh ?_
        refine W_seq ?_
        refine W_seq ?_
        refine W_gh ?_
        refine W_reg ?_
        refine O_p 3 ?_
        refine O_len (l := a0.Strokes) cSStroke (by kernel_rfl) (by kernel_rfl) ?_
        refine O_p 1 ?_
        refine O_nil ?_
        refine Gh_e ⟨⟨67, [(1, .po 0 0), (3, .i s3), (16, .bool (decide (s3 < (a0.Strokes.length : Int))))]⟩, [.lv 2 [.ro (a0.Strokes.map cSStroke), .i a0.Wait]]⟩ ?_
        refine W_gh ?_
        refine W_cond (c := (decide (s3 < (a0.Strokes.length : Int)))) (by kernel_rfl) (fun c5 => ?_) (fun c5 => ?_)
        · replace h := fork_t c5 h
          refine W_skip ?_
          refine Gh_e ⟨⟨67, [(1, .po 0 0), (3, .i s3)]⟩, [.lv 2 [.ro (a0.Strokes.map cSStroke), .i a0.Wait]]⟩ ?_
          refine W_seq ?_
          refine W_gh ?_
          refine W_block ?_
          refine W_seq ?_
          refine W_seq ?_
          refine W_gh ?_
          refine W_reg ?_
          refine O_p 3 ?_
          refine O_idx (kd := .i64) cSStroke h (fun _ => rfl) (by kernel_rfl) (by kernel_rfl) (by kernel_rfl) (fun v6 e_v6 h => ?_)
          refine O_p 2 ?_
          refine O_call (fun v => .bool v) h (.inr rfl) (ys := [.i v6.Actuator]) (fun _ e => p82 _ _ e) (by kernel_rfl) (by kernel_rfl) (bels_cons rfl rfl) (fun v7 e_v7 h => ?_)
          refine O_p 1 ?_
          refine O_nil ?_
          refine Gh_e ⟨⟨67, [(1, .po 0 0), (3, .i s3), (26, .bool (!v7))]⟩, [.lv 2 [.ro (a0.Strokes.map cSStroke), .i a0.Wait]]⟩ ?_
          refine W_gh ?_
          refine W_cond (c := (!v7)) (by kernel_rfl) (fun c8 => ?_) (fun c8 => ?_)
          · replace h := fork_t c8 h
            refine W_seq ?_
            refine W_reg ?_
            refine O_p 1 ?_
            refine O_nil ?_
            refine W_ret ?_
            replace h := Option.some.inj h; subst h
            refine ⟨_, rfl, fun h => ?_⟩
            replace h := Option.some.inj h; subst h
            exact Fin_free (l := [.i 2]) (by kernel_rfl) (by kernel_rfl) rfl
          · replace h := fork_f c8 h
            refine W_skip ?_
            refine Gh_e ⟨⟨67, [(1, .po 0 0), (3, .i s3)]⟩, [.lv 2 [.ro (a0.Strokes.map cSStroke), .i a0.Wait]]⟩ ?_
            refine W_seq ?_
            refine W_seq ?_
            refine W_joinS (fun v : Bool => ⟨⟨67, [(1, .po 0 0), (3, .i s3), (44, .bool v)]⟩, [.lv 2 [.ro (a0.Strokes.map cSStroke), .i a0.Wait]]⟩) h (fun w h => ?_) (fun w9 e_w9 h => ?_)
            · refine W_gh ?_
              refine W_draw ?_
              refine O_p 3 ?_
              refine O_fork (n := 29) (decide (s3 > 0)) (by kernel_rfl) (fun c10 => ?_) (fun c10 => ?_)
              · replace h := fork_t c10 h
                refine O_p 3 ?_
                refine O_idx (kd := .i64) cSStroke h (fun _ => rfl) (by kernel_rfl) (by kernel_rfl) (by kernel_rfl) (fun v11 e_v11 h => ?_)
                refine O_p 6 ?_
                refine O_idx (kd := .i64) cSStroke h (fun _ => rfl) (by kernel_rfl) (by kernel_rfl) (by kernel_rfl) (fun v12 e_v12 h => ?_)
                refine O_p 4 ?_
                refine O_nil ?_
                refine Gh_e ⟨⟨67, [(1, .po 0 0), (3, .i s3), (44, .bool (v11.Actuator == v12.Actuator))]⟩, [.lv 2 [.ro (a0.Strokes.map cSStroke), .i a0.Wait]]⟩ ?_
                replace h := Option.some.inj h; subst h
                show _ = _
                kernel_rfl
              · replace h := fork_f c10 h
                refine O_p 15 ?_
                refine O_nil ?_
                refine Gh_e ⟨⟨67, [(1, .po 0 0), (3, .i s3), (44, .bool false)]⟩, [.lv 2 [.ro (a0.Strokes.map cSStroke), .i a0.Wait]]⟩ ?_
                replace h := Option.some.inj h; subst h
                show _ = _
                kernel_rfl
            · refine W_gh ?_
              refine W_cond (c := w9) (by kernel_rfl) (fun c13 => ?_) (fun c13 => ?_)
              · replace h := fork_t c13 h
                refine W_seq ?_
                refine W_reg ?_
                refine O_p 1 ?_
                refine O_nil ?_
                refine W_ret ?_
                replace h := Option.some.inj h; subst h
                refine ⟨_, rfl, fun h => ?_⟩
                replace h := Option.some.inj h; subst h
                exact Fin_free (l := [.i 7]) (by kernel_rfl) (by kernel_rfl) rfl
              · replace h := fork_f c13 h
                refine W_skip ?_
                refine Gh_e ⟨⟨67, [(1, .po 0 0), (3, .i s3)]⟩, [.lv 2 [.ro (a0.Strokes.map cSStroke), .i a0.Wait]]⟩ ?_
                refine W_seq ?_
                refine W_joinS (fun v : Bool => ⟨⟨67, [(1, .po 0 0), (3, .i s3), (62, .bool v)]⟩, [.lv 2 [.ro (a0.Strokes.map cSStroke), .i a0.Wait]]⟩) h (fun w h => ?_) (fun w14 e_w14 h => ?_)
                · refine W_gh ?_
                  refine W_draw ?_
                  refine O_p 3 ?_
                  refine O_fork (n := 47) (decide (s3 > 0)) (by kernel_rfl) (fun c15 => ?_) (fun c15 => ?_)
                  · replace h := fork_t c15 h
                    refine O_p 3 ?_
                    refine O_idx (kd := .i64) cSStroke h (fun _ => rfl) (by kernel_rfl) (by kernel_rfl) (by kernel_rfl) (fun v16 e_v16 h => ?_)
                    refine O_p 6 ?_
                    refine O_idx (kd := .i64) cSStroke h (fun _ => rfl) (by kernel_rfl) (by kernel_rfl) (by kernel_rfl) (fun v17 e_v17 h => ?_)
                    refine O_p 4 ?_
                    refine O_nil ?_
                    refine Gh_e ⟨⟨67, [(1, .po 0 0), (3, .i s3), (62, .bool (decide (v16.Actuator < v17.Actuator)))]⟩, [.lv 2 [.ro (a0.Strokes.map cSStroke), .i a0.Wait]]⟩ ?_
                    replace h := Option.some.inj h; subst h
                    show _ = _
                    kernel_rfl
                  · replace h := fork_f c15 h
                    refine O_p 15 ?_
                    refine O_nil ?_
                    refine Gh_e ⟨⟨67, [(1, .po 0 0), (3, .i s3), (62, .bool false)]⟩, [.lv 2 [.ro (a0.Strokes.map cSStroke), .i a0.Wait]]⟩ ?_
                    replace h := Option.some.inj h; subst h
                    show _ = _
                    kernel_rfl
                · refine W_gh ?_
                  refine W_cond (c := w14) (by kernel_rfl) (fun c18 => ?_) (fun c18 => ?_)
                  · replace h := fork_t c18 h
                    refine W_seq ?_
                    refine W_reg ?_
                    refine O_p 1 ?_
                    refine O_nil ?_
                    refine W_ret ?_
                    replace h := Option.some.inj h; subst h
                    refine ⟨_, rfl, fun h => ?_⟩
                    replace h := Option.some.inj h; subst h
                    exact Fin_free (l := [.i 9]) (by kernel_rfl) (by kernel_rfl) rfl
                  · replace h := fork_f c18 h
                    refine W_skip ?_
                    refine Gh_e ⟨⟨67, [(1, .po 0 0), (3, .i s3)]⟩, [.lv 2 [.ro (a0.Strokes.map cSStroke), .i a0.Wait]]⟩ ?_
                    refine Gh_e ⟨⟨67, [(1, .po 0 0), (3, .i s3)]⟩, [.lv 2 [.ro (a0.Strokes.map cSStroke), .i a0.Wait]]⟩ ?_
                    refine W_gh ?_
                    refine W_reg ?_
                    refine O_p 3 ?_
                    refine O_nil ?_
                    refine Gh_e ⟨⟨67, [(1, .po 0 0), (3, .i (addI .i64 s3 1))]⟩, [.lv 2 [.ro (a0.Strokes.map cSStroke), .i a0.Wait]]⟩ ?_
                    refine Gh_e ⟨⟨67, [(1, .po 0 0), (3, .i (addI .i64 s3 1))]⟩, [.lv 2 [.ro (a0.Strokes.map cSStroke), .i a0.Wait]]⟩ ?_
                    replace h := Option.some.inj h; subst h
                    exact ⟨_, rfl, by kernel_rfl⟩
        · replace h := fork_f c5 h
          refine W_exit ?_
          refine X_hit ?_
          refine Gh_e ⟨⟨67, [(1, .po 0 0)]⟩, [.lv 2 [.ro (a0.Strokes.map cSStroke), .i a0.Wait]]⟩ ?_
          replace h := Option.some.inj h; subst h
          exact ⟨_, rfl, by kernel_rfl⟩
      · refine W_seq ?_
        refine W_seq ?_
        refine W_gh ?_
        refine W_reg ?_
        refine O_p 2 ?_
        refine O_call (fun v => .bool v) h (.inr rfl) (ys := [.i a0.Wait]) (fun _ e => p83 _ _ e) (by kernel_rfl) (by kernel_rfl) (bels_cons rfl rfl) (fun v19 e_v19 h => ?_)
        refine O_p 1 ?_
        refine O_nil ?_
        refine Gh_e ⟨⟨67, [(66, .bool (!v19))]⟩, [.lv 2 [.ro (a0.Strokes.map cSStroke), .i a0.Wait]]⟩ ?_
        refine W_gh ?_
        refine W_cond (c := (!v19)) (by kernel_rfl) (fun c20 => ?_) (fun c20 => ?_)
        · replace h := fork_t c20 h
          refine W_seq ?_
          refine W_reg ?_
          refine O_p 1 ?_
          refine O_nil ?_
          refine W_ret ?_
          replace h := Option.some.inj h; subst h
          exact Fin_free (l := [.i 2]) (by kernel_rfl) (by kernel_rfl) rfl
        · replace h := fork_f c20 h
          refine W_skip ?_
          refine Gh_e ⟨⟨67, []⟩, [.lv 2 [.ro (a0.Strokes.map cSStroke), .i a0.Wait]]⟩ ?_
          refine W_seq ?_
          refine W_reg ?_
          refine O_p 1 ?_
          refine O_nil ?_
          refine W_ret ?_
          replace h := Option.some.inj h; subst h
          exact Fin_free (l := [.i 0]) (by kernel_rfl) (by kernel_rfl) rfl

theorem p76 (a0 : SStep) (a1 : (List Bool)) (r : Bool) (h : m76 a0 a1 = some r) : Pt E0 hp 76 [.agg (cSStep a0), .ro (a1.map cB)] (.bool r) := by
  unfold m76 at h
  refine Pt_W (fn76) rfl (by decide) ?_
  refine W_seq ?_
  refine W_gh ?_
  refine W_reg ?_
  refine O_p 2 ?_
  refine O_nil ?_
  refine Gh_e ⟨⟨34, [(1, .ro (a1.map cB)), (2, .po 0 0)]⟩, [.lv 2 [.ro (a0.Strokes.map cSStroke), .i a0.Wait]]⟩ ?_
  refine W_seq ?_
  refine W_seq ?_
  refine W_reg ?_
  refine O_p 1 ?_
  refine O_nil ?_
  refine W_loop (fun s1 : Int => ⟨⟨34, [(1, .ro (a1.map cB)), (2, .po 0 0), (5, .i s1)]⟩, [.lv 2 [.ro (a0.Strokes.map cSStroke), .i a0.Wait]]⟩) (fun w2 : Unit => ⟨⟨34, []⟩, [.lv 2 [.ro (a0.Strokes.map cSStroke), .i a0.Wait]]⟩) h (by kernel_rfl) (fun s1 c h => ?_) (fun w2 h => ?_)
  · refine W_gh ?_
    refine W_seq ?_
    refine W_seq ?_
    refine W_gh ?_
    refine W_reg ?_
    refine O_p 3 ?_
    refine O_len (l := a0.Strokes) cSStroke (by kernel_rfl) (by kernel_rfl) ?_
    refine O_p 1 ?_
    refine O_nil ?_
    refine Gh_e ⟨⟨34, [(1, .ro (a1.map cB)), (2, .po 0 0), (5, .i s1), (11, .bool (decide (s1 < (a0.Strokes.length : Int))))]⟩, [.lv 2 [.ro (a0.Strokes.map cSStroke), .i a0.Wait]]⟩ ?_
    refine W_gh ?_
    refine W_cond (c := (decide (s1 < (a0.Strokes.length : Int)))) (by kernel_rfl) (fun c3 => ?_) (fun c3 => ?_)
    · replace h := fork_t c3 h
      refine W_skip ?_
      refine Gh_e ⟨⟨34, [(1, .ro (a1.map cB)), (2, .po 0 0), (5, .i s1)]⟩, [.lv 2 [.ro (a0.Strokes.map cSStroke), .i a0.Wait]]⟩ ?_
      refine W_seq ?_
      refine W_gh ?_
      refine W_block ?_
      refine W_seq ?_
      refine W_gh ?_
      refine W_reg ?_
      refine O_p 3 ?_
      refine O_idx (kd := .i64) cSStroke h (fun _ => rfl) (by kernel_rfl) (by kernel_rfl) (by kernel_rfl) (fun v4 e_v4 h => ?_)
      refine O_p 3 ?_
      refine O_nil ?_
      refine Gh_e ⟨⟨34, [(1, .ro (a1.map cB)), (2, .po 0 0), (5, .i s1), (6, .po 1 0)]⟩, [.lv 2 [.ro (a0.Strokes.map cSStroke), .i a0.Wait], .lv 2 [.i v4.Actuator, .bool v4.Out]]⟩ ?_
      refine W_seq ?_
      refine W_joinS (fun v : Bool => ⟨⟨34, [(1, .ro (a1.map cB)), (2, .po 0 0), (5, .i s1), (33, .bool v)]⟩, [.lv 2 [.ro (a0.Strokes.map cSStroke), .i a0.Wait], .lv 2 [.i v4.Actuator, .bool v4.Out]]⟩) h (fun w h => ?_) (fun w5 e_w5 h => ?_)
      · refine W_gh ?_
        refine W_draw ?_
        refine O_p 3 ?_
        refine O_len (l := a1) cB (by kernel_rfl) (by kernel_rfl) ?_
        refine O_p 2 ?_
        refine O_fork (n := 24) (decide (v4.Actuator ≥ (a1.length : Int))) (by kernel_rfl) (fun c6 => ?_) (fun c6 => ?_)
        · replace h := fork_t c6 h
          refine O_p 9 ?_
          refine O_nil ?_
          refine Gh_e ⟨⟨34, [(1, .ro (a1.map cB)), (2, .po 0 0), (5, .i s1), (33, .bool true)]⟩, [.lv 2 [.ro (a0.Strokes.map cSStroke), .i a0.Wait], .lv 2 [.i v4.Actuator, .bool v4.Out]]⟩ ?_
          replace h := Option.some.inj h; subst h
          show _ = _
          kernel_rfl
        · replace h := fork_f c6 h
          refine O_p 3 ?_
          refine O_idx (kd := .i64) cB h (fun _ => rfl) (by kernel_rfl) (by kernel_rfl) (by kernel_rfl) (fun v7 e_v7 h => ?_)
          refine O_p 5 ?_
          refine O_nil ?_
          refine Gh_e ⟨⟨34, [(1, .ro (a1.map cB)), (2, .po 0 0), (5, .i s1), (33, .bool ((v7 == v4.Out) != false))]⟩, [.lv 2 [.ro (a0.Strokes.map cSStroke), .i a0.Wait], .lv 2 [.i v4.Actuator, .bool v4.Out]]⟩ ?_
          replace h := Option.some.inj h; subst h
          show _ = _
          kernel_rfl
      · refine W_gh ?_
        refine W_cond (c := w5) (by kernel_rfl) (fun c8 => ?_) (fun c8 => ?_)
        · replace h := fork_t c8 h
          refine W_seq ?_
          refine W_reg ?_
          refine O_p 1 ?_
          refine O_nil ?_
          refine W_ret ?_
          replace h := Option.some.inj h; subst h
          refine ⟨_, rfl, fun h => ?_⟩
          replace h := Option.some.inj h; subst h
          exact Fin_free (l := [.bool false]) (by kernel_rfl) (by kernel_rfl) rfl
        · replace h := fork_f c8 h
          refine W_skip ?_
          refine Gh_e ⟨⟨34, [(1, .ro (a1.map cB)), (2, .po 0 0), (5, .i s1)]⟩, [.lv 2 [.ro (a0.Strokes.map cSStroke), .i a0.Wait], .lv 2 [.i v4.Actuator, .bool v4.Out]]⟩ ?_
          refine Gh_one (s1 := ⟨⟨34, [(1, .ro (a1.map cB)), (2, .po 0 0), (5, .i s1)]⟩, [.lv 2 [.ro (a0.Strokes.map cSStroke), .i a0.Wait], .lv 2 [.i v4.Actuator, .bool v4.Out]]⟩) (by kernel_rfl) ?_
          refine Gh_at (s1 := ⟨⟨34, [(1, .ro (a1.map cB)), (2, .po 0 0), (5, .i s1)]⟩, [.lv 2 [.ro (a0.Strokes.map cSStroke), .i a0.Wait], .lv 2 [.i v4.Actuator, .bool v4.Out]]⟩) (by kernel_rfl) ?_
          refine Gh_trunc (s1 := ⟨⟨34, [(1, .ro (a1.map cB)), (2, .po 0 0), (5, .i s1)]⟩, [.lv 2 [.ro (a0.Strokes.map cSStroke), .i a0.Wait]]⟩) (by kernel_rfl) (tb_free (ro_bel okB.bel _) (tb_ref rfl (tb_free rfl rfl))) (H1 := [.lv 2 [.ro (a0.Strokes.map cSStroke), .i a0.Wait]]) (by kernel_rfl) (ob_boxn (bn_free (ro_bel okSStroke.bel _) (bn_free rfl rfl)) rfl) (by kernel_rfl) ?_
          refine Gh_nil ?_
          refine W_gh ?_
          refine W_reg ?_
          refine O_p 3 ?_
          refine O_nil ?_
          refine Gh_e ⟨⟨34, [(1, .ro (a1.map cB)), (2, .po 0 0), (5, .i (addI .i64 s1 1))]⟩, [.lv 2 [.ro (a0.Strokes.map cSStroke), .i a0.Wait]]⟩ ?_
          refine Gh_one (s1 := ⟨⟨34, [(1, .ro (a1.map cB)), (2, .po 0 0), (5, .i (addI .i64 s1 1))]⟩, [.lv 2 [.ro (a0.Strokes.map cSStroke), .i a0.Wait]]⟩) (by kernel_rfl) ?_
          refine Gh_trunc0 (by kernel_rfl) ?_
          refine Gh_nil ?_
          replace h := Option.some.inj h; subst h
          exact ⟨_, rfl, by kernel_rfl⟩
    · replace h := fork_f c3 h
      refine W_exit ?_
      refine X_hit ?_
      refine Gh_one (s1 := ⟨⟨34, []⟩, [.lv 2 [.ro (a0.Strokes.map cSStroke), .i a0.Wait]]⟩) (by kernel_rfl) ?_
      refine Gh_trunc0 (by kernel_rfl) ?_
      refine Gh_nil ?_
      replace h := Option.some.inj h; subst h
      exact ⟨_, rfl, by kernel_rfl⟩
  · refine W_seq ?_
    refine W_reg ?_
    refine O_p 1 ?_
    refine O_nil ?_
    refine W_ret ?_
    replace h := Option.some.inj h; subst h
    exact Fin_free (l := [.bool true]) (by kernel_rfl) (by kernel_rfl) rfl

theorem p77 (a0 : SStep) (a1 : (List Bool)) (r : (List Bool)) (h : m77 a0 a1 = some r) : Pt E0 hp 77 [.agg (cSStep a0), .ro (a1.map cB)] (.ro (r.map cB)) := by
  unfold m77 at h
  refine Pt_W (fn77) rfl (by decide) ?_
  refine W_seq ?_
  refine W_gh ?_
  refine W_reg ?_
  refine O_p 2 ?_
  refine O_nil ?_
  refine Gh_e ⟨⟨32, [(1, .ro (a1.map cB)), (2, .po 0 0)]⟩, [.lv 2 [.ro (a0.Strokes.map cSStroke), .i a0.Wait]]⟩ ?_
  refine W_seq ?_
  refine W_gh ?_
  refine W_reg ?_
  refine O_p 2 ?_
  refine O_app (C := cB) (id := 1) (nl := .norm) okB h rfl (by kernel_rfl) (by kernel_rfl) (by kernel_rfl) (by kernel_rfl) rfl (fun l1 e_l1 h => ?_)
  refine O_p 1 ?_
  refine O_nil ?_
  refine Gh_one (s1 := ⟨⟨32, [(2, .po 0 0), (5, .own 1 l1.length 0 l1.length)]⟩, [.lv 2 [.ro (a0.Strokes.map cSStroke), .i a0.Wait], .live .norm 1 (l1.map cB)]⟩) (by kernel_rfl) ?_
  refine Gh_trunc0 (by kernel_rfl) ?_
  refine Gh_nil ?_
  refine W_seq ?_
  refine W_seq ?_
  refine W_reg ?_
  refine O_p 1 ?_
  refine O_nil ?_
  refine W_loopS (fun s2 : (List Bool) × Int => ⟨⟨32, [(2, .po 0 0), (5, .own 1 s2.1.length 0 s2.1.length), (6, .i s2.2)]⟩, [.lv 2 [.ro (a0.Strokes.map cSStroke), .i a0.Wait], .live .norm 1 (s2.1.map cB)]⟩) (fun w3 : (List Bool) => ⟨⟨32, [(5, .own 1 w3.length 0 w3.length)]⟩, [.lv 2 [.ro (a0.Strokes.map cSStroke), .i a0.Wait], .live .norm 1 (w3.map cB)]⟩) h (by kernel_rfl) (fun s2 c h => ?_) (fun w3 e_w3 h => ?_)
  · refine W_gh ?_
    refine W_seq ?_
    refine W_seq ?_
    refine W_gh ?_
    refine W_reg ?_
    refine O_p 3 ?_
    refine O_len (l := a0.Strokes) cSStroke (by kernel_rfl) (by kernel_rfl) ?_
    refine O_p 1 ?_
    refine O_nil ?_
    refine Gh_e ⟨⟨32, [(2, .po 0 0), (5, .own 1 s2.1.length 0 s2.1.length), (6, .i s2.2), (14, .bool (decide (s2.2 < (a0.Strokes.length : Int))))]⟩, [.lv 2 [.ro (a0.Strokes.map cSStroke), .i a0.Wait], .live .norm 1 (s2.1.map cB)]⟩ ?_
    refine W_gh ?_
    refine W_cond (c := (decide (s2.2 < (a0.Strokes.length : Int)))) (by kernel_rfl) (fun c4 => ?_) (fun c4 => ?_)
    · replace h := fork_t c4 h
      refine W_skip ?_
      refine Gh_e ⟨⟨32, [(2, .po 0 0), (5, .own 1 s2.1.length 0 s2.1.length), (6, .i s2.2)]⟩, [.lv 2 [.ro (a0.Strokes.map cSStroke), .i a0.Wait], .live .norm 1 (s2.1.map cB)]⟩ ?_
      refine W_seq ?_
      refine W_block ?_
      refine W_gh ?_
      refine W_draw ?_
      refine O_p 4 ?_
      refine O_idx (kd := .i64) cSStroke h (fun _ => rfl) (by kernel_rfl) (by kernel_rfl) (by kernel_rfl) (fun v5 e_v5 h => ?_)
      refine O_p 5 ?_
      refine O_idx (kd := .i64) cSStroke h (fun _ => rfl) (by kernel_rfl) (by kernel_rfl) (by kernel_rfl) (fun v6 e_v6 h => ?_)
      refine O_p 2 ?_
      refine O_iadO (kd := .i64) (id := 1) (nl := .norm) cB h rfl (by kernel_rfl) (by kernel_rfl) (by kernel_rfl) (by kernel_rfl) (fun v7 e_v7 h => ?_)
      refine O_stW (id := 1) (nl := .norm) (v' := v6.Out) cB e_v7 rfl rfl (fun _ => rfl) (by kernel_rfl) (by kernel_rfl) (by kernel_rfl) (cs := [.bool v6.Out]) (by kernel_rfl) (by kernel_rfl) rfl rfl rfl ?_
      have q_q8 := idx_set (v' := v6.Out) e_v7
      refine O_nil ?_
      refine Gh_endn (s1 := ⟨⟨32, [(2, .po 0 0), (5, .own 1 s2.1.length 0 s2.1.length), (6, .i s2.2)]⟩, [.lv 2 [.ro (a0.Strokes.map cSStroke), .i a0.Wait], .live .norm 1 ((s2.1.set v5.Actuator.toNat v6.Out).map cB)]⟩) (s2 := ⟨⟨32, [(2, .po 0 0), (5, .own 1 ((s2.1.set v5.Actuator.toNat v6.Out).length) 0 ((s2.1.set v5.Actuator.toNat v6.Out).length)), (6, .i s2.2)]⟩, [.lv 2 [.ro (a0.Strokes.map cSStroke), .i a0.Wait], .live .norm 1 ((s2.1.set v5.Actuator.toNat v6.Out).map cB)]⟩) _ (by kernel_rfl) (by simp only [List.length_set]) ?_
      refine W_gh ?_
      refine W_reg ?_
      refine O_p 3 ?_
      refine O_nil ?_
      refine Gh_e ⟨⟨32, [(2, .po 0 0), (5, .own 1 ((s2.1.set v5.Actuator.toNat v6.Out).length) 0 ((s2.1.set v5.Actuator.toNat v6.Out).length)), (6, .i (addI .i64 s2.2 1))]⟩, [.lv 2 [.ro (a0.Strokes.map cSStroke), .i a0.Wait], .live .norm 1 ((s2.1.set v5.Actuator.toNat v6.Out).map cB)]⟩ ?_
      refine Gh_e ⟨⟨32, [(2, .po 0 0), (5, .own 1 ((s2.1.set v5.Actuator.toNat v6.Out).length) 0 ((s2.1.set v5.Actuator.toNat v6.Out).length)), (6, .i (addI .i64 s2.2 1))]⟩, [.lv 2 [.ro (a0.Strokes.map cSStroke), .i a0.Wait], .live .norm 1 ((s2.1.set v5.Actuator.toNat v6.Out).map cB)]⟩ ?_
      replace h := Option.some.inj h; subst h
      exact ⟨_, rfl, by kernel_rfl⟩
    · replace h := fork_f c4 h
      refine W_exit ?_
      refine X_hit ?_
      refine Gh_e ⟨⟨32, [(5, .own 1 s2.1.length 0 s2.1.length)]⟩, [.lv 2 [.ro (a0.Strokes.map cSStroke), .i a0.Wait], .live .norm 1 (s2.1.map cB)]⟩ ?_
      replace h := Option.some.inj h; subst h
      exact ⟨_, rfl, by kernel_rfl⟩
  · refine W_seq ?_
    refine W_gh ?_
    refine W_reg ?_
    refine O_p 2 ?_
    refine O_nil ?_
    refine Gh_e ⟨⟨32, [(4, .own 1 w3.length 0 w3.length)]⟩, [.lv 2 [.ro (a0.Strokes.map cSStroke), .i a0.Wait], .live .norm 1 (w3.map cB)]⟩ ?_
    refine W_ret ?_
    replace h := Option.some.inj h; subst h
    exact Fin_pk (l := [.own 1 w3.length 0 w3.length]) (by kernel_rfl) (pk_own (d := 5) (id := 1) (nl := .norm) (sz := 1) (l := w3) okB.bel (by kernel_rfl) rfl)

theorem p62 (a0 : SSequence) (r : Int) (h : m62 a0 = some r) : Pt E0 hp 62 [.agg (cSSequence a0)] (.i r) := by
  unfold m62 at h
  refine Pt_W (fn62) rfl (by decide) ?_
  refine W_seq ?_
  refine W_gh ?_
  refine W_reg ?_
  refine O_p 2 ?_
  refine O_nil ?_
  refine Gh_e ⟨⟨62, [(1, .po 0 0)]⟩, [.lv 2 [.i a0.Actuators, .ro (a0.Steps.map cSStep)]]⟩ ?_
  refine W_seq ?_
  refine W_gh ?_
  refine W_reg ?_
  refine O_p 2 ?_
  refine O_mks (C := cB) okB (z0 := false) (by kernel_rfl) h (by kernel_rfl) (by kernel_rfl) (by kernel_rfl) (fun l1 e_l1 h => ?_)
  refine O_p 1 ?_
  refine O_nil ?_
  refine Gh_one (frz_own (id := 1) (nl := .norm) (sz := 1) (l := l1) okB.bel (by kernel_rfl) (by kernel_rfl) rfl rfl (s1 := ⟨⟨62, [(1, .po 0 0), (3, .ro (l1.map cB)), (9, .po 0 0), (10, .i a0.Actuators), (11, .own 1 l1.length 0 l1.length)]⟩, [.lv 2 [.i a0.Actuators, .ro (a0.Steps.map cSStep)], .dead]⟩) (by kernel_rfl)) ?_
  refine Gh_one (s1 := ⟨⟨62, [(1, .po 0 0), (3, .ro (l1.map cB))]⟩, [.lv 2 [.i a0.Actuators, .ro (a0.Steps.map cSStep)], .dead]⟩) (by kernel_rfl) ?_
  refine Gh_at (s1 := ⟨⟨62, [(1, .po 0 0), (3, .ro (l1.map cB))]⟩, [.lv 2 [.i a0.Actuators, .ro (a0.Steps.map cSStep)], .dead]⟩) (by kernel_rfl) ?_
  refine Gh_trunc (s1 := ⟨⟨62, [(1, .po 0 0), (3, .ro (l1.map cB))]⟩, [.lv 2 [.i a0.Actuators, .ro (a0.Steps.map cSStep)]]⟩) (by kernel_rfl) (tb_ref rfl (tb_free (ro_bel okB.bel _) rfl)) (H1 := [.lv 2 [.i a0.Actuators, .ro (a0.Steps.map cSStep)]]) (by kernel_rfl) (ob_boxn (bn_free rfl (bn_free (ro_bel okSStep.bel _) rfl)) rfl) (by kernel_rfl) ?_
  refine Gh_nil ?_
  refine W_seq ?_
  refine W_seq ?_
  refine W_reg ?_
  refine O_p 1 ?_
  refine O_nil ?_
  refine W_loop (fun s2 : (List Bool) × Int => ⟨⟨62, [(1, .po 0 0), (3, .ro (s2.1.map cB)), (4, .i s2.2)]⟩, [.lv 2 [.i a0.Actuators, .ro (a0.Steps.map cSStep)]]⟩) (fun w3 : (List Bool) => ⟨⟨62, [(1, .po 0 0), (3, .ro (w3.map cB))]⟩, [.lv 2 [.i a0.Actuators, .ro (a0.Steps.map cSStep)]]⟩) h (by kernel_rfl) (fun s2 c h => ?_) (fun w3 h => ?_)
  · refine W_gh ?_
    refine W_seq ?_
    refine W_seq ?_
    refine W_gh ?_
    refine W_reg ?_
    refine O_p 3 ?_
    refine O_len (l := a0.Steps) cSStep (by kernel_rfl) (by kernel_rfl) ?_
    refine O_p 1 ?_
    refine O_nil ?_
    refine Gh_e ⟨⟨62, [(1, .po 0 0), (3, .ro (s2.1.map cB)), (4, .i s2.2), (16, .bool (decide (s2.2 < (a0.Steps.length : Int))))]⟩, [.lv 2 [.i a0.Actuators, .ro (a0.Steps.map cSStep)]]⟩ ?_
    refine W_gh ?_
    refine W_cond (c := (decide (s2.2 < (a0.Steps.length : Int)))) (by kernel_rfl) (fun c4 => ?_) (fun c4 => ?_)
    · replace h := fork_t c4 h
      refine W_skip ?_
      refine Gh_e ⟨⟨62, [(1, .po 0 0), (3, .ro (s2.1.map cB)), (4, .i s2.2)]⟩, [.lv 2 [.i a0.Actuators, .ro (a0.Steps.map cSStep)]]⟩ ?_
      refine W_seq ?_
      refine W_gh ?_
      refine W_block ?_
      refine W_seq ?_
      refine W_gh ?_
      refine W_reg ?_
      refine O_p 3 ?_
      refine O_idx (kd := .i64) cSStep h (fun _ => rfl) (by kernel_rfl) (by kernel_rfl) (by kernel_rfl) (fun v5 e_v5 h => ?_)
      refine O_p 3 ?_
      refine O_nil ?_
      refine Gh_e ⟨⟨62, [(1, .po 0 0), (3, .ro (s2.1.map cB)), (4, .i s2.2), (5, .po 1 0)]⟩, [.lv 2 [.i a0.Actuators, .ro (a0.Steps.map cSStep)], .lv 2 [.ro (v5.Strokes.map cSStroke), .i v5.Wait]]⟩ ?_
      refine W_seq ?_
      refine W_seq ?_
      refine W_gh ?_
      refine W_reg ?_
      refine O_p 1 ?_
      refine O_call (fun v => .i v) h (.inr rfl) (ys := [.agg (cSStep v5)]) (fun _ e => p75 _ _ e) (by kernel_rfl) (by kernel_rfl) (bels_cons (okSStep.bel _) rfl) (fun v6 e_v6 h => ?_)
      refine O_p 1 ?_
      refine O_nil ?_
      refine Gh_e ⟨⟨62, [(1, .po 0 0), (3, .ro (s2.1.map cB)), (4, .i s2.2), (5, .po 1 0), (6, .i v6)]⟩, [.lv 2 [.i a0.Actuators, .ro (a0.Steps.map cSStep)], .lv 2 [.ro (v5.Strokes.map cSStroke), .i v5.Wait]]⟩ ?_
      refine W_seq ?_
      refine W_gh ?_
      refine W_reg ?_
      refine O_p 2 ?_
      refine O_nil ?_
      refine Gh_e ⟨⟨62, [(1, .po 0 0), (3, .ro (s2.1.map cB)), (4, .i s2.2), (5, .po 1 0), (6, .i v6), (27, .bool (v6 != 0))]⟩, [.lv 2 [.i a0.Actuators, .ro (a0.Steps.map cSStep)], .lv 2 [.ro (v5.Strokes.map cSStroke), .i v5.Wait]]⟩ ?_
      refine W_gh ?_
      refine W_cond (c := (v6 != 0)) (by kernel_rfl) (fun c7 => ?_) (fun c7 => ?_)
      · replace h := fork_t c7 h
        refine W_seq ?_
        refine W_gh ?_
        refine W_reg ?_
        refine O_p 2 ?_
        refine O_nil ?_
        refine Gh_e ⟨⟨62, [(1, .po 0 0), (2, .i v6), (3, .ro (s2.1.map cB)), (4, .i s2.2), (5, .po 1 0), (27, .bool (v6 != 0))]⟩, [.lv 2 [.i a0.Actuators, .ro (a0.Steps.map cSStep)], .lv 2 [.ro (v5.Strokes.map cSStroke), .i v5.Wait]]⟩ ?_
        refine W_ret ?_
        replace h := Option.some.inj h; subst h
        refine ⟨_, rfl, fun h => ?_⟩
        replace h := Option.some.inj h; subst h
        exact Fin_free (l := [.i v6]) (by kernel_rfl) (by kernel_rfl) rfl
      · replace h := fork_f c7 h
        refine W_skip ?_
        refine Gh_e ⟨⟨62, [(1, .po 0 0), (3, .ro (s2.1.map cB)), (4, .i s2.2), (5, .po 1 0)]⟩, [.lv 2 [.i a0.Actuators, .ro (a0.Steps.map cSStep)], .lv 2 [.ro (v5.Strokes.map cSStroke), .i v5.Wait]]⟩ ?_
        refine W_seq ?_
        refine W_seq ?_
        refine W_reg ?_
        refine O_p 1 ?_
        refine O_nil ?_
        refine W_loop (fun s8 : Int => ⟨⟨62, [(1, .po 0 0), (3, .ro (s2.1.map cB)), (4, .i s2.2), (5, .po 1 0), (7, .i s8)]⟩, [.lv 2 [.i a0.Actuators, .ro (a0.Steps.map cSStep)], .lv 2 [.ro (v5.Strokes.map cSStroke), .i v5.Wait]]⟩) (fun w9 : Unit => ⟨⟨62, [(1, .po 0 0), (3, .ro (s2.1.map cB)), (4, .i s2.2), (5, .po 1 0)]⟩, [.lv 2 [.i a0.Actuators, .ro (a0.Steps.map cSStep)], .lv 2 [.ro (v5.Strokes.map cSStroke), .i v5.Wait]]⟩) h (by kernel_rfl) (fun s8 c h => ?_) (fun w9 h => ?_)
        · refine W_gh ?_
          refine W_seq ?_
          refine W_seq ?_
          refine W_gh ?_
          refine W_reg ?_
          refine O_p 3 ?_
          refine O_len (l := v5.Strokes) cSStroke (by kernel_rfl) (by kernel_rfl) ?_
          refine O_p 1 ?_
          refine O_nil ?_
          refine Gh_e ⟨⟨62, [(1, .po 0 0), (3, .ro (s2.1.map cB)), (4, .i s2.2), (5, .po 1 0), (7, .i s8), (33, .bool (decide (s8 < (v5.Strokes.length : Int))))]⟩, [.lv 2 [.i a0.Actuators, .ro (a0.Steps.map cSStep)], .lv 2 [.ro (v5.Strokes.map cSStroke), .i v5.Wait]]⟩ ?_
          refine W_gh ?_
          refine W_cond (c := (decide (s8 < (v5.Strokes.length : Int)))) (by kernel_rfl) (fun c10 => ?_) (fun c10 => ?_)
          · replace h := fork_t c10 h
            refine W_skip ?_
            refine Gh_e ⟨⟨62, [(1, .po 0 0), (3, .ro (s2.1.map cB)), (4, .i s2.2), (5, .po 1 0), (7, .i s8)]⟩, [.lv 2 [.i a0.Actuators, .ro (a0.Steps.map cSStep)], .lv 2 [.ro (v5.Strokes.map cSStroke), .i v5.Wait]]⟩ ?_
            refine W_seq ?_
            refine W_gh ?_
            refine W_block ?_
            refine W_seq ?_
            refine W_gh ?_
            refine W_draw ?_
            refine O_p 3 ?_
            refine O_idx (kd := .i64) cSStroke h (fun _ => rfl) (by kernel_rfl) (by kernel_rfl) (by kernel_rfl) (fun v11 e_v11 h => ?_)
            refine O_p 5 ?_
            refine O_nil ?_
            refine Gh_e ⟨⟨62, [(1, .po 0 0), (3, .ro (s2.1.map cB)), (4, .i s2.2), (5, .po 1 0), (7, .i s8), (44, .bool (decide (v11.Actuator ≥ a0.Actuators)))]⟩, [.lv 2 [.i a0.Actuators, .ro (a0.Steps.map cSStep)], .lv 2 [.ro (v5.Strokes.map cSStroke), .i v5.Wait]]⟩ ?_
            refine W_gh ?_
            refine W_cond (c := (decide (v11.Actuator ≥ a0.Actuators))) (by kernel_rfl) (fun c12 => ?_) (fun c12 => ?_)
            · replace h := fork_t c12 h
              refine W_seq ?_
              refine W_reg ?_
              refine O_p 1 ?_
              refine O_nil ?_
              refine W_ret ?_
              replace h := Option.some.inj h; subst h
              refine ⟨_, rfl, fun h => ?_⟩
              replace h := Option.some.inj h; subst h
              refine ⟨_, rfl, fun h => ?_⟩
              replace h := Option.some.inj h; subst h
              exact Fin_free (l := [.i 6]) (by kernel_rfl) (by kernel_rfl) rfl
            · replace h := fork_f c12 h
              refine W_skip ?_
              refine Gh_e ⟨⟨62, [(1, .po 0 0), (3, .ro (s2.1.map cB)), (4, .i s2.2), (5, .po 1 0), (7, .i s8)]⟩, [.lv 2 [.i a0.Actuators, .ro (a0.Steps.map cSStep)], .lv 2 [.ro (v5.Strokes.map cSStroke), .i v5.Wait]]⟩ ?_
              refine Gh_e ⟨⟨62, [(1, .po 0 0), (3, .ro (s2.1.map cB)), (4, .i s2.2), (5, .po 1 0), (7, .i s8)]⟩, [.lv 2 [.i a0.Actuators, .ro (a0.Steps.map cSStep)], .lv 2 [.ro (v5.Strokes.map cSStroke), .i v5.Wait]]⟩ ?_
              refine W_gh ?_
              refine W_reg ?_
              refine O_p 3 ?_
              refine O_nil ?_
              refine Gh_e ⟨⟨62, [(1, .po 0 0), (3, .ro (s2.1.map cB)), (4, .i s2.2), (5, .po 1 0), (7, .i (addI .i64 s8 1))]⟩, [.lv 2 [.i a0.Actuators, .ro (a0.Steps.map cSStep)], .lv 2 [.ro (v5.Strokes.map cSStroke), .i v5.Wait]]⟩ ?_
              refine Gh_e ⟨⟨62, [(1, .po 0 0), (3, .ro (s2.1.map cB)), (4, .i s2.2), (5, .po 1 0), (7, .i (addI .i64 s8 1))]⟩, [.lv 2 [.i a0.Actuators, .ro (a0.Steps.map cSStep)], .lv 2 [.ro (v5.Strokes.map cSStroke), .i v5.Wait]]⟩ ?_
              replace h := Option.some.inj h; subst h
              exact ⟨_, rfl, by kernel_rfl⟩
          · replace h := fork_f c10 h
            refine W_exit ?_
            refine X_hit ?_
            refine Gh_e ⟨⟨62, [(1, .po 0 0), (3, .ro (s2.1.map cB)), (4, .i s2.2), (5, .po 1 0)]⟩, [.lv 2 [.i a0.Actuators, .ro (a0.Steps.map cSStep)], .lv 2 [.ro (v5.Strokes.map cSStroke), .i v5.Wait]]⟩ ?_
            replace h := Option.some.inj h; subst h
            exact ⟨_, rfl, by kernel_rfl⟩
        · refine W_seq ?_
          refine W_seq ?_
          refine W_gh ?_
          refine W_reg ?_
          refine O_p 2 ?_
          refine O_call (fun v => .bool v) h (.inr rfl) (ys := [.agg (cSStep v5), .ro (s2.1.map cB)]) (fun _ e => p76 _ _ _ e) (by kernel_rfl) (by kernel_rfl) (bels_cons (okSStep.bel _) (bels_cons (ro_bel okB.bel _) rfl)) (fun v13 e_v13 h => ?_)
          refine O_p 1 ?_
          refine O_nil ?_
          refine Gh_e ⟨⟨62, [(1, .po 0 0), (3, .ro (s2.1.map cB)), (4, .i s2.2), (5, .po 1 0), (48, .bool (!v13))]⟩, [.lv 2 [.i a0.Actuators, .ro (a0.Steps.map cSStep)], .lv 2 [.ro (v5.Strokes.map cSStroke), .i v5.Wait]]⟩ ?_
          refine W_gh ?_
          refine W_cond (c := (!v13)) (by kernel_rfl) (fun c14 => ?_) (fun c14 => ?_)
          · replace h := fork_t c14 h
            refine W_seq ?_
            refine W_reg ?_
            refine O_p 1 ?_
            refine O_nil ?_
            refine W_ret ?_
            replace h := Option.some.inj h; subst h
            refine ⟨_, rfl, fun h => ?_⟩
            replace h := Option.some.inj h; subst h
            exact Fin_free (l := [.i 14]) (by kernel_rfl) (by kernel_rfl) rfl
          · replace h := fork_f c14 h
            refine W_skip ?_
            refine Gh_e ⟨⟨62, [(1, .po 0 0), (3, .ro (s2.1.map cB)), (4, .i s2.2), (5, .po 1 0)]⟩, [.lv 2 [.i a0.Actuators, .ro (a0.Steps.map cSStep)], .lv 2 [.ro (v5.Strokes.map cSStroke), .i v5.Wait]]⟩ ?_
            refine W_gh ?_
            refine W_reg ?_
            refine O_p 2 ?_
            refine O_call (fun v => .ro (v.map cB)) h (.inr rfl) (ys := [.agg (cSStep v5), .ro (s2.1.map cB)]) (fun _ e => p77 _ _ _ e) (by kernel_rfl) (by kernel_rfl) (bels_cons (okSStep.bel _) (bels_cons (ro_bel okB.bel _) rfl)) (fun v15 e_v15 h => ?_)
            refine O_p 1 ?_
            refine O_nil ?_
            refine Gh_e ⟨⟨62, [(1, .po 0 0), (3, .ro (v15.map cB)), (4, .i s2.2)]⟩, [.lv 2 [.i a0.Actuators, .ro (a0.Steps.map cSStep)], .lv 2 [.ro (v5.Strokes.map cSStroke), .i v5.Wait]]⟩ ?_
            refine Gh_one (s1 := ⟨⟨62, [(1, .po 0 0), (3, .ro (v15.map cB)), (4, .i s2.2)]⟩, [.lv 2 [.i a0.Actuators, .ro (a0.Steps.map cSStep)], .lv 2 [.ro (v5.Strokes.map cSStroke), .i v5.Wait]]⟩) (by kernel_rfl) ?_
            refine Gh_at (s1 := ⟨⟨62, [(1, .po 0 0), (3, .ro (v15.map cB)), (4, .i s2.2)]⟩, [.lv 2 [.i a0.Actuators, .ro (a0.Steps.map cSStep)], .lv 2 [.ro (v5.Strokes.map cSStroke), .i v5.Wait]]⟩) (by kernel_rfl) ?_
            refine Gh_trunc (s1 := ⟨⟨62, [(1, .po 0 0), (3, .ro (v15.map cB)), (4, .i s2.2)]⟩, [.lv 2 [.i a0.Actuators, .ro (a0.Steps.map cSStep)]]⟩) (by kernel_rfl) (tb_ref rfl (tb_free (ro_bel okB.bel _) (tb_free rfl rfl))) (H1 := [.lv 2 [.i a0.Actuators, .ro (a0.Steps.map cSStep)]]) (by kernel_rfl) (ob_boxn (bn_free rfl (bn_free (ro_bel okSStep.bel _) rfl)) rfl) (by kernel_rfl) ?_
            refine Gh_nil ?_
            refine W_gh ?_
            refine W_reg ?_
            refine O_p 3 ?_
            refine O_nil ?_
            refine Gh_e ⟨⟨62, [(1, .po 0 0), (3, .ro (v15.map cB)), (4, .i (addI .i64 s2.2 1))]⟩, [.lv 2 [.i a0.Actuators, .ro (a0.Steps.map cSStep)]]⟩ ?_
            refine Gh_one (s1 := ⟨⟨62, [(1, .po 0 0), (3, .ro (v15.map cB)), (4, .i (addI .i64 s2.2 1))]⟩, [.lv 2 [.i a0.Actuators, .ro (a0.Steps.map cSStep)]]⟩) (by kernel_rfl) ?_
            refine Gh_trunc0 (by kernel_rfl) ?_
            refine Gh_nil ?_
            replace h := Option.some.inj h; subst h
            exact ⟨_, rfl, by kernel_rfl⟩
    · replace h := fork_f c4 h
      refine W_exit ?_
      refine X_hit ?_
      refine Gh_one (s1 := ⟨⟨62, [(1, .po 0 0), (3, .ro (s2.1.map cB))]⟩, [.lv 2 [.i a0.Actuators, .ro (a0.Steps.map cSStep)]]⟩) (by kernel_rfl) ?_
      refine Gh_trunc0 (by kernel_rfl) ?_
      refine Gh_nil ?_
      replace h := Option.some.inj h; subst h
      exact ⟨_, rfl, by kernel_rfl⟩
  · refine W_seq ?_
    refine W_seq ?_
    refine W_reg ?_
    refine O_p 1 ?_
    refine O_nil ?_
    refine W_loop (fun s16 : Int => ⟨⟨62, [(1, .po 0 0), (3, .ro (w3.map cB)), (8, .i s16)]⟩, [.lv 2 [.i a0.Actuators, .ro (a0.Steps.map cSStep)]]⟩) (fun w17 : Unit => ⟨⟨62, []⟩, [.lv 2 [.i a0.Actuators, .ro (a0.Steps.map cSStep)]]⟩) h (by kernel_rfl) (fun s16 c h => ?_) (fun w17 h => ?_)
    · refine W_gh ?_
      refine W_seq ?_
      refine W_seq ?_
      refine W_gh ?_
      refine W_reg ?_
      refine O_p 4 ?_
      refine O_nil ?_
      refine Gh_e ⟨⟨62, [(1, .po 0 0), (3, .ro (w3.map cB)), (8, .i s16), (55, .bool (decide (s16 < a0.Actuators)))]⟩, [.lv 2 [.i a0.Actuators, .ro (a0.Steps.map cSStep)]]⟩ ?_
      refine W_gh ?_
      refine W_cond (c := (decide (s16 < a0.Actuators))) (by kernel_rfl) (fun c18 => ?_) (fun c18 => ?_)
      · replace h := fork_t c18 h
        refine W_skip ?_
        refine Gh_e ⟨⟨62, [(1, .po 0 0), (3, .ro (w3.map cB)), (8, .i s16)]⟩, [.lv 2 [.i a0.Actuators, .ro (a0.Steps.map cSStep)]]⟩ ?_
        refine W_seq ?_
        refine W_gh ?_
        refine W_block ?_
        refine W_seq ?_
        refine W_gh ?_
        refine W_reg ?_
        refine O_p 2 ?_
        refine O_idx (kd := .i64) cB h (fun _ => rfl) (by kernel_rfl) (by kernel_rfl) (by kernel_rfl) (fun v19 e_v19 h => ?_)
        refine O_p 1 ?_
        refine O_nil ?_
        refine Gh_e ⟨⟨62, [(1, .po 0 0), (3, .ro (w3.map cB)), (8, .i s16), (61, .bool v19)]⟩, [.lv 2 [.i a0.Actuators, .ro (a0.Steps.map cSStep)]]⟩ ?_
        refine W_gh ?_
        refine W_cond (c := v19) (by kernel_rfl) (fun c20 => ?_) (fun c20 => ?_)
        · replace h := fork_t c20 h
          refine W_seq ?_
          refine W_reg ?_
          refine O_p 1 ?_
          refine O_nil ?_
          refine W_ret ?_
          replace h := Option.some.inj h; subst h
          refine ⟨_, rfl, fun h => ?_⟩
          replace h := Option.some.inj h; subst h
          exact Fin_free (l := [.i 9]) (by kernel_rfl) (by kernel_rfl) rfl
        · replace h := fork_f c20 h
          refine W_skip ?_
          refine Gh_e ⟨⟨62, [(1, .po 0 0), (3, .ro (w3.map cB)), (8, .i s16)]⟩, [.lv 2 [.i a0.Actuators, .ro (a0.Steps.map cSStep)]]⟩ ?_
          refine Gh_e ⟨⟨62, [(1, .po 0 0), (3, .ro (w3.map cB)), (8, .i s16)]⟩, [.lv 2 [.i a0.Actuators, .ro (a0.Steps.map cSStep)]]⟩ ?_
          refine W_gh ?_
          refine W_reg ?_
          refine O_p 3 ?_
          refine O_nil ?_
          refine Gh_e ⟨⟨62, [(1, .po 0 0), (3, .ro (w3.map cB)), (8, .i (addI .i64 s16 1))]⟩, [.lv 2 [.i a0.Actuators, .ro (a0.Steps.map cSStep)]]⟩ ?_
          refine Gh_e ⟨⟨62, [(1, .po 0 0), (3, .ro (w3.map cB)), (8, .i (addI .i64 s16 1))]⟩, [.lv 2 [.i a0.Actuators, .ro (a0.Steps.map cSStep)]]⟩ ?_
          replace h := Option.some.inj h; subst h
          exact ⟨_, rfl, by kernel_rfl⟩
      · replace h := fork_f c18 h
        refine W_exit ?_
        refine X_hit ?_
        refine Gh_e ⟨⟨62, []⟩, [.lv 2 [.i a0.Actuators, .ro (a0.Steps.map cSStep)]]⟩ ?_
        replace h := Option.some.inj h; subst h
        exact ⟨_, rfl, by kernel_rfl⟩
    · refine W_seq ?_
      refine W_reg ?_
      refine O_p 1 ?_
      refine O_nil ?_
      refine W_ret ?_
      replace h := Option.some.inj h; subst h
      exact Fin_free (l := [.i 0]) (by kernel_rfl) (by kernel_rfl) rfl

theorem p53 (a0 : SStep) (a1 : Int) (r : Int) (h : m53 a0 a1 = some r) : Pt E0 hp 53 [.agg (cSStep a0), .i a1] (.i r) := by
  unfold m53 at h
  refine Pt_W (fn53) rfl (by decide) ?_
  refine W_seq ?_
  refine W_gh ?_
  refine W_reg ?_
  refine O_p 2 ?_
  refine O_nil ?_
  refine Gh_e ⟨⟨27, [(1, .i a1), (2, .po 0 0)]⟩, [.lv 2 [.ro (a0.Strokes.map cSStroke), .i a0.Wait]]⟩ ?_
  refine W_seq ?_
  refine W_seq ?_
  refine W_reg ?_
  refine O_p 1 ?_
  refine O_nil ?_
  refine W_loop (fun s1 : Int => ⟨⟨27, [(1, .i a1), (2, .po 0 0), (5, .i s1)]⟩, [.lv 2 [.ro (a0.Strokes.map cSStroke), .i a0.Wait]]⟩) (fun w2 : Unit => ⟨⟨27, []⟩, [.lv 2 [.ro (a0.Strokes.map cSStroke), .i a0.Wait]]⟩) h (by kernel_rfl) (fun s1 c h => ?_) (fun w2 h => ?_)
  · refine W_gh ?_
    refine W_seq ?_
    refine W_seq ?_
    refine W_gh ?_
    refine W_reg ?_
    refine O_p 3 ?_
    refine O_len (l := a0.Strokes) cSStroke (by kernel_rfl) (by kernel_rfl) ?_
    refine O_p 1 ?_
    refine O_nil ?_
    refine Gh_e ⟨⟨27, [(1, .i a1), (2, .po 0 0), (5, .i s1), (10, .bool (decide (s1 < (a0.Strokes.length : Int))))]⟩, [.lv 2 [.ro (a0.Strokes.map cSStroke), .i a0.Wait]]⟩ ?_
    refine W_gh ?_
    refine W_cond (c := (decide (s1 < (a0.Strokes.length : Int)))) (by kernel_rfl) (fun c3 => ?_) (fun c3 => ?_)
    · replace h := fork_t c3 h
      refine W_skip ?_
      refine Gh_e ⟨⟨27, [(1, .i a1), (2, .po 0 0), (5, .i s1)]⟩, [.lv 2 [.ro (a0.Strokes.map cSStroke), .i a0.Wait]]⟩ ?_
      refine W_seq ?_
      refine W_gh ?_
      refine W_block ?_
      refine W_seq ?_
      refine W_gh ?_
      refine W_reg ?_
      refine O_p 3 ?_
      refine O_idx (kd := .i64) cSStroke h (fun _ => rfl) (by kernel_rfl) (by kernel_rfl) (by kernel_rfl) (fun v4 e_v4 h => ?_)
      refine O_p 4 ?_
      refine O_nil ?_
      refine Gh_e ⟨⟨27, [(1, .i a1), (2, .po 0 0), (5, .i s1), (20, .bool (v4.Actuator == a1))]⟩, [.lv 2 [.ro (a0.Strokes.map cSStroke), .i a0.Wait]]⟩ ?_
      refine W_gh ?_
      refine W_cond (c := (v4.Actuator == a1)) (by kernel_rfl) (fun c5 => ?_) (fun c5 => ?_)
      · replace h := fork_t c5 h
        refine W_seq ?_
        refine W_seq ?_
        refine W_gh ?_
        refine W_reg ?_
        refine O_p 3 ?_
        refine O_idx (kd := .i64) cSStroke h (fun _ => rfl) (by kernel_rfl) (by kernel_rfl) (by kernel_rfl) (fun v6 e_v6 h => ?_)
        refine O_p 2 ?_
        refine O_nil ?_
        refine Gh_e ⟨⟨27, [(1, .i a1), (20, .bool (v4.Actuator == a1)), (26, .bool v6.Out)]⟩, [.lv 2 [.ro (a0.Strokes.map cSStroke), .i a0.Wait]]⟩ ?_
        refine W_gh ?_
        refine W_cond (c := v6.Out) (by kernel_rfl) (fun c7 => ?_) (fun c7 => ?_)
        · replace h := fork_t c7 h
          refine W_seq ?_
          refine W_reg ?_
          refine O_p 1 ?_
          refine O_nil ?_
          refine W_ret ?_
          replace h := Option.some.inj h; subst h
          refine ⟨_, rfl, fun h => ?_⟩
          replace h := Option.some.inj h; subst h
          exact Fin_free (l := [.i 1]) (by kernel_rfl) (by kernel_rfl) rfl
        · replace h := fork_f c7 h
          refine W_skip ?_
          refine Gh_e ⟨⟨27, [(1, .i a1), (20, .bool (v4.Actuator == a1))]⟩, [.lv 2 [.ro (a0.Strokes.map cSStroke), .i a0.Wait]]⟩ ?_
          refine W_seq ?_
          refine W_reg ?_
          refine O_p 1 ?_
          refine O_nil ?_
          refine W_ret ?_
          replace h := Option.some.inj h; subst h
          refine ⟨_, rfl, fun h => ?_⟩
          replace h := Option.some.inj h; subst h
          exact Fin_free (l := [.i (-1)]) (by kernel_rfl) (by kernel_rfl) rfl
      · replace h := fork_f c5 h
        refine W_skip ?_
        refine Gh_e ⟨⟨27, [(1, .i a1), (2, .po 0 0), (5, .i s1)]⟩, [.lv 2 [.ro (a0.Strokes.map cSStroke), .i a0.Wait]]⟩ ?_
        refine Gh_e ⟨⟨27, [(1, .i a1), (2, .po 0 0), (5, .i s1)]⟩, [.lv 2 [.ro (a0.Strokes.map cSStroke), .i a0.Wait]]⟩ ?_
        refine W_gh ?_
        refine W_reg ?_
        refine O_p 3 ?_
        refine O_nil ?_
        refine Gh_e ⟨⟨27, [(1, .i a1), (2, .po 0 0), (5, .i (addI .i64 s1 1))]⟩, [.lv 2 [.ro (a0.Strokes.map cSStroke), .i a0.Wait]]⟩ ?_
        refine Gh_e ⟨⟨27, [(1, .i a1), (2, .po 0 0), (5, .i (addI .i64 s1 1))]⟩, [.lv 2 [.ro (a0.Strokes.map cSStroke), .i a0.Wait]]⟩ ?_
        replace h := Option.some.inj h; subst h
        exact ⟨_, rfl, by kernel_rfl⟩
    · replace h := fork_f c3 h
      refine W_exit ?_
      refine X_hit ?_
      refine Gh_e ⟨⟨27, []⟩, [.lv 2 [.ro (a0.Strokes.map cSStroke), .i a0.Wait]]⟩ ?_
      replace h := Option.some.inj h; subst h
      exact ⟨_, rfl, by kernel_rfl⟩
  · refine W_seq ?_
    refine W_reg ?_
    refine O_p 1 ?_
    refine O_nil ?_
    refine W_ret ?_
    replace h := Option.some.inj h; subst h
    exact Fin_free (l := [.i 0]) (by kernel_rfl) (by kernel_rfl) rfl

theorem p63 (a0 : SSequence) (a1 : Int) (r : Bool) (h : m63 a0 a1 = some r) : Pt E0 hp 63 [.agg (cSSequence a0), .i a1] (.bool r) := by
  unfold m63 at h
  refine Pt_W (fn63) rfl (by decide) ?_
  refine W_seq ?_
  refine W_gh ?_
  refine W_reg ?_
  refine O_p 2 ?_
  refine O_nil ?_
  refine Gh_e ⟨⟨21, [(1, .i a1), (2, .po 0 0)]⟩, [.lv 2 [.i a0.Actuators, .ro (a0.Steps.map cSStep)]]⟩ ?_
  refine W_seq ?_
  refine W_seq ?_
  refine W_reg ?_
  refine O_p 1 ?_
  refine O_nil ?_
  refine W_loop (fun s1 : Int => ⟨⟨21, [(1, .i a1), (2, .po 0 0), (5, .i s1)]⟩, [.lv 2 [.i a0.Actuators, .ro (a0.Steps.map cSStep)]]⟩) (fun w2 : Unit => ⟨⟨21, []⟩, [.lv 2 [.i a0.Actuators, .ro (a0.Steps.map cSStep)]]⟩) h (by kernel_rfl) (fun s1 c h => ?_) (fun w2 h => ?_)
  · refine W_gh ?_
    refine W_seq ?_
    refine W_seq ?_
    refine W_gh ?_
    refine W_reg ?_
    refine O_p 3 ?_
    refine O_len (l := a0.Steps) cSStep (by kernel_rfl) (by kernel_rfl) ?_
    refine O_p 1 ?_
    refine O_nil ?_
    refine Gh_e ⟨⟨21, [(1, .i a1), (2, .po 0 0), (5, .i s1), (10, .bool (decide (s1 < (a0.Steps.length : Int))))]⟩, [.lv 2 [.i a0.Actuators, .ro (a0.Steps.map cSStep)]]⟩ ?_
    refine W_gh ?_
    refine W_cond (c := (decide (s1 < (a0.Steps.length : Int)))) (by kernel_rfl) (fun c3 => ?_) (fun c3 => ?_)
    · replace h := fork_t c3 h
      refine W_skip ?_
      refine Gh_e ⟨⟨21, [(1, .i a1), (2, .po 0 0), (5, .i s1)]⟩, [.lv 2 [.i a0.Actuators, .ro (a0.Steps.map cSStep)]]⟩ ?_
      refine W_seq ?_
      refine W_gh ?_
      refine W_block ?_
      refine W_seq ?_
      refine W_gh ?_
      refine W_reg ?_
      refine O_p 3 ?_
      refine O_idx (kd := .i64) cSStep h (fun _ => rfl) (by kernel_rfl) (by kernel_rfl) (by kernel_rfl) (fun v4 e_v4 h => ?_)
      refine O_p 2 ?_
      refine O_call (fun v => .i v) h (.inr rfl) (ys := [.agg (cSStep v4), .i a1]) (fun _ e => p53 _ _ _ e) (by kernel_rfl) (by kernel_rfl) (bels_cons (okSStep.bel _) (bels_cons rfl rfl)) (fun v5 e_v5 h => ?_)
      refine O_p 1 ?_
      refine O_nil ?_
      refine Gh_e ⟨⟨21, [(1, .i a1), (2, .po 0 0), (5, .i s1), (20, .bool (v5 != 0))]⟩, [.lv 2 [.i a0.Actuators, .ro (a0.Steps.map cSStep)]]⟩ ?_
      refine W_gh ?_
      refine W_cond (c := (v5 != 0)) (by kernel_rfl) (fun c6 => ?_) (fun c6 => ?_)
      · replace h := fork_t c6 h
        refine W_seq ?_
        refine W_reg ?_
        refine O_p 1 ?_
        refine O_nil ?_
        refine W_ret ?_
        replace h := Option.some.inj h; subst h
        refine ⟨_, rfl, fun h => ?_⟩
        replace h := Option.some.inj h; subst h
        exact Fin_free (l := [.bool true]) (by kernel_rfl) (by kernel_rfl) rfl
      · replace h := fork_f c6 h
        refine W_skip ?_
        refine Gh_e ⟨⟨21, [(1, .i a1), (2, .po 0 0), (5, .i s1)]⟩, [.lv 2 [.i a0.Actuators, .ro (a0.Steps.map cSStep)]]⟩ ?_
        refine Gh_e ⟨⟨21, [(1, .i a1), (2, .po 0 0), (5, .i s1)]⟩, [.lv 2 [.i a0.Actuators, .ro (a0.Steps.map cSStep)]]⟩ ?_
        refine W_gh ?_
        refine W_reg ?_
        refine O_p 3 ?_
        refine O_nil ?_
        refine Gh_e ⟨⟨21, [(1, .i a1), (2, .po 0 0), (5, .i (addI .i64 s1 1))]⟩, [.lv 2 [.i a0.Actuators, .ro (a0.Steps.map cSStep)]]⟩ ?_
        refine Gh_e ⟨⟨21, [(1, .i a1), (2, .po 0 0), (5, .i (addI .i64 s1 1))]⟩, [.lv 2 [.i a0.Actuators, .ro (a0.Steps.map cSStep)]]⟩ ?_
        replace h := Option.some.inj h; subst h
        exact ⟨_, rfl, by kernel_rfl⟩
    · replace h := fork_f c3 h
      refine W_exit ?_
      refine X_hit ?_
      refine Gh_e ⟨⟨21, []⟩, [.lv 2 [.i a0.Actuators, .ro (a0.Steps.map cSStep)]]⟩ ?_
      replace h := Option.some.inj h; subst h
      exact ⟨_, rfl, by kernel_rfl⟩
  · refine W_seq ?_
    refine W_reg ?_
    refine O_p 1 ?_
    refine O_nil ?_
    refine W_ret ?_
    replace h := Option.some.inj h; subst h
    exact Fin_free (l := [.bool false]) (by kernel_rfl) (by kernel_rfl) rfl

theorem p37 (a0 : SSequence) (r : Int) (h : m37 a0 = some r) : Pt E0 hp 37 [.agg (cSSequence a0)] (.i r) := by
  unfold m37 at h
  refine Pt_W (fn37) rfl (by decide) ?_
  refine W_seq ?_
  refine W_gh ?_
  refine W_reg ?_
  refine O_p 2 ?_
  refine O_nil ?_
  refine Gh_e ⟨⟨36, [(1, .po 0 0)]⟩, [.lv 2 [.i a0.Actuators, .ro (a0.Steps.map cSStep)]]⟩ ?_
  refine W_seq ?_
  refine W_seq ?_
  refine W_cut ⟨⟨36, [(1, .po 0 0), (12, .bool ((decide (a0.Actuators < 1)) || (decide (a0.Actuators > 6))))]⟩, [.lv 2 [.i a0.Actuators, .ro (a0.Steps.map cSStep)]]⟩ ?_ ?_
  · generalize e_g1 : ((decide (a0.Actuators < 1)) || (decide (a0.Actuators > 6))) = g1
    refine W_gh ?_
    refine W_reg ?_
    refine O_p 4 ?_
    refine O_fork (n := 8) (decide (a0.Actuators < 1)) (by kernel_rfl) (fun c2 => ?_) (fun c2 => ?_)
    · skip
      refine O_p 4 ?_
      refine O_nil ?_
      refine Gh_e ⟨⟨36, [(1, .po 0 0), (12, .bool true)]⟩, [.lv 2 [.i a0.Actuators, .ro (a0.Steps.map cSStep)]]⟩ ?_
      have q := e_g1; simp only [c2, cond_true, cond_false, Bool.true_and, Bool.false_and, Bool.true_or, Bool.false_or] at q; subst q
      show _ = _
      kernel_rfl
    · skip
      refine O_p 4 ?_
      refine O_nil ?_
      refine Gh_e ⟨⟨36, [(1, .po 0 0), (12, .bool (decide (a0.Actuators > 6)))]⟩, [.lv 2 [.i a0.Actuators, .ro (a0.Steps.map cSStep)]]⟩ ?_
      have q := e_g1; simp only [c2, cond_true, cond_false, Bool.true_and, Bool.false_and, Bool.true_or, Bool.false_or] at q; subst q
      show _ = _
      kernel_rfl
  · refine W_gh ?_
    refine W_cond (c := ((decide (a0.Actuators < 1)) || (decide (a0.Actuators > 6)))) (by kernel_rfl) (fun c3 => ?_) (fun c3 => ?_)
    · replace h := fork_t c3 h
      refine W_seq ?_
      refine W_reg ?_
      refine O_p 1 ?_
      refine O_nil ?_
      refine W_ret ?_
      replace h := Option.some.inj h; subst h
      exact Fin_free (l := [.i 2]) (by kernel_rfl) (by kernel_rfl) rfl
    · replace h := fork_f c3 h
      refine W_skip ?_
      refine Gh_e ⟨⟨36, [(1, .po 0 0)]⟩, [.lv 2 [.i a0.Actuators, .ro (a0.Steps.map cSStep)]]⟩ ?_
      refine W_seq ?_
      refine W_seq ?_
      refine W_gh ?_
      refine W_reg ?_
      refine O_p 2 ?_
      refine O_len (l := a0.Steps) cSStep (by kernel_rfl) (by kernel_rfl) ?_
      refine O_p 1 ?_
      refine O_nil ?_
      refine Gh_e ⟨⟨36, [(1, .po 0 0), (16, .bool ((a0.Steps.length : Int) == 0))]⟩, [.lv 2 [.i a0.Actuators, .ro (a0.Steps.map cSStep)]]⟩ ?_
      refine W_gh ?_
      refine W_cond (c := ((a0.Steps.length : Int) == 0)) (by kernel_rfl) (fun c4 => ?_) (fun c4 => ?_)
      · replace h := fork_t c4 h
        refine W_seq ?_
        refine W_reg ?_
        refine O_p 1 ?_
        refine O_nil ?_
        refine W_ret ?_
        replace h := Option.some.inj h; subst h
        exact Fin_free (l := [.i 13]) (by kernel_rfl) (by kernel_rfl) rfl
      · replace h := fork_f c4 h
        refine W_skip ?_
        refine Gh_e ⟨⟨36, [(1, .po 0 0)]⟩, [.lv 2 [.i a0.Actuators, .ro (a0.Steps.map cSStep)]]⟩ ?_
        refine W_seq ?_
        refine W_seq ?_
        refine W_gh ?_
        refine W_reg ?_
        refine O_p 2 ?_
        refine O_len (l := a0.Steps) cSStep (by kernel_rfl) (by kernel_rfl) ?_
        refine O_p 1 ?_
        refine O_nil ?_
        refine Gh_e ⟨⟨36, [(1, .po 0 0), (20, .bool (decide ((a0.Steps.length : Int) > 64)))]⟩, [.lv 2 [.i a0.Actuators, .ro (a0.Steps.map cSStep)]]⟩ ?_
        refine W_gh ?_
        refine W_cond (c := (decide ((a0.Steps.length : Int) > 64))) (by kernel_rfl) (fun c5 => ?_) (fun c5 => ?_)
        · replace h := fork_t c5 h
          refine W_seq ?_
          refine W_reg ?_
          refine O_p 1 ?_
          refine O_nil ?_
          refine W_ret ?_
          replace h := Option.some.inj h; subst h
          exact Fin_free (l := [.i 5]) (by kernel_rfl) (by kernel_rfl) rfl
        · replace h := fork_f c5 h
          refine W_skip ?_
          refine Gh_e ⟨⟨36, [(1, .po 0 0)]⟩, [.lv 2 [.i a0.Actuators, .ro (a0.Steps.map cSStep)]]⟩ ?_
          refine W_seq ?_
          refine W_seq ?_
          refine W_gh ?_
          refine W_reg ?_
          refine O_p 1 ?_
          refine O_call (fun v => .i v) h (.inr rfl) (ys := [.agg (cSSequence a0)]) (fun _ e => p62 _ _ e) (by kernel_rfl) (by kernel_rfl) (bels_cons (okSSequence.bel _) rfl) (fun v6 e_v6 h => ?_)
          refine O_p 1 ?_
          refine O_nil ?_
          refine Gh_e ⟨⟨36, [(1, .po 0 0), (3, .i v6)]⟩, [.lv 2 [.i a0.Actuators, .ro (a0.Steps.map cSStep)]]⟩ ?_
          refine W_seq ?_
          refine W_gh ?_
          refine W_reg ?_
          refine O_p 2 ?_
          refine O_nil ?_
          refine Gh_e ⟨⟨36, [(1, .po 0 0), (3, .i v6), (24, .bool (v6 != 0))]⟩, [.lv 2 [.i a0.Actuators, .ro (a0.Steps.map cSStep)]]⟩ ?_
          refine W_gh ?_
          refine W_cond (c := (v6 != 0)) (by kernel_rfl) (fun c7 => ?_) (fun c7 => ?_)
          · replace h := fork_t c7 h
            refine W_seq ?_
            refine W_gh ?_
            refine W_reg ?_
            refine O_p 2 ?_
            refine O_nil ?_
            refine Gh_e ⟨⟨36, [(1, .po 0 0), (2, .i v6), (24, .bool (v6 != 0))]⟩, [.lv 2 [.i a0.Actuators, .ro (a0.Steps.map cSStep)]]⟩ ?_
            refine W_ret ?_
            replace h := Option.some.inj h; subst h
            exact Fin_free (l := [.i v6]) (by kernel_rfl) (by kernel_rfl) rfl
          · replace h := fork_f c7 h
            refine W_skip ?_
            refine Gh_e ⟨⟨36, [(1, .po 0 0)]⟩, [.lv 2 [.i a0.Actuators, .ro (a0.Steps.map cSStep)]]⟩ ?_
            refine W_seq ?_
            refine W_seq ?_
            refine W_reg ?_
            refine O_p 1 ?_
            refine O_nil ?_
            refine W_loop (fun s8 : Int => ⟨⟨36, [(1, .po 0 0), (4, .i s8)]⟩, [.lv 2 [.i a0.Actuators, .ro (a0.Steps.map cSStep)]]⟩) (fun w9 : Unit => ⟨⟨36, []⟩, [.lv 2 [.i a0.Actuators, .ro (a0.Steps.map cSStep)]]⟩) h (by kernel_rfl) (fun s8 c h => ?_) (fun w9 h => ?_)
            · refine W_gh ?_
              refine W_seq ?_
              refine W_seq ?_
              refine W_gh ?_
              refine W_reg ?_
              refine O_p 4 ?_
              refine O_nil ?_
              refine Gh_e ⟨⟨36, [(1, .po 0 0), (4, .i s8), (29, .bool (decide (s8 < a0.Actuators)))]⟩, [.lv 2 [.i a0.Actuators, .ro (a0.Steps.map cSStep)]]⟩ ?_
              refine W_gh ?_
              refine W_cond (c := (decide (s8 < a0.Actuators))) (by kernel_rfl) (fun c10 => ?_) (fun c10 => ?_)
              · replace h := fork_t c10 h
                refine W_skip ?_
                refine Gh_e ⟨⟨36, [(1, .po 0 0), (4, .i s8)]⟩, [.lv 2 [.i a0.Actuators, .ro (a0.Steps.map cSStep)]]⟩ ?_
                refine W_seq ?_
                refine W_gh ?_
                refine W_block ?_
                refine W_seq ?_
                refine W_gh ?_
                refine W_reg ?_
                refine O_p 2 ?_
                refine O_call (fun v => .bool v) h (.inr rfl) (ys := [.agg (cSSequence a0), .i s8]) (fun _ e => p63 _ _ _ e) (by kernel_rfl) (by kernel_rfl) (bels_cons (okSSequence.bel _) (bels_cons rfl rfl)) (fun v11 e_v11 h => ?_)
                refine O_p 1 ?_
                refine O_nil ?_
                refine Gh_e ⟨⟨36, [(1, .po 0 0), (4, .i s8), (35, .bool (!v11))]⟩, [.lv 2 [.i a0.Actuators, .ro (a0.Steps.map cSStep)]]⟩ ?_
                refine W_gh ?_
                refine W_cond (c := (!v11)) (by kernel_rfl) (fun c12 => ?_) (fun c12 => ?_)
                · replace h := fork_t c12 h
                  refine W_seq ?_
                  refine W_reg ?_
                  refine O_p 1 ?_
                  refine O_nil ?_
                  refine W_ret ?_
                  replace h := Option.some.inj h; subst h
                  refine ⟨_, rfl, fun h => ?_⟩
                  replace h := Option.some.inj h; subst h
                  exact Fin_free (l := [.i 13]) (by kernel_rfl) (by kernel_rfl) rfl
                · replace h := fork_f c12 h
                  refine W_skip ?_
                  refine Gh_e ⟨⟨36, [(1, .po 0 0), (4, .i s8)]⟩, [.lv 2 [.i a0.Actuators, .ro (a0.Steps.map cSStep)]]⟩ ?_
                  refine Gh_e ⟨⟨36, [(1, .po 0 0), (4, .i s8)]⟩, [.lv 2 [.i a0.Actuators, .ro (a0.Steps.map cSStep)]]⟩ ?_
                  refine W_gh ?_
                  refine W_reg ?_
                  refine O_p 3 ?_
                  refine O_nil ?_
                  refine Gh_e ⟨⟨36, [(1, .po 0 0), (4, .i (addI .i64 s8 1))]⟩, [.lv 2 [.i a0.Actuators, .ro (a0.Steps.map cSStep)]]⟩ ?_
                  refine Gh_e ⟨⟨36, [(1, .po 0 0), (4, .i (addI .i64 s8 1))]⟩, [.lv 2 [.i a0.Actuators, .ro (a0.Steps.map cSStep)]]⟩ ?_
                  replace h := Option.some.inj h; subst h
                  exact ⟨_, rfl, by kernel_rfl⟩
              · replace h := fork_f c10 h
                refine W_exit ?_
                refine X_hit ?_
                refine Gh_e ⟨⟨36, []⟩, [.lv 2 [.i a0.Actuators, .ro (a0.Steps.map cSStep)]]⟩ ?_
                replace h := Option.some.inj h; subst h
                exact ⟨_, rfl, by kernel_rfl⟩
            · refine W_seq ?_
              refine W_reg ?_
              refine O_p 1 ?_
              refine O_nil ?_
              refine W_ret ?_
              replace h := Option.some.inj h; subst h
              exact Fin_free (l := [.i 0]) (by kernel_rfl) (by kernel_rfl) rfl

theorem p21 (a0 : SSequence) (r : Bool) (h : m21 a0 = some r) : Pt E0 hp 21 [.agg (cSSequence a0)] (.bool r) := by
  unfold m21 at h
  refine Pt_W (fn21) rfl (by decide) ?_
  refine W_seq ?_
  refine W_gh ?_
  refine W_reg ?_
  refine O_p 2 ?_
  refine O_nil ?_
  refine Gh_e ⟨⟨16, [(1, .po 0 0)]⟩, [.lv 2 [.i a0.Actuators, .ro (a0.Steps.map cSStep)]]⟩ ?_
  refine W_seq ?_
  refine W_joinS (fun v : Bool => ⟨⟨16, [(2, .bool v)]⟩, [.lv 2 [.i a0.Actuators, .ro (a0.Steps.map cSStep)]]⟩) h (fun w h => ?_) (fun w1 e_w1 h => ?_)
  · refine W_gh ?_
    refine W_reg ?_
    refine O_p 2 ?_
    refine O_len (l := a0.Steps) cSStep (by kernel_rfl) (by kernel_rfl) ?_
    refine O_p 2 ?_
    refine O_fork (n := 7) (decide ((a0.Steps.length : Int) ≤ 24)) (by kernel_rfl) (fun c2 => ?_) (fun c2 => ?_)
    · replace h := fork_t c2 h
      refine O_p 1 ?_
      refine O_call (fun v => .bool v) h (.inr rfl) (ys := [.agg (cSSequence a0)]) (fun _ e => p11 _ _ e) (by kernel_rfl) (by kernel_rfl) (bels_cons (okSSequence.bel _) rfl) (fun v3 e_v3 h => ?_)
      refine O_p 2 ?_
      refine O_fork (n := 11) v3 (by kernel_rfl) (fun c4 => ?_) (fun c4 => ?_)
      · replace h := fork_t c4 h
        refine O_p 1 ?_
        refine O_call (fun v => .i v) h (.inr rfl) (ys := [.agg (cSSequence a0)]) (fun _ e => p37 _ _ e) (by kernel_rfl) (by kernel_rfl) (bels_cons (okSSequence.bel _) rfl) (fun v5 e_v5 h => ?_)
        refine O_p 3 ?_
        refine O_nil ?_
        refine Gh_e ⟨⟨16, [(2, .bool (v5 == 0))]⟩, [.lv 2 [.i a0.Actuators, .ro (a0.Steps.map cSStep)]]⟩ ?_
        replace h := Option.some.inj h; subst h
        show _ = _
        kernel_rfl
      · replace h := fork_f c4 h
        refine O_p 5 ?_
        refine O_nil ?_
        refine Gh_e ⟨⟨16, [(2, .bool false)]⟩, [.lv 2 [.i a0.Actuators, .ro (a0.Steps.map cSStep)]]⟩ ?_
        replace h := Option.some.inj h; subst h
        show _ = _
        kernel_rfl
    · replace h := fork_f c2 h
      refine O_p 9 ?_
      refine O_nil ?_
      refine Gh_e ⟨⟨16, [(2, .bool false)]⟩, [.lv 2 [.i a0.Actuators, .ro (a0.Steps.map cSStep)]]⟩ ?_
      replace h := Option.some.inj h; subst h
      show _ = _
      kernel_rfl
  · refine W_ret ?_
    replace h := Option.some.inj h; subst h
    exact Fin_free (l := [.bool w1]) (by kernel_rfl) (by kernel_rfl) rfl

theorem p16 (a0 : SSequence) (r : ((List Int) × Int)) (h : m16 a0 = some r) : Pt E0 hp 16 [.agg (cSSequence a0)] (.tup [.ro (r.1.map cI_i64), .i r.2]) := by
  unfold m16 at h
  refine Pt_W (fn16) rfl (by decide) ?_
  refine W_seq ?_
  refine W_gh ?_
  refine W_reg ?_
  refine O_p 3 ?_
  refine O_nil ?_
  refine Gh_e ⟨⟨12, [(1, .po 0 0)]⟩, [.lv 2 [.i a0.Actuators, .ro (a0.Steps.map cSStep)]]⟩ ?_
  refine W_seq ?_
  refine W_seq ?_
  refine W_gh ?_
  refine W_reg ?_
  refine O_p 1 ?_
  refine O_call (fun v => .i v) h (.inr rfl) (ys := [.agg (cSSequence a0)]) (fun _ e => p35 _ _ e) (by kernel_rfl) (by kernel_rfl) (bels_cons (okSSequence.bel _) rfl) (fun v1 e_v1 h => ?_)
  refine O_p 1 ?_
  refine O_nil ?_
  refine Gh_e ⟨⟨12, [(1, .po 0 0), (4, .i v1)]⟩, [.lv 2 [.i a0.Actuators, .ro (a0.Steps.map cSStep)]]⟩ ?_
  refine W_seq ?_
  refine W_gh ?_
  refine W_reg ?_
  refine O_p 2 ?_
  refine O_nil ?_
  refine Gh_e ⟨⟨12, [(1, .po 0 0), (4, .i v1), (8, .bool (v1 != 0))]⟩, [.lv 2 [.i a0.Actuators, .ro (a0.Steps.map cSStep)]]⟩ ?_
  refine W_gh ?_
  refine W_cond (c := (v1 != 0)) (by kernel_rfl) (fun c2 => ?_) (fun c2 => ?_)
  · replace h := fork_t c2 h
    refine W_seq ?_
    refine W_gh ?_
    refine W_reg ?_
    refine O_p 3 ?_
    refine O_nil ?_
    refine Gh_e ⟨⟨12, [(1, .po 0 0), (2, .ro (([] : List Int).map cI_i64)), (3, .i v1), (8, .bool (v1 != 0))]⟩, [.lv 2 [.i a0.Actuators, .ro (a0.Steps.map cSStep)]]⟩ ?_
    refine W_ret ?_
    replace h := Option.some.inj h; subst h
    exact Fin_free (l := [.ro (([] : List Int).map cI_i64), .i v1]) (by kernel_rfl) (by kernel_rfl) (bels_cons (ro_bel okI_i64.bel _) (bels_cons rfl rfl))
  · replace h := fork_f c2 h
    refine W_skip ?_
    refine Gh_e ⟨⟨12, [(1, .po 0 0)]⟩, [.lv 2 [.i a0.Actuators, .ro (a0.Steps.map cSStep)]]⟩ ?_
    refine W_seq ?_
    refine W_gh ?_
    refine W_reg ?_
    refine O_p 1 ?_
    refine O_call (fun v => .ro (v.map cI_i64)) h (.inr rfl) (ys := [.agg (cSSequence a0), .i 0]) (fun _ e => p39 _ _ _ e) (by kernel_rfl) (by kernel_rfl) (bels_cons (okSSequence.bel _) (bels_cons rfl rfl)) (fun v3 e_v3 h => ?_)
    refine O_p 2 ?_
    refine O_nil ?_
    refine Gh_e ⟨⟨12, [(2, .ro (v3.map cI_i64)), (3, .i 0)]⟩, [.lv 2 [.i a0.Actuators, .ro (a0.Steps.map cSStep)]]⟩ ?_
    refine W_ret ?_
    replace h := Option.some.inj h; subst h
    exact Fin_free (l := [.ro (v3.map cI_i64), .i 0]) (by kernel_rfl) (by kernel_rfl) (bels_cons (ro_bel okI_i64.bel _) (bels_cons rfl rfl))

theorem p18 (a0 : (List Int)) (a1 : (List Int)) (r : Bool) (h : m18 a0 a1 = some r) : Pt E0 hp 18 [.ro (a0.map cI_i64), .ro (a1.map cI_i64)] (.bool r) := by
  unfold m18 at h
  refine Pt_W (fn18) rfl (by decide) ?_
  refine W_seq ?_
  refine W_gh ?_
  refine W_reg ?_
  refine O_p 1 ?_
  refine O_nil ?_
  refine Gh_e ⟨⟨26, [(0, .ro (a0.map cI_i64)), (1, .ro (a1.map cI_i64))]⟩, []⟩ ?_
  refine W_seq ?_
  refine W_seq ?_
  refine W_gh ?_
  refine W_reg ?_
  refine O_p 1 ?_
  refine O_len (l := a0) cI_i64 (by kernel_rfl) (by kernel_rfl) ?_
  refine O_p 1 ?_
  refine O_len (l := a1) cI_i64 (by kernel_rfl) (by kernel_rfl) ?_
  refine O_p 1 ?_
  refine O_nil ?_
  refine Gh_e ⟨⟨26, [(0, .ro (a0.map cI_i64)), (1, .ro (a1.map cI_i64)), (10, .bool ((a0.length : Int) != (a1.length : Int)))]⟩, []⟩ ?_
  refine W_gh ?_
  refine W_cond (c := ((a0.length : Int) != (a1.length : Int))) (by kernel_rfl) (fun c1 => ?_) (fun c1 => ?_)
  · replace h := fork_t c1 h
    refine W_seq ?_
    refine W_reg ?_
    refine O_p 1 ?_
    refine O_nil ?_
    refine W_ret ?_
    replace h := Option.some.inj h; subst h
    exact Fin_free (l := [.bool false]) (by kernel_rfl) (by kernel_rfl) rfl
  · replace h := fork_f c1 h
    refine W_skip ?_
    refine Gh_e ⟨⟨26, [(0, .ro (a0.map cI_i64)), (1, .ro (a1.map cI_i64))]⟩, []⟩ ?_
    refine W_seq ?_
    refine W_seq ?_
    refine W_gh ?_
    refine W_reg ?_
    refine O_p 1 ?_
    refine O_len (l := a0) cI_i64 (by kernel_rfl) (by kernel_rfl) ?_
    refine O_p 1 ?_
    refine O_nil ?_
    refine Gh_e ⟨⟨26, [(0, .ro (a0.map cI_i64)), (1, .ro (a1.map cI_i64)), (12, .i (a0.length : Int)), (13, .i 0)]⟩, []⟩ ?_
    refine W_loop (fun s2 : Int => ⟨⟨26, [(0, .ro (a0.map cI_i64)), (1, .ro (a1.map cI_i64)), (12, .i (a0.length : Int)), (13, .i s2)]⟩, []⟩) (fun w3 : Unit => ⟨⟨26, []⟩, []⟩) h (by kernel_rfl) (fun s2 c h => ?_) (fun w3 h => ?_)
    · refine W_gh ?_
      refine W_seq ?_
      refine W_reg ?_
      refine O_p 1 ?_
      refine O_nil ?_
      refine W_seq ?_
      refine W_gh ?_
      refine W_cond (c := (decide (s2 < (a0.length : Int)))) (by kernel_rfl) (fun c4 => ?_) (fun c4 => ?_)
      · replace h := fork_t c4 h
        refine W_skip ?_
        refine Gh_e ⟨⟨26, [(0, .ro (a0.map cI_i64)), (1, .ro (a1.map cI_i64)), (12, .i (a0.length : Int)), (13, .i s2)]⟩, []⟩ ?_
        refine W_seq ?_
        refine W_gh ?_
        refine W_block ?_
        refine W_seq ?_
        refine W_gh ?_
        refine W_reg ?_
        refine O_p 2 ?_
        refine O_nil ?_
        refine Gh_e ⟨⟨26, [(0, .ro (a0.map cI_i64)), (1, .ro (a1.map cI_i64)), (5, .i s2), (12, .i (a0.length : Int)), (13, .i s2)]⟩, []⟩ ?_
        refine W_seq ?_
        refine W_gh ?_
        refine W_draw ?_
        refine O_p 2 ?_
        refine O_idx (kd := .i64) cI_i64 h (fun _ => rfl) (by kernel_rfl) (by kernel_rfl) (by kernel_rfl) (fun v5 e_v5 h => ?_)
        refine O_p 3 ?_
        refine O_idx (kd := .i64) cI_i64 h (fun _ => rfl) (by kernel_rfl) (by kernel_rfl) (by kernel_rfl) (fun v6 e_v6 h => ?_)
        refine O_p 2 ?_
        refine O_nil ?_
        refine Gh_e ⟨⟨26, [(0, .ro (a0.map cI_i64)), (1, .ro (a1.map cI_i64)), (12, .i (a0.length : Int)), (13, .i s2), (24, .bool (v5 != v6))]⟩, []⟩ ?_
        refine W_gh ?_
        refine W_cond (c := (v5 != v6)) (by kernel_rfl) (fun c7 => ?_) (fun c7 => ?_)
        · replace h := fork_t c7 h
          refine W_seq ?_
          refine W_reg ?_
          refine O_p 1 ?_
          refine O_nil ?_
          refine W_ret ?_
          replace h := Option.some.inj h; subst h
          refine ⟨_, rfl, fun h => ?_⟩
          replace h := Option.some.inj h; subst h
          exact Fin_free (l := [.bool false]) (by kernel_rfl) (by kernel_rfl) rfl
        · replace h := fork_f c7 h
          refine W_skip ?_
          refine Gh_e ⟨⟨26, [(0, .ro (a0.map cI_i64)), (1, .ro (a1.map cI_i64)), (12, .i (a0.length : Int)), (13, .i s2)]⟩, []⟩ ?_
          refine Gh_e ⟨⟨26, [(0, .ro (a0.map cI_i64)), (1, .ro (a1.map cI_i64)), (12, .i (a0.length : Int)), (13, .i s2)]⟩, []⟩ ?_
          refine W_gh ?_
          refine W_reg ?_
          refine O_p 2 ?_
          refine O_nil ?_
          refine Gh_e ⟨⟨26, [(0, .ro (a0.map cI_i64)), (1, .ro (a1.map cI_i64)), (12, .i (a0.length : Int)), (13, .i (addI .i64 s2 1))]⟩, []⟩ ?_
          refine Gh_e ⟨⟨26, [(0, .ro (a0.map cI_i64)), (1, .ro (a1.map cI_i64)), (12, .i (a0.length : Int)), (13, .i (addI .i64 s2 1))]⟩, []⟩ ?_
          replace h := Option.some.inj h; subst h
          exact ⟨_, rfl, by kernel_rfl⟩
      · replace h := fork_f c4 h
        refine W_exit ?_
        refine X_hit ?_
        refine Gh_e ⟨⟨26, []⟩, []⟩ ?_
        replace h := Option.some.inj h; subst h
        exact ⟨_, rfl, by kernel_rfl⟩
    · refine W_seq ?_
      refine W_reg ?_
      refine O_p 1 ?_
      refine O_nil ?_
      refine W_ret ?_
      replace h := Option.some.inj h; subst h
      exact Fin_free (l := [.bool true]) (by kernel_rfl) (by kernel_rfl) rfl

theorem p13 (a0 : SSequence) (a1 : (List (Int × Int))) (r : (Int × Int)) (h : m13 a0 a1 = some r) : Pt E0 hp 13 [.agg (cSSequence a0), .ro (a1.map (cP2 cI_i64))] (.tup [.i r.1, .i r.2]) := by
  unfold m13 at h
  refine Pt_W (fn13) rfl (by decide) ?_
  refine W_seq ?_
  refine W_gh ?_
  refine W_reg ?_
  refine O_p 3 ?_
  refine O_nil ?_
  refine Gh_e ⟨⟨85, [(1, .ro (a1.map (cP2 cI_i64))), (2, .po 0 0)]⟩, [.lv 2 [.i a0.Actuators, .ro (a0.Steps.map cSStep)]]⟩ ?_
  refine W_seq ?_
  refine W_seq ?_
  refine W_gh ?_
  refine W_reg ?_
  refine O_p 1 ?_
  refine O_call (fun v => .i v) h (.inr rfl) (ys := [.agg (cSSequence a0)]) (fun _ e => p35 _ _ e) (by kernel_rfl) (by kernel_rfl) (bels_cons (okSSequence.bel _) rfl) (fun v1 e_v1 h => ?_)
  refine O_p 1 ?_
  refine O_nil ?_
  refine Gh_e ⟨⟨85, [(1, .ro (a1.map (cP2 cI_i64))), (2, .po 0 0), (6, .i v1)]⟩, [.lv 2 [.i a0.Actuators, .ro (a0.Steps.map cSStep)]]⟩ ?_
  refine W_seq ?_
  refine W_gh ?_
  refine W_reg ?_
  refine O_p 2 ?_
  refine O_nil ?_
  refine Gh_e ⟨⟨85, [(1, .ro (a1.map (cP2 cI_i64))), (2, .po 0 0), (6, .i v1), (13, .bool (v1 != 0))]⟩, [.lv 2 [.i a0.Actuators, .ro (a0.Steps.map cSStep)]]⟩ ?_
  refine W_gh ?_
  refine W_cond (c := (v1 != 0)) (by kernel_rfl) (fun c2 => ?_) (fun c2 => ?_)
  · replace h := fork_t c2 h
    refine W_seq ?_
    refine W_gh ?_
    refine W_reg ?_
    refine O_p 3 ?_
    refine O_nil ?_
    refine Gh_e ⟨⟨85, [(1, .ro (a1.map (cP2 cI_i64))), (2, .po 0 0), (4, .i 0), (5, .i v1), (13, .bool (v1 != 0))]⟩, [.lv 2 [.i a0.Actuators, .ro (a0.Steps.map cSStep)]]⟩ ?_
    refine W_ret ?_
    replace h := Option.some.inj h; subst h
    exact Fin_free (l := [.i 0, .i v1]) (by kernel_rfl) (by kernel_rfl) rfl
  · replace h := fork_f c2 h
    refine W_skip ?_
    refine Gh_e ⟨⟨85, [(1, .ro (a1.map (cP2 cI_i64))), (2, .po 0 0)]⟩, [.lv 2 [.i a0.Actuators, .ro (a0.Steps.map cSStep)]]⟩ ?_
    refine W_seq ?_
    refine W_seq ?_
    refine W_gh ?_
    refine W_reg ?_
    refine O_p 1 ?_
    refine O_len (l := a1) (cP2 cI_i64) (by kernel_rfl) (by kernel_rfl) ?_
    refine O_p 2 ?_
    refine O_len (l := a0.Steps) cSStep (by kernel_rfl) (by kernel_rfl) ?_
    refine O_p 1 ?_
    refine O_nil ?_
    refine Gh_e ⟨⟨85, [(1, .ro (a1.map (cP2 cI_i64))), (2, .po 0 0), (20, .bool (decide ((a1.length : Int) > (a0.Steps.length : Int))))]⟩, [.lv 2 [.i a0.Actuators, .ro (a0.Steps.map cSStep)]]⟩ ?_
    refine W_gh ?_
    refine W_cond (c := (decide ((a1.length : Int) > (a0.Steps.length : Int)))) (by kernel_rfl) (fun c3 => ?_) (fun c3 => ?_)
    · replace h := fork_t c3 h
      refine W_seq ?_
      refine W_reg ?_
      refine O_p 2 ?_
      refine O_nil ?_
      refine W_ret ?_
      replace h := Option.some.inj h; subst h
      exact Fin_free (l := [.i 0, .i 5]) (by kernel_rfl) (by kernel_rfl) rfl
    · replace h := fork_f c3 h
      refine W_skip ?_
      refine Gh_e ⟨⟨85, [(1, .ro (a1.map (cP2 cI_i64))), (2, .po 0 0)]⟩, [.lv 2 [.i a0.Actuators, .ro (a0.Steps.map cSStep)]]⟩ ?_
      refine W_seq ?_
      refine W_reg ?_
      refine O_p 1 ?_
      refine O_nil ?_
      refine W_seq ?_
      refine W_seq ?_
      refine W_reg ?_
      refine O_p 1 ?_
      refine O_len (l := a1) (cP2 cI_i64) (by kernel_rfl) (by kernel_rfl) ?_
      refine O_p 1 ?_
      refine O_nil ?_
      refine W_loop (fun s4 : Int × Int => ⟨⟨85, [(1, .ro (a1.map (cP2 cI_i64))), (2, .po 0 0), (7, .i s4.2), (21, .ro (a1.map (cP2 cI_i64))), (22, .i (a1.length : Int)), (23, .i s4.1)]⟩, [.lv 2 [.i a0.Actuators, .ro (a0.Steps.map cSStep)]]⟩) (fun w5 : Unit => ⟨⟨85, [(1, .ro (a1.map (cP2 cI_i64)))]⟩, [.lv 2 [.i a0.Actuators, .ro (a0.Steps.map cSStep)]]⟩) h (by kernel_rfl) (fun s4 c h => ?_) (fun w5 h => ?_)
      · refine W_gh ?_
        refine W_seq ?_
        refine W_reg ?_
        refine O_p 1 ?_
        refine O_nil ?_
        refine W_seq ?_
        refine W_gh ?_
        refine W_cond (c := (decide (s4.1 < (a1.length : Int)))) (by kernel_rfl) (fun c6 => ?_) (fun c6 => ?_)
        · replace h := fork_t c6 h
          refine W_skip ?_
          refine Gh_e ⟨⟨85, [(1, .ro (a1.map (cP2 cI_i64))), (2, .po 0 0), (7, .i s4.2), (21, .ro (a1.map (cP2 cI_i64))), (22, .i (a1.length : Int)), (23, .i s4.1)]⟩, [.lv 2 [.i a0.Actuators, .ro (a0.Steps.map cSStep)]]⟩ ?_
          refine W_seq ?_
          refine W_gh ?_
          refine W_block ?_
          refine W_seq ?_
          refine W_gh ?_
          refine W_reg ?_
          refine O_p 1 ?_
          refine O_idx (kd := .i64) (cP2 cI_i64) h (fun _ => rfl) (by kernel_rfl) (by kernel_rfl) (by kernel_rfl) (fun v7 e_v7 h => ?_)
          refine O_p 4 ?_
          refine O_nil ?_
          refine Gh_e ⟨⟨85, [(1, .ro (a1.map (cP2 cI_i64))), (2, .po 0 0), (7, .i s4.2), (8, .i s4.1), (9, .po 1 0), (21, .ro (a1.map (cP2 cI_i64))), (22, .i (a1.length : Int)), (23, .i s4.1)]⟩, [.lv 2 [.i a0.Actuators, .ro (a0.Steps.map cSStep)], .lv 2 [.i v7.1, .i v7.2]]⟩ ?_
          refine W_seq ?_
          refine W_gh ?_
          refine W_block ?_
          refine W_seq ?_
          refine W_cut ⟨⟨85, [(1, .ro (a1.map (cP2 cI_i64))), (2, .po 0 0), (7, .i s4.2), (8, .i s4.1), (9, .po 1 0), (21, .ro (a1.map (cP2 cI_i64))), (22, .i (a1.length : Int)), (23, .i s4.1), (28, .bool ((decide ((minI v7.1 v7.2) < 0)) || (decide ((maxI v7.1 v7.2) ≥ (a0.Steps.length : Int)))))]⟩, [.lv 2 [.i a0.Actuators, .ro (a0.Steps.map cSStep)], .lv 2 [.i v7.1, .i v7.2]]⟩ ?_ ?_
          · generalize e_g8 : ((decide ((minI v7.1 v7.2) < 0)) || (decide ((maxI v7.1 v7.2) ≥ (a0.Steps.length : Int)))) = g8
            refine W_gh ?_
            refine W_reg ?_
            refine O_p 7 ?_
            refine O_fork (n := 35) (decide ((minI v7.1 v7.2) < 0)) (by kernel_rfl) (fun c9 => ?_) (fun c9 => ?_)
            · skip
              refine O_p 11 ?_
              refine O_nil ?_
              refine Gh_e ⟨⟨85, [(1, .ro (a1.map (cP2 cI_i64))), (2, .po 0 0), (7, .i s4.2), (8, .i s4.1), (9, .po 1 0), (21, .ro (a1.map (cP2 cI_i64))), (22, .i (a1.length : Int)), (23, .i s4.1), (28, .bool true)]⟩, [.lv 2 [.i a0.Actuators, .ro (a0.Steps.map cSStep)], .lv 2 [.i v7.1, .i v7.2]]⟩ ?_
              have q := e_g8; simp only [c2, c3, c6, c9, cond_true, cond_false, Bool.true_and, Bool.false_and, Bool.true_or, Bool.false_or] at q; subst q
              show _ = _
              kernel_rfl
            · skip
              refine O_p 7 ?_
              refine O_len (l := a0.Steps) cSStep (by kernel_rfl) (by kernel_rfl) ?_
              refine O_p 3 ?_
              refine O_nil ?_
              refine Gh_e ⟨⟨85, [(1, .ro (a1.map (cP2 cI_i64))), (2, .po 0 0), (7, .i s4.2), (8, .i s4.1), (9, .po 1 0), (21, .ro (a1.map (cP2 cI_i64))), (22, .i (a1.length : Int)), (23, .i s4.1), (28, .bool (decide ((maxI v7.1 v7.2) ≥ (a0.Steps.length : Int))))]⟩, [.lv 2 [.i a0.Actuators, .ro (a0.Steps.map cSStep)], .lv 2 [.i v7.1, .i v7.2]]⟩ ?_
              have q := e_g8; simp only [c2, c3, c6, c9, cond_true, cond_false, Bool.true_and, Bool.false_and, Bool.true_or, Bool.false_or] at q; subst q
              show _ = _
              kernel_rfl
          · refine W_gh ?_
            refine W_cond (c := ((decide ((minI v7.1 v7.2) < 0)) || (decide ((maxI v7.1 v7.2) ≥ (a0.Steps.length : Int))))) (by kernel_rfl) (fun c10 => ?_) (fun c10 => ?_)
            · replace h := fork_t c10 h
              refine W_seq ?_
              refine W_reg ?_
              refine O_p 2 ?_
              refine O_nil ?_
              refine W_ret ?_
              replace h := Option.some.inj h; subst h
              refine ⟨_, rfl, fun h => ?_⟩
              replace h := Option.some.inj h; subst h
              exact Fin_free (l := [.i 0, .i 2]) (by kernel_rfl) (by kernel_rfl) rfl
            · replace h := fork_f c10 h
              refine W_seq ?_
              refine W_cut ⟨⟨85, [(1, .ro (a1.map (cP2 cI_i64))), (2, .po 0 0), (9, .po 1 0), (21, .ro (a1.map (cP2 cI_i64))), (22, .i (a1.length : Int)), (23, .i s4.1), (28, .bool ((decide ((minI v7.1 v7.2) < 0)) || (decide ((maxI v7.1 v7.2) ≥ (a0.Steps.length : Int))))), (46, .bool ((decide (v7.1 ≥ v7.2)) || ((decide (s4.1 > 0)) && (decide (v7.1 < s4.2)))))]⟩, [.lv 2 [.i a0.Actuators, .ro (a0.Steps.map cSStep)], .lv 2 [.i v7.1, .i v7.2]]⟩ ?_ ?_
              · generalize e_g11 : ((decide (v7.1 ≥ v7.2)) || ((decide (s4.1 > 0)) && (decide (v7.1 < s4.2)))) = g11
                refine W_gh ?_
                refine W_reg ?_
                refine O_p 6 ?_
                refine O_fork (n := 52) (decide (v7.1 ≥ v7.2)) (by kernel_rfl) (fun c12 => ?_) (fun c12 => ?_)
                · skip
                  refine O_p 10 ?_
                  refine O_nil ?_
                  refine Gh_e ⟨⟨85, [(1, .ro (a1.map (cP2 cI_i64))), (2, .po 0 0), (9, .po 1 0), (21, .ro (a1.map (cP2 cI_i64))), (22, .i (a1.length : Int)), (23, .i s4.1), (28, .bool ((decide ((minI v7.1 v7.2) < 0)) || (decide ((maxI v7.1 v7.2) ≥ (a0.Steps.length : Int))))), (46, .bool true)]⟩, [.lv 2 [.i a0.Actuators, .ro (a0.Steps.map cSStep)], .lv 2 [.i v7.1, .i v7.2]]⟩ ?_
                  have q := e_g11; simp only [c2, c3, c6, c10, c12, cond_true, cond_false, Bool.true_and, Bool.false_and, Bool.true_or, Bool.false_or] at q; subst q
                  show _ = _
                  kernel_rfl
                · skip
                  refine O_p 3 ?_
                  refine O_fork (n := 55) (decide (s4.1 > 0)) (by kernel_rfl) (fun c13 => ?_) (fun c13 => ?_)
                  · skip
                    refine O_p 7 ?_
                    refine O_nil ?_
                    refine Gh_e ⟨⟨85, [(1, .ro (a1.map (cP2 cI_i64))), (2, .po 0 0), (9, .po 1 0), (21, .ro (a1.map (cP2 cI_i64))), (22, .i (a1.length : Int)), (23, .i s4.1), (28, .bool ((decide ((minI v7.1 v7.2) < 0)) || (decide ((maxI v7.1 v7.2) ≥ (a0.Steps.length : Int))))), (46, .bool (decide (v7.1 < s4.2)))]⟩, [.lv 2 [.i a0.Actuators, .ro (a0.Steps.map cSStep)], .lv 2 [.i v7.1, .i v7.2]]⟩ ?_
                    have q := e_g11; simp only [c2, c3, c6, c10, c12, c13, cond_true, cond_false, Bool.true_and, Bool.false_and, Bool.true_or, Bool.false_or] at q; subst q
                    show _ = _
                    kernel_rfl
                  · skip
                    refine O_p 7 ?_
                    refine O_nil ?_
                    refine Gh_e ⟨⟨85, [(1, .ro (a1.map (cP2 cI_i64))), (2, .po 0 0), (9, .po 1 0), (21, .ro (a1.map (cP2 cI_i64))), (22, .i (a1.length : Int)), (23, .i s4.1), (28, .bool ((decide ((minI v7.1 v7.2) < 0)) || (decide ((maxI v7.1 v7.2) ≥ (a0.Steps.length : Int))))), (46, .bool false)]⟩, [.lv 2 [.i a0.Actuators, .ro (a0.Steps.map cSStep)], .lv 2 [.i v7.1, .i v7.2]]⟩ ?_
                    have q := e_g11; simp only [c2, c3, c6, c10, c12, c13, cond_true, cond_false, Bool.true_and, Bool.false_and, Bool.true_or, Bool.false_or] at q; subst q
                    show _ = _
                    kernel_rfl
              · refine W_gh ?_
                refine W_cond (c := ((decide (v7.1 ≥ v7.2)) || ((decide (s4.1 > 0)) && (decide (v7.1 < s4.2))))) (by kernel_rfl) (fun c14 => ?_) (fun c14 => ?_)
                · replace h := fork_t c14 h
                  refine W_seq ?_
                  refine W_reg ?_
                  refine O_p 2 ?_
                  refine O_nil ?_
                  refine W_ret ?_
                  replace h := Option.some.inj h; subst h
                  refine ⟨_, rfl, fun h => ?_⟩
                  replace h := Option.some.inj h; subst h
                  exact Fin_free (l := [.i 0, .i 9]) (by kernel_rfl) (by kernel_rfl) rfl
                · replace h := fork_f c14 h
                  refine W_seq ?_
                  refine W_gh ?_
                  refine W_draw ?_
                  refine O_p 4 ?_
                  refine O_idx (kd := .i64) cSStep h (fun _ => rfl) (by kernel_rfl) (by kernel_rfl) (by kernel_rfl) (fun v15 e_v15 h => ?_)
                  refine O_p 1 ?_
                  refine O_call (fun v => .int .u64 v) h (.inr rfl) (ys := [.agg (cSStep v15)]) (fun _ e => p36 _ _ e) (by kernel_rfl) (by kernel_rfl) (bels_cons (okSStep.bel _) rfl) (fun v16 e_v16 h => ?_)
                  refine O_p 4 ?_
                  refine O_idx (kd := .i64) cSStep h (fun _ => rfl) (by kernel_rfl) (by kernel_rfl) (by kernel_rfl) (fun v17 e_v17 h => ?_)
                  refine O_p 1 ?_
                  refine O_call (fun v => .int .u64 v) h (.inr rfl) (ys := [.agg (cSStep v17)]) (fun _ e => p36 _ _ e) (by kernel_rfl) (by kernel_rfl) (bels_cons (okSStep.bel _) rfl) (fun v18 e_v18 h => ?_)
                  refine O_p 3 ?_
                  refine O_nil ?_
                  refine Gh_e ⟨⟨85, [(1, .ro (a1.map (cP2 cI_i64))), (2, .po 0 0), (9, .po 1 0), (21, .ro (a1.map (cP2 cI_i64))), (22, .i (a1.length : Int)), (23, .i s4.1), (28, .bool ((decide ((minI v7.1 v7.2) < 0)) || (decide ((maxI v7.1 v7.2) ≥ (a0.Steps.length : Int))))), (46, .bool ((decide (v7.1 ≥ v7.2)) || ((decide (s4.1 > 0)) && (decide (v7.1 < s4.2))))), (62, .bool ((andI .u64 v16 v18) == 0))]⟩, [.lv 2 [.i a0.Actuators, .ro (a0.Steps.map cSStep)], .lv 2 [.i v7.1, .i v7.2]]⟩ ?_
                  refine W_gh ?_
                  refine W_cond (c := ((andI .u64 v16 v18) == 0)) (by kernel_rfl) (fun c19 => ?_) (fun c19 => ?_)
                  · replace h := fork_t c19 h
                    refine W_seq ?_
                    refine W_reg ?_
                    refine O_p 2 ?_
                    refine O_nil ?_
                    refine W_ret ?_
                    replace h := Option.some.inj h; subst h
                    refine ⟨_, rfl, fun h => ?_⟩
                    replace h := Option.some.inj h; subst h
                    exact Fin_free (l := [.i 0, .i 15]) (by kernel_rfl) (by kernel_rfl) rfl
                  · replace h := fork_f c19 h
                    refine W_skip ?_
                    refine Gh_e ⟨⟨85, [(1, .ro (a1.map (cP2 cI_i64))), (2, .po 0 0), (9, .po 1 0), (21, .ro (a1.map (cP2 cI_i64))), (22, .i (a1.length : Int)), (23, .i s4.1), (28, .bool ((decide ((minI v7.1 v7.2) < 0)) || (decide ((maxI v7.1 v7.2) ≥ (a0.Steps.length : Int))))), (46, .bool ((decide (v7.1 ≥ v7.2)) || ((decide (s4.1 > 0)) && (decide (v7.1 < s4.2)))))]⟩, [.lv 2 [.i a0.Actuators, .ro (a0.Steps.map cSStep)], .lv 2 [.i v7.1, .i v7.2]]⟩ ?_
                    refine Gh_e ⟨⟨85, [(1, .ro (a1.map (cP2 cI_i64))), (2, .po 0 0), (9, .po 1 0), (21, .ro (a1.map (cP2 cI_i64))), (22, .i (a1.length : Int)), (23, .i s4.1), (28, .bool ((decide ((minI v7.1 v7.2) < 0)) || (decide ((maxI v7.1 v7.2) ≥ (a0.Steps.length : Int)))))]⟩, [.lv 2 [.i a0.Actuators, .ro (a0.Steps.map cSStep)], .lv 2 [.i v7.1, .i v7.2]]⟩ ?_
                    refine Gh_e ⟨⟨85, [(1, .ro (a1.map (cP2 cI_i64))), (2, .po 0 0), (9, .po 1 0), (21, .ro (a1.map (cP2 cI_i64))), (22, .i (a1.length : Int)), (23, .i s4.1)]⟩, [.lv 2 [.i a0.Actuators, .ro (a0.Steps.map cSStep)], .lv 2 [.i v7.1, .i v7.2]]⟩ ?_
                    refine Gh_e ⟨⟨85, [(1, .ro (a1.map (cP2 cI_i64))), (2, .po 0 0), (9, .po 1 0), (21, .ro (a1.map (cP2 cI_i64))), (22, .i (a1.length : Int)), (23, .i s4.1)]⟩, [.lv 2 [.i a0.Actuators, .ro (a0.Steps.map cSStep)], .lv 2 [.i v7.1, .i v7.2]]⟩ ?_
                    refine W_gh ?_
                    refine W_reg ?_
                    refine O_p 3 ?_
                    refine O_nil ?_
                    refine Gh_e ⟨⟨85, [(1, .ro (a1.map (cP2 cI_i64))), (2, .po 0 0), (7, .i v7.2), (21, .ro (a1.map (cP2 cI_i64))), (22, .i (a1.length : Int)), (23, .i s4.1)]⟩, [.lv 2 [.i a0.Actuators, .ro (a0.Steps.map cSStep)], .lv 2 [.i v7.1, .i v7.2]]⟩ ?_
                    refine Gh_one (s1 := ⟨⟨85, [(1, .ro (a1.map (cP2 cI_i64))), (2, .po 0 0), (7, .i v7.2), (21, .ro (a1.map (cP2 cI_i64))), (22, .i (a1.length : Int)), (23, .i s4.1)]⟩, [.lv 2 [.i a0.Actuators, .ro (a0.Steps.map cSStep)], .lv 2 [.i v7.1, .i v7.2]]⟩) (by kernel_rfl) ?_
                    refine Gh_at (s1 := ⟨⟨85, [(1, .ro (a1.map (cP2 cI_i64))), (2, .po 0 0), (7, .i v7.2), (21, .ro (a1.map (cP2 cI_i64))), (22, .i (a1.length : Int)), (23, .i s4.1)]⟩, [.lv 2 [.i a0.Actuators, .ro (a0.Steps.map cSStep)], .lv 2 [.i v7.1, .i v7.2]]⟩) (by kernel_rfl) ?_
                    refine Gh_trunc (s1 := ⟨⟨85, [(1, .ro (a1.map (cP2 cI_i64))), (2, .po 0 0), (7, .i v7.2), (21, .ro (a1.map (cP2 cI_i64))), (22, .i (a1.length : Int)), (23, .i s4.1)]⟩, [.lv 2 [.i a0.Actuators, .ro (a0.Steps.map cSStep)]]⟩) (by kernel_rfl) (tb_free (ro_bel (okP2 okI_i64).bel _) (tb_ref rfl (tb_free rfl (tb_free (ro_bel (okP2 okI_i64).bel _) (tb_free rfl (tb_free rfl rfl)))))) (H1 := [.lv 2 [.i a0.Actuators, .ro (a0.Steps.map cSStep)]]) (by kernel_rfl) (ob_boxn (bn_free rfl (bn_free (ro_bel okSStep.bel _) rfl)) rfl) (by kernel_rfl) ?_
                    refine Gh_nil ?_
                    refine W_gh ?_
                    refine W_reg ?_
                    refine O_p 2 ?_
                    refine O_nil ?_
                    refine Gh_e ⟨⟨85, [(1, .ro (a1.map (cP2 cI_i64))), (2, .po 0 0), (7, .i v7.2), (21, .ro (a1.map (cP2 cI_i64))), (22, .i (a1.length : Int)), (23, .i (addI .i64 s4.1 1))]⟩, [.lv 2 [.i a0.Actuators, .ro (a0.Steps.map cSStep)]]⟩ ?_
                    refine Gh_one (s1 := ⟨⟨85, [(1, .ro (a1.map (cP2 cI_i64))), (2, .po 0 0), (7, .i v7.2), (21, .ro (a1.map (cP2 cI_i64))), (22, .i (a1.length : Int)), (23, .i (addI .i64 s4.1 1))]⟩, [.lv 2 [.i a0.Actuators, .ro (a0.Steps.map cSStep)]]⟩) (by kernel_rfl) ?_
                    refine Gh_trunc0 (by kernel_rfl) ?_
                    refine Gh_nil ?_
                    replace h := Option.some.inj h; subst h
                    exact ⟨_, rfl, by kernel_rfl⟩
        · replace h := fork_f c6 h
          refine W_exit ?_
          refine X_hit ?_
          refine Gh_one (s1 := ⟨⟨85, [(1, .ro (a1.map (cP2 cI_i64)))]⟩, [.lv 2 [.i a0.Actuators, .ro (a0.Steps.map cSStep)]]⟩) (by kernel_rfl) ?_
          refine Gh_trunc0 (by kernel_rfl) ?_
          refine Gh_nil ?_
          replace h := Option.some.inj h; subst h
          exact ⟨_, rfl, by kernel_rfl⟩
      · refine W_seq ?_
        refine W_gh ?_
        refine W_reg ?_
        refine O_p 1 ?_
        refine O_len (l := a1) (cP2 cI_i64) (by kernel_rfl) (by kernel_rfl) ?_
        refine O_p 3 ?_
        refine O_nil ?_
        refine Gh_e ⟨⟨85, [(4, .i (addI .i64 (a1.length : Int) 1)), (5, .i 0)]⟩, [.lv 2 [.i a0.Actuators, .ro (a0.Steps.map cSStep)]]⟩ ?_
        refine W_ret ?_
        replace h := Option.some.inj h; subst h
        exact Fin_free (l := [.i (addI .i64 (a1.length : Int) 1), .i 0]) (by kernel_rfl) (by kernel_rfl) rfl
end G18
