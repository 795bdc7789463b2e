/- The code computes the models, printed by a program of mine (dec.py). No condition. -/
import Derived.Test.YtiicggigpcfefaaG17E
import Derived.Test.YtiicggigpcfefaaG17r
namespace G17
open Go Go.Pl Go.Am Go.Am.As
set_option linter.unusedVariables false
set_option linter.unusedSimpArgs false
set_option maxHeartbeats 1000000

theorem p43 (a0 : SSequence) (r : Bool) (h : m43 a0 = some r) : Pt E0 hp 43 [.agg (cSSequence a0)] (.bool r) := by
  unfold m43 at h
  refine Pt_W (fn43) rfl (by decide) ?_
  refine W_seq ?_
  refine W_gh ?_
  refine W_reg ?_
  refine O_p 2 ?_
  refine O_nil ?_
  refine Gh_e ⟨⟨23, [(1, .po 0 0)]⟩, [.lv 2 [.i a0.Actuators, .ro (a0.Steps.map cSStep)]]⟩ ?_
  refine W_seq ?_
  refine W_seq ?_
  refine W_gh ?_
  refine W_reg ?_
  refine O_p 2 ?_
  refine O_len (l := a0.Steps) cSStep (by kernel_rfl) (by kernel_rfl) ?_
  refine O_p 1 ?_
  refine O_nil ?_
  refine Gh_e ⟨⟨23, [(1, .po 0 0), (7, .bool (decide ((a0.Steps.length : Int) > 128)))]⟩, [.lv 2 [.i a0.Actuators, .ro (a0.Steps.map cSStep)]]⟩ ?_
  refine W_gh ?_
  refine W_cond (c := (decide ((a0.Steps.length : Int) > 128))) (by kernel_rfl) (fun c1 => ?_) (fun c1 => ?_)
  · replace h := fork_t c1 h
    refine W_seq ?_
    refine W_reg ?_
    refine O_p 1 ?_
    refine O_nil ?_
    refine W_ret ?_
    replace h := Option.some.inj h; subst h
    exact Fin_free (l := [.bool false]) (by kernel_rfl) (by kernel_rfl) rfl
  · replace h := fork_f c1 h
    refine W_skip ?_
    refine Gh_e ⟨⟨23, [(1, .po 0 0)]⟩, [.lv 2 [.i a0.Actuators, .ro (a0.Steps.map cSStep)]]⟩ ?_
    refine W_seq ?_
    refine W_seq ?_
    refine W_reg ?_
    refine O_p 1 ?_
    refine O_nil ?_
    refine W_loop (fun s2 : Int => ⟨⟨23, [(1, .po 0 0), (3, .i s2)]⟩, [.lv 2 [.i a0.Actuators, .ro (a0.Steps.map cSStep)]]⟩) (fun w3 : Unit => ⟨⟨23, []⟩, [.lv 2 [.i a0.Actuators, .ro (a0.Steps.map cSStep)]]⟩) h (by kernel_rfl) (fun s2 c h => ?_) (fun w3 h => ?_)
    · refine W_gh ?_
      refine W_seq ?_
      refine W_seq ?_
      refine W_gh ?_
      refine W_reg ?_
      refine O_p 3 ?_
      refine O_len (l := a0.Steps) cSStep (by kernel_rfl) (by kernel_rfl) ?_
      refine O_p 1 ?_
      refine O_nil ?_
      refine Gh_e ⟨⟨23, [(1, .po 0 0), (3, .i s2), (12, .bool (decide (s2 < (a0.Steps.length : Int))))]⟩, [.lv 2 [.i a0.Actuators, .ro (a0.Steps.map cSStep)]]⟩ ?_
      refine W_gh ?_
      refine W_cond (c := (decide (s2 < (a0.Steps.length : Int)))) (by kernel_rfl) (fun c4 => ?_) (fun c4 => ?_)
      · replace h := fork_t c4 h
        refine W_skip ?_
        refine Gh_e ⟨⟨23, [(1, .po 0 0), (3, .i s2)]⟩, [.lv 2 [.i a0.Actuators, .ro (a0.Steps.map cSStep)]]⟩ ?_
        refine W_seq ?_
        refine W_gh ?_
        refine W_block ?_
        refine W_seq ?_
        refine W_gh ?_
        refine W_reg ?_
        refine O_p 3 ?_
        refine O_idx (kd := .i64) cSStep h (fun _ => rfl) (by kernel_rfl) (by kernel_rfl) (by kernel_rfl) (fun v5 e_v5 h => ?_)
        refine O_p 2 ?_
        refine O_len (l := v5.Strokes) cSStroke (by kernel_rfl) (by kernel_rfl) ?_
        refine O_p 1 ?_
        refine O_nil ?_
        refine Gh_e ⟨⟨23, [(1, .po 0 0), (3, .i s2), (22, .bool (decide ((v5.Strokes.length : Int) > 40)))]⟩, [.lv 2 [.i a0.Actuators, .ro (a0.Steps.map cSStep)]]⟩ ?_
        refine W_gh ?_
        refine W_cond (c := (decide ((v5.Strokes.length : Int) > 40))) (by kernel_rfl) (fun c6 => ?_) (fun c6 => ?_)
        · replace h := fork_t c6 h
          refine W_seq ?_
          refine W_reg ?_
          refine O_p 1 ?_
          refine O_nil ?_
          refine W_ret ?_
          replace h := Option.some.inj h; subst h
          refine ⟨_, rfl, fun h => ?_⟩
          replace h := Option.some.inj h; subst h
          exact Fin_free (l := [.bool false]) (by kernel_rfl) (by kernel_rfl) rfl
        · replace h := fork_f c6 h
          refine W_skip ?_
          refine Gh_e ⟨⟨23, [(1, .po 0 0), (3, .i s2)]⟩, [.lv 2 [.i a0.Actuators, .ro (a0.Steps.map cSStep)]]⟩ ?_
          refine Gh_e ⟨⟨23, [(1, .po 0 0), (3, .i s2)]⟩, [.lv 2 [.i a0.Actuators, .ro (a0.Steps.map cSStep)]]⟩ ?_
          refine W_gh ?_
          refine W_reg ?_
          refine O_p 3 ?_
          refine O_nil ?_
          refine Gh_e ⟨⟨23, [(1, .po 0 0), (3, .i (addI .i64 s2 1))]⟩, [.lv 2 [.i a0.Actuators, .ro (a0.Steps.map cSStep)]]⟩ ?_
          refine Gh_e ⟨⟨23, [(1, .po 0 0), (3, .i (addI .i64 s2 1))]⟩, [.lv 2 [.i a0.Actuators, .ro (a0.Steps.map cSStep)]]⟩ ?_
          replace h := Option.some.inj h; subst h
          exact ⟨_, rfl, by kernel_rfl⟩
      · replace h := fork_f c4 h
        refine W_exit ?_
        refine X_hit ?_
        refine Gh_e ⟨⟨23, []⟩, [.lv 2 [.i a0.Actuators, .ro (a0.Steps.map cSStep)]]⟩ ?_
        replace h := Option.some.inj h; subst h
        exact ⟨_, rfl, by kernel_rfl⟩
    · refine W_seq ?_
      refine W_reg ?_
      refine O_p 1 ?_
      refine O_nil ?_
      refine W_ret ?_
      replace h := Option.some.inj h; subst h
      exact Fin_free (l := [.bool true]) (by kernel_rfl) (by kernel_rfl) rfl

theorem p85 (a0 : Int) (r : Bool) (h : m85 a0 = some r) : Pt E0 hp 85 [.i a0] (.bool r) := by
  unfold m85 at h
  refine Pt_W (fn85) rfl (by decide) ?_
  refine W_seq ?_
  refine W_gh ?_
  refine W_reg ?_
  refine O_p 1 ?_
  refine O_nil ?_
  refine Gh_e ⟨⟨9, [(0, .i a0)]⟩, []⟩ ?_
  refine W_seq ?_
  refine W_cut ⟨⟨9, [(2, .bool ((decide (a0 ≥ 0)) && (decide (a0 < 6))))]⟩, []⟩ ?_ ?_
  · generalize e_g1 : ((decide (a0 ≥ 0)) && (decide (a0 < 6))) = g1
    refine W_gh ?_
    refine W_reg ?_
    refine O_p 3 ?_
    refine O_fork (n := 5) (decide (a0 ≥ 0)) (by kernel_rfl) (fun c2 => ?_) (fun c2 => ?_)
    · skip
      refine O_p 4 ?_
      refine O_nil ?_
      refine Gh_e ⟨⟨9, [(2, .bool (decide (a0 < 6)))]⟩, []⟩ ?_
      have q := e_g1; simp only [c2, cond_true, cond_false, Bool.true_and, Bool.false_and, Bool.true_or, Bool.false_or] at q; subst q
      show _ = _
      kernel_rfl
    · skip
      refine O_p 4 ?_
      refine O_nil ?_
      refine Gh_e ⟨⟨9, [(2, .bool false)]⟩, []⟩ ?_
      have q := e_g1; simp only [c2, cond_true, cond_false, Bool.true_and, Bool.false_and, Bool.true_or, Bool.false_or] at q; subst q
      show _ = _
      kernel_rfl
  · refine W_ret ?_
    replace h := Option.some.inj h; subst h
    exact Fin_free (l := [.bool ((decide (a0 ≥ 0)) && (decide (a0 < 6)))]) (by kernel_rfl) (by kernel_rfl) rfl

theorem p74 (a0 : Int) (r : Bool) (h : m74 a0 = some r) : Pt E0 hp 74 [.i a0] (.bool r) := by
  unfold m74 at h
  refine Pt_W (fn74) rfl (by decide) ?_
  refine W_seq ?_
  refine W_gh ?_
  refine W_reg ?_
  refine O_p 1 ?_
  refine O_nil ?_
  refine Gh_e ⟨⟨9, [(0, .i a0)]⟩, []⟩ ?_
  refine W_seq ?_
  refine W_cut ⟨⟨9, [(2, .bool ((decide (a0 ≥ 0)) && (decide (a0 ≤ 1000000))))]⟩, []⟩ ?_ ?_
  · generalize e_g1 : ((decide (a0 ≥ 0)) && (decide (a0 ≤ 1000000))) = g1
    refine W_gh ?_
    refine W_reg ?_
    refine O_p 3 ?_
    refine O_fork (n := 5) (decide (a0 ≥ 0)) (by kernel_rfl) (fun c2 => ?_) (fun c2 => ?_)
    · skip
      refine O_p 4 ?_
      refine O_nil ?_
      refine Gh_e ⟨⟨9, [(2, .bool (decide (a0 ≤ 1000000)))]⟩, []⟩ ?_
      have q := e_g1; simp only [c2, cond_true, cond_false, Bool.true_and, Bool.false_and, Bool.true_or, Bool.false_or] at q; subst q
      show _ = _
      kernel_rfl
    · skip
      refine O_p 4 ?_
      refine O_nil ?_
      refine Gh_e ⟨⟨9, [(2, .bool false)]⟩, []⟩ ?_
      have q := e_g1; simp only [c2, cond_true, cond_false, Bool.true_and, Bool.false_and, Bool.true_or, Bool.false_or] at q; subst q
      show _ = _
      kernel_rfl
  · refine W_ret ?_
    replace h := Option.some.inj h; subst h
    exact Fin_free (l := [.bool ((decide (a0 ≥ 0)) && (decide (a0 ≤ 1000000)))]) (by kernel_rfl) (by kernel_rfl) rfl

theorem p81 (a0 : SStep) (r : Int) (h : m81 a0 = some r) : Pt E0 hp 81 [.agg (cSStep a0)] (.i r) := by
  unfold m81 at h
  refine Pt_W (fn81) rfl (by decide) ?_
  refine W_seq ?_
  refine W_gh ?_
  refine W_reg ?_
  refine O_p 2 ?_
  refine O_nil ?_
  refine Gh_e ⟨⟨67, [(1, .po 0 0)]⟩, [.lv 2 [.ro (a0.Strokes.map cSStroke), .i a0.Wait]]⟩ ?_
  refine W_seq ?_
  refine W_seq ?_
  refine W_gh ?_
  refine W_reg ?_
  refine O_p 2 ?_
  refine O_len (l := a0.Strokes) cSStroke (by kernel_rfl) (by kernel_rfl) ?_
  refine O_p 1 ?_
  refine O_nil ?_
  refine Gh_e ⟨⟨67, [(1, .po 0 0), (7, .bool ((a0.Strokes.length : Int) == 0))]⟩, [.lv 2 [.ro (a0.Strokes.map cSStroke), .i a0.Wait]]⟩ ?_
  refine W_gh ?_
  refine W_cond (c := ((a0.Strokes.length : Int) == 0)) (by kernel_rfl) (fun c1 => ?_) (fun c1 => ?_)
  · replace h := fork_t c1 h
    refine W_seq ?_
    refine W_reg ?_
    refine O_p 1 ?_
    refine O_nil ?_
    refine W_ret ?_
    replace h := Option.some.inj h; subst h
    exact Fin_free (l := [.i 13]) (by kernel_rfl) (by kernel_rfl) rfl
  · replace h := fork_f c1 h
    refine W_skip ?_
    refine Gh_e ⟨⟨67, [(1, .po 0 0)]⟩, [.lv 2 [.ro (a0.Strokes.map cSStroke), .i a0.Wait]]⟩ ?_
    refine W_seq ?_
    refine W_seq ?_
    refine W_gh ?_
    refine W_reg ?_
    refine O_p 2 ?_
    refine O_len (l := a0.Strokes) cSStroke (by kernel_rfl) (by kernel_rfl) ?_
    refine O_p 1 ?_
    refine O_nil ?_
    refine Gh_e ⟨⟨67, [(1, .po 0 0), (11, .bool (decide ((a0.Strokes.length : Int) > 6)))]⟩, [.lv 2 [.ro (a0.Strokes.map cSStroke), .i a0.Wait]]⟩ ?_
    refine W_gh ?_
    refine W_cond (c := (decide ((a0.Strokes.length : Int) > 6))) (by kernel_rfl) (fun c2 => ?_) (fun c2 => ?_)
    · replace h := fork_t c2 h
      refine W_seq ?_
      refine W_reg ?_
      refine O_p 1 ?_
      refine O_nil ?_
      refine W_ret ?_
      replace h := Option.some.inj h; subst h
      exact Fin_free (l := [.i 5]) (by kernel_rfl) (by kernel_rfl) rfl
    · replace h := fork_f c2 h
      refine W_skip ?_
      refine Gh_e ⟨⟨67, [(1, .po 0 0)]⟩, [.lv 2 [.ro (a0.Strokes.map cSStroke), .i a0.Wait]]⟩ ?_
      refine W_seq ?_
      refine W_seq ?_
      refine W_reg ?_
      refine O_p 1 ?_
      refine O_nil ?_
      refine W_loop (fun s3 : Int => ⟨⟨67, [(1, .po 0 0), (3, .i s3)]⟩, [.lv 2 [.ro (a0.Strokes.map cSStroke), .i a0.Wait]]⟩) (fun w4 : Unit => ⟨⟨67, [(1, .po 0 0)]⟩, [.lv 2 [.ro (a0.Strokes.map cSStroke), .i a0.Wait]]⟩) h (by kernel_rfl) (fun s3 c h => ?_) (fun w4 h => ?_)
      · refine W_gh ?_
        refine W_seq ?_
        refine W_seq ?_
        refine W_gh ?_
        refine W_reg ?_
        refine O_p 3 ?_
        refine O_len (l := a0.Strokes) cSStroke (by kernel_rfl) (by kernel_rfl) ?_
        refine O_p 1 ?_
        refine O_nil ?_
        refine Gh_e ⟨⟨67, [(1, .po 0 0), (3, .i s3), (16, .bool (decide (s3 < (a0.Strokes.length : Int))))]⟩, [.lv 2 [.ro (a0.Strokes.map cSStroke), .i a0.Wait]]⟩ ?_
        refine W_gh ?_
        refine W_cond (c := (decide (s3 < (a0.Strokes.length : Int)))) (by kernel_rfl) (fun c5 => ?_) (fun c5 => ?_)
        · replace h := fork_t c5 h
          refine W_skip ?_
          refine Gh_e ⟨⟨67, [(1, .po 0 0), (3, .i s3)]⟩, [.lv 2 [.ro (a0.Strokes.map cSStroke), .i a0.Wait]]⟩ ?_
          refine W_seq ?_
          refine W_gh ?_
          refine W_block ?_
          refine W_seq ?_
          refine W_seq ?_
          refine W_gh ?_
          refine W_reg ?_
          refine O_p 3 ?_
          refine O_idx (kd := .i64) cSStroke h (fun _ => rfl) (by kernel_rfl) (by kernel_rfl) (by kernel_rfl) (fun v6 e_v6 h => ?_)
          refine O_p 2 ?_
          refine O_call (fun v => .bool v) h (.inr rfl) (ys := [.i v6.Actuator]) (fun _ e => p85 _ _ e) (by kernel_rfl) (by kernel_rfl) (bels_cons rfl rfl) (fun v7 e_v7 h => ?_)
          refine O_p 1 ?_
          refine O_nil ?_
          refine Gh_e ⟨⟨67, [(1, .po 0 0), (3, .i s3), (26, .bool (!v7))]⟩, [.lv 2 [.ro (a0.Strokes.map cSStroke), .i a0.Wait]]⟩ ?_
          refine W_gh ?_
          refine W_cond (c := (!v7)) (by kernel_rfl) (fun c8 => ?_) (fun c8 => ?_)
          · replace h := fork_t c8 h
            refine W_seq ?_
            refine W_reg ?_
            refine O_p 1 ?_
            refine O_nil ?_
            refine W_ret ?_
            replace h := Option.some.inj h; subst h
            refine ⟨_, rfl, fun h => ?_⟩
            replace h := Option.some.inj h; subst h
            exact Fin_free (l := [.i 2]) (by kernel_rfl) (by kernel_rfl) rfl
          · replace h := fork_f c8 h
            refine W_skip ?_
            refine Gh_e ⟨⟨67, [(1, .po 0 0), (3, .i s3)]⟩, [.lv 2 [.ro (a0.Strokes.map cSStroke), .i a0.Wait]]⟩ ?_
            refine W_seq ?_
            refine W_seq ?_
            refine W_joinS (fun v : Bool => ⟨⟨67, [(1, .po 0 0), (3, .i s3), (44, .bool v)]⟩, [.lv 2 [.ro (a0.Strokes.map cSStroke), .i a0.Wait]]⟩) h (fun w h => ?_) (fun w9 e_w9 h => ?_)
            · refine W_gh ?_
              refine W_draw ?_
              refine O_p 3 ?_
              refine O_fork (n := 29) (decide (s3 > 0)) (by kernel_rfl) (fun c10 => ?_) (fun c10 => ?_)
              · replace h := fork_t c10 h
                refine O_p 3 ?_
                refine O_idx (kd := .i64) cSStroke h (fun _ => rfl) (by kernel_rfl) (by kernel_rfl) (by kernel_rfl) (fun v11 e_v11 h => ?_)
                refine O_p 6 ?_
                refine O_idx (kd := .i64) cSStroke h (fun _ => rfl) (by kernel_rfl) (by kernel_rfl) (by kernel_rfl) (fun v12 e_v12 h => ?_)
                refine O_p 4 ?_
                refine O_nil ?_
                refine Gh_e ⟨⟨67, [(1, .po 0 0), (3, .i s3), (44, .bool (v11.Actuator == v12.Actuator))]⟩, [.lv 2 [.ro (a0.Strokes.map cSStroke), .i a0.Wait]]⟩ ?_
                replace h := Option.some.inj h; subst h
                show _ = _
                kernel_rfl
              · replace h := fork_f c10 h
                refine O_p 15 ?_
                refine O_nil ?_
                refine Gh_e ⟨⟨67, [(1, .po 0 0), (3, .i s3), (44, .bool false)]⟩, [.lv 2 [.ro (a0.Strokes.map cSStroke), .i a0.Wait]]⟩ ?_
                replace h := Option.some.inj h; subst h
                show _ = _
                kernel_rfl
            · refine W_gh ?_
              refine W_cond (c := w9) (by kernel_rfl) (fun c13 => ?_) (fun c13 => ?_)
              · replace h := fork_t c13 h
                refine W_seq ?_
                refine W_reg ?_
                refine O_p 1 ?_
                refine O_nil ?_
                refine W_ret ?_
                replace h := Option.some.inj h; subst h
                refine ⟨_, rfl, fun h => ?_⟩
                replace h := Option.some.inj h; subst h
                exact Fin_free (l := [.i 7]) (by kernel_rfl) (by kernel_rfl) rfl
              · replace h := fork_f c13 h
                refine W_skip ?_
                refine Gh_e ⟨⟨67, [(1, .po 0 0), (3, .i s3)]⟩, [.lv 2 [.ro (a0.Strokes.map cSStroke), .i a0.Wait]]⟩ ?_
                refine W_seq ?_
                refine W_joinS (fun v : Bool => ⟨⟨67, [(1, .po 0 0), (3, .i s3), (62, .bool v)]⟩, [.lv 2 [.ro (a0.Strokes.map cSStroke), .i a0.Wait]]⟩) h (fun w h => ?_) (fun w14 e_w14 h => ?_)
                · refine W_gh ?_
                  refine W_draw ?_
                  refine O_p 3 ?_
                  refine O_fork (n := 47) (decide (s3 > 0)) (by kernel_rfl) (fun c15 => ?_) (fun c15 => ?_)
                  · replace h := fork_t c15 h
                    refine O_p 3 ?_
                    refine O_idx (kd := .i64) cSStroke h (fun _ => rfl) (by kernel_rfl) (by kernel_rfl) (by kernel_rfl) (fun v16 e_v16 h => ?_)
                    refine O_p 6 ?_
                    refine O_idx (kd := .i64) cSStroke h (fun _ => rfl) (by kernel_rfl) (by kernel_rfl) (by kernel_rfl) (fun v17 e_v17 h => ?_)
                    refine O_p 4 ?_
                    refine O_nil ?_
                    refine Gh_e ⟨⟨67, [(1, .po 0 0), (3, .i s3), (62, .bool (decide (v16.Actuator < v17.Actuator)))]⟩, [.lv 2 [.ro (a0.Strokes.map cSStroke), .i a0.Wait]]⟩ ?_
                    replace h := Option.some.inj h; subst h
                    show _ = _
                    kernel_rfl
                  · replace h := fork_f c15 h
                    refine O_p 15 ?_
                    refine O_nil ?_
                    refine Gh_e ⟨⟨67, [(1, .po 0 0), (3, .i s3), (62, .bool false)]⟩, [.lv 2 [.ro (a0.Strokes.map cSStroke), .i a0.Wait]]⟩ ?_
                    replace h := Option.some.inj h; subst h
                    show _ = _
                    kernel_rfl
                · refine W_gh ?_
                  refine W_cond (c := w14) (by kernel_rfl) (fun c18 => ?_) (fun c18 => ?_)
                  · replace h := fork_t c18 h
                    refine W_seq ?_
                    refine W_reg ?_
                    refine O_p 1 ?_
                    refine O_nil ?_
                    refine W_ret ?_
                    replace h := Option.some.inj h; subst h
                    refine ⟨_, rfl, fun h => ?_⟩
                    replace h := Option.some.inj h; subst h
                    exact Fin_free (l := [.i 9]) (by kernel_rfl) (by kernel_rfl) rfl
                  · replace h := fork_f c18 h
                    refine W_skip ?_
                    refine Gh_e ⟨⟨67, [(1, .po 0 0), (3, .i s3)]⟩, [.lv 2 [.ro (a0.Strokes.map cSStroke), .i a0.Wait]]⟩ ?_
                    refine Gh_e ⟨⟨67, [(1, .po 0 0), (3, .i s3)]⟩, [.lv 2 [.ro (a0.Strokes.map cSStroke), .i a0.Wait]]⟩ ?_
                    refine W_gh ?_
                    refine W_reg ?_
                    refine O_p 3 ?_
                    refine O_nil ?_
                    refine Gh_e ⟨⟨67, [(1, .po 0 0), (3, .i (addI .i64 s3 1))]⟩, [.lv 2 [.ro (a0.Strokes.map cSStroke), .i a0.Wait]]⟩ ?_
                    refine Gh_e ⟨⟨67, [(1, .po 0 0), (3, .i (addI .i64 s3 1))]⟩, [.lv 2 [.ro (a0.Strokes.map cSStroke), .i a0.Wait]]⟩ ?_
                    replace h := Option.some.inj h; subst h
                    exact ⟨_, rfl, by kernel_rfl⟩
        · replace h := fork_f c5 h
          refine W_exit ?_
          refine X_hit ?_
          refine Gh_e ⟨⟨67, [(1, .po 0 0)]⟩, [.lv 2 [.ro (a0.Strokes.map cSStroke), .i a0.Wait]]⟩ ?_
          replace h := Option.some.inj h; subst h
          exact ⟨_, rfl, by kernel_rfl⟩
      · refine W_seq ?_
        refine W_seq ?_
        refine W_gh ?_
        refine W_reg ?_
        refine O_p 2 ?_
        refine O_call (fun v => .bool v) h (.inr rfl) (ys := [.i a0.Wait]) (fun _ e => p74 _ _ e) (by kernel_rfl) (by kernel_rfl) (bels_cons rfl rfl) (fun v19 e_v19 h => ?_)
        refine O_p 1 ?_
        refine O_nil ?_
        refine Gh_e ⟨⟨67, [(66, .bool (!v19))]⟩, [.lv 2 [.ro (a0.Strokes.map cSStroke), .i a0.Wait]]⟩ ?_
        refine W_gh ?_
        refine W_cond (c := (!v19)) (by kernel_rfl) (fun c20 => ?_) (fun c20 => ?_)
        · replace h := fork_t c20 h
          refine W_seq ?_
          refine W_reg ?_
          refine O_p 1 ?_
          refine O_nil ?_
          refine W_ret ?_
          replace h := Option.some.inj h; subst h
          exact Fin_free (l := [.i 2]) (by kernel_rfl) (by kernel_rfl) rfl
        · replace h := fork_f c20 h
          refine W_skip ?_
          refine Gh_e ⟨⟨67, []⟩, [.lv 2 [.ro (a0.Strokes.map cSStroke), .i a0.Wait]]⟩ ?_
          refine W_seq ?_
          refine W_reg ?_
          refine O_p 1 ?_
          refine O_nil ?_
          refine W_ret ?_
          replace h := Option.some.inj h; subst h
          exact Fin_free (l := [.i 0]) (by kernel_rfl) (by kernel_rfl) rfl

theorem p82 (a0 : SStep) (a1 : (List Bool)) (r : Bool) (h : m82 a0 a1 = some r) : Pt E0 hp 82 [.agg (cSStep a0), .ro (a1.map cB)] (.bool r) := by
  unfold m82 at h
  refine Pt_W (fn82) rfl (by decide) ?_
  refine W_seq ?_
  refine W_gh ?_
  refine W_reg ?_
  refine O_p 2 ?_
  refine O_nil ?_
  refine Gh_e ⟨⟨34, [(1, .ro (a1.map cB)), (2, .po 0 0)]⟩, [.lv 2 [.ro (a0.Strokes.map cSStroke), .i a0.Wait]]⟩ ?_
  refine W_seq ?_
  refine W_seq ?_
  refine W_reg ?_
  refine O_p 1 ?_
  refine O_nil ?_
  refine W_loop (fun s1 : Int => ⟨⟨34, [(1, .ro (a1.map cB)), (2, .po 0 0), (5, .i s1)]⟩, [.lv 2 [.ro (a0.Strokes.map cSStroke), .i a0.Wait]]⟩) (fun w2 : Unit => ⟨⟨34, []⟩, [.lv 2 [.ro (a0.Strokes.map cSStroke), .i a0.Wait]]⟩) h (by kernel_rfl) (fun s1 c h => ?_) (fun w2 h => ?_)
  · refine W_gh ?_
    refine W_seq ?_
    refine W_seq ?_
    refine W_gh ?_
    refine W_reg ?_
    refine O_p 3 ?_
    refine O_len (l := a0.Strokes) cSStroke (by kernel_rfl) (by kernel_rfl) ?_
    refine O_p 1 ?_
    refine O_nil ?_
    refine Gh_e ⟨⟨34, [(1, .ro (a1.map cB)), (2, .po 0 0), (5, .i s1), (11, .bool (decide (s1 < (a0.Strokes.length : Int))))]⟩, [.lv 2 [.ro (a0.Strokes.map cSStroke), .i a0.Wait]]⟩ ?_
    refine W_gh ?_
    refine W_cond (c := (decide (s1 < (a0.Strokes.length : Int)))) (by kernel_rfl) (fun c3 => ?_) (fun c3 => ?_)
    · replace h := fork_t c3 h
      refine W_skip ?_
      refine Gh_e ⟨⟨34, [(1, .ro (a1.map cB)), (2, .po 0 0), (5, .i s1)]⟩, [.lv 2 [.ro (a0.Strokes.map cSStroke), .i a0.Wait]]⟩ ?_
      refine W_seq ?_
      refine W_gh ?_
      refine W_block ?_
      refine W_seq ?_
      refine W_gh ?_
      refine W_reg ?_
      refine O_p 3 ?_
      refine O_idx (kd := .i64) cSStroke h (fun _ => rfl) (by kernel_rfl) (by kernel_rfl) (by kernel_rfl) (fun v4 e_v4 h => ?_)
      refine O_p 3 ?_
      refine O_nil ?_
      refine Gh_e ⟨⟨34, [(1, .ro (a1.map cB)), (2, .po 0 0), (5, .i s1), (6, .po 1 0)]⟩, [.lv 2 [.ro (a0.Strokes.map cSStroke), .i a0.Wait], .lv 2 [.i v4.Actuator, .bool v4.Out]]⟩ ?_
      refine W_seq ?_
      refine W_joinS (fun v : Bool => ⟨⟨34, [(1, .ro (a1.map cB)), (2, .po 0 0), (5, .i s1), (33, .bool v)]⟩, [.lv 2 [.ro (a0.Strokes.map cSStroke), .i a0.Wait], .lv 2 [.i v4.Actuator, .bool v4.Out]]⟩) h (fun w h => ?_) (fun w5 e_w5 h => ?_)
      · refine W_gh ?_
        refine W_draw ?_
        refine O_p 3 ?_
        refine O_len (l := a1) cB (by kernel_rfl) (by kernel_rfl) ?_
        refine O_p 2 ?_
        refine O_fork (n := 24) (decide (v4.Actuator ≥ (a1.length : Int))) (by kernel_rfl) (fun c6 => ?_) (fun c6 => ?_)
        · replace h := fork_t c6 h
          refine O_p 9 ?_
          refine O_nil ?_
          refine Gh_e ⟨⟨34, [(1, .ro (a1.map cB)), (2, .po 0 0), (5, .i s1), (33, .bool true)]⟩, [.lv 2 [.ro (a0.Strokes.map cSStroke), .i a0.Wait], .lv 2 [.i v4.Actuator, .bool v4.Out]]⟩ ?_
          replace h := Option.some.inj h; subst h
          show _ = _
          kernel_rfl
        · replace h := fork_f c6 h
          refine O_p 3 ?_
          refine O_idx (kd := .i64) cB h (fun _ => rfl) (by kernel_rfl) (by kernel_rfl) (by kernel_rfl) (fun v7 e_v7 h => ?_)
          refine O_p 5 ?_
          refine O_nil ?_
          refine Gh_e ⟨⟨34, [(1, .ro (a1.map cB)), (2, .po 0 0), (5, .i s1), (33, .bool ((v7 == v4.Out) != false))]⟩, [.lv 2 [.ro (a0.Strokes.map cSStroke), .i a0.Wait], .lv 2 [.i v4.Actuator, .bool v4.Out]]⟩ ?_
          replace h := Option.some.inj h; subst h
          show _ = _
          kernel_rfl
      · refine W_gh ?_
        refine W_cond (c := w5) (by kernel_rfl) (fun c8 => ?_) (fun c8 => ?_)
        · replace h := fork_t c8 h
          refine W_seq ?_
          refine W_reg ?_
          refine O_p 1 ?_
          refine O_nil ?_
          refine W_ret ?_
          replace h := Option.some.inj h; subst h
          refine ⟨_, rfl, fun h => ?_⟩
          replace h := Option.some.inj h; subst h
          exact Fin_free (l := [.bool false]) (by kernel_rfl) (by kernel_rfl) rfl
        · replace h := fork_f c8 h
          refine W_skip ?_
          refine Gh_e ⟨⟨34, [(1, .ro (a1.map cB)), (2, .po 0 0), (5, .i s1)]⟩, [.lv 2 [.ro (a0.Strokes.map cSStroke), .i a0.Wait], .lv 2 [.i v4.Actuator, .bool v4.Out]]⟩ ?_
          refine Gh_one (s1 := ⟨⟨34, [(1, .ro (a1.map cB)), (2, .po 0 0), (5, .i s1)]⟩, [.lv 2 [.ro (a0.Strokes.map cSStroke), .i a0.Wait], .lv 2 [.i v4.Actuator, .bool v4.Out]]⟩) (by kernel_rfl) ?_
          refine Gh_at (s1 := ⟨⟨34, [(1, .ro (a1.map cB)), (2, .po 0 0), (5, .i s1)]⟩, [.lv 2 [.ro (a0.Strokes.map cSStroke), .i a0.Wait], .lv 2 [.i v4.Actuator, .bool v4.Out]]⟩) (by kernel_rfl) ?_
          refine Gh_trunc (s1 := ⟨⟨34, [(1, .ro (a1.map cB)), (2, .po 0 0), (5, .i s1)]⟩, [.lv 2 [.ro (a0.Strokes.map cSStroke), .i a0.Wait]]⟩) (by kernel_rfl) (tb_free (ro_bel okB.bel _) (tb_ref rfl (tb_free rfl rfl))) (H1 := [.lv 2 [.ro (a0.Strokes.map cSStroke), .i a0.Wait]]) (by kernel_rfl) (ob_boxn (bn_free (ro_bel okSStroke.bel _) (bn_free rfl rfl)) rfl) (by kernel_rfl) ?_
          refine Gh_nil ?_
          refine W_gh ?_
          refine W_reg ?_
          refine O_p 3 ?_
          refine O_nil ?_
          refine Gh_e ⟨⟨34, [(1, .ro (a1.map cB)), (2, .po 0 0), (5, .i (addI .i64 s1 1))]⟩, [.lv 2 [.ro (a0.Strokes.map cSStroke), .i a0.Wait]]⟩ ?_
          refine Gh_one (s1 := ⟨⟨34, [(1, .ro (a1.map cB)), (2, .po 0 0), (5, .i (addI .i64 s1 1))]⟩, [.lv 2 [.ro (a0.Strokes.map cSStroke), .i a0.Wait]]⟩) (by kernel_rfl) ?_
          refine Gh_trunc0 (by kernel_rfl) ?_
          refine Gh_nil ?_
          replace h := Option.some.inj h; subst h
          exact ⟨_, rfl, by kernel_rfl⟩
    · replace h := fork_f c3 h
      refine W_exit ?_
      refine X_hit ?_
      refine Gh_one (s1 := ⟨⟨34, []⟩, [.lv 2 [.ro (a0.Strokes.map cSStroke), .i a0.Wait]]⟩) (by kernel_rfl) ?_
      refine Gh_trunc0 (by kernel_rfl) ?_
      refine Gh_nil ?_
      replace h := Option.some.inj h; subst h
      exact ⟨_, rfl, by kernel_rfl⟩
  · refine W_seq ?_
    refine W_reg ?_
    refine O_p 1 ?_
    refine O_nil ?_
    refine W_ret ?_
    replace h := Option.some.inj h; subst h
    exact Fin_free (l := [.bool true]) (by kernel_rfl) (by kernel_rfl) rfl

theorem p83 (a0 : SStep) (a1 : (List Bool)) (r : (List Bool)) (h : m83 a0 a1 = some r) : Pt E0 hp 83 [.agg (cSStep a0), .ro (a1.map cB)] (.ro (r.map cB)) := by
  unfold m83 at h
  refine Pt_W (fn83) rfl (by decide) ?_
  refine W_seq ?_
  refine W_gh ?_
  refine W_reg ?_
  refine O_p 2 ?_
  refine O_nil ?_
  refine Gh_e ⟨⟨32, [(1, .ro (a1.map cB)), (2, .po 0 0)]⟩, [.lv 2 [.ro (a0.Strokes.map cSStroke), .i a0.Wait]]⟩ ?_
  refine W_seq ?_
  refine W_gh ?_
  refine W_reg ?_
  refine O_p 2 ?_
  refine O_app (C := cB) (id := 1) (nl := .norm) okB h rfl (by kernel_rfl) (by kernel_rfl) (by kernel_rfl) (by kernel_rfl) rfl (fun l1 e_l1 h => ?_)
  refine O_p 1 ?_
  refine O_nil ?_
  refine Gh_one (s1 := ⟨⟨32, [(2, .po 0 0), (5, .own 1 l1.length 0 l1.length)]⟩, [.lv 2 [.ro (a0.Strokes.map cSStroke), .i a0.Wait], .live .norm 1 (l1.map cB)]⟩) (by kernel_rfl) ?_
  refine Gh_trunc0 (by kernel_rfl) ?_
  refine Gh_nil ?_
  refine W_seq ?_
  refine W_seq ?_
  refine W_reg ?_
  refine O_p 1 ?_
  refine O_nil ?_
  refine W_loopS (fun s2 : (List Bool) × Int => ⟨⟨32, [(2, .po 0 0), (5, .own 1 s2.1.length 0 s2.1.length), (6, .i s2.2)]⟩, [.lv 2 [.ro (a0.Strokes.map cSStroke), .i a0.Wait], .live .norm 1 (s2.1.map cB)]⟩) (fun w3 : (List Bool) => ⟨⟨32, [(5, .own 1 w3.length 0 w3.length)]⟩, [.lv 2 [.ro (a0.Strokes.map cSStroke), .i a0.Wait], .live .norm 1 (w3.map cB)]⟩) h (by kernel_rfl) (fun s2 c h => ?_) (fun w3 e_w3 h => ?_)
  · refine W_gh ?_
    refine W_seq ?_
    refine W_seq ?_
    refine W_gh ?_
    refine W_reg ?_
    refine O_p 3 ?_
    refine O_len (l := a0.Strokes) cSStroke (by kernel_rfl) (by kernel_rfl) ?_
    refine O_p 1 ?_
    refine O_nil ?_
    refine Gh_e ⟨⟨32, [(2, .po 0 0), (5, .own 1 s2.1.length 0 s2.1.length), (6, .i s2.2), (14, .bool (decide (s2.2 < (a0.Strokes.length : Int))))]⟩, [.lv 2 [.ro (a0.Strokes.map cSStroke), .i a0.Wait], .live .norm 1 (s2.1.map cB)]⟩ ?_
    refine W_gh ?_
    refine W_cond (c := (decide (s2.2 < (a0.Strokes.length : Int)))) (by kernel_rfl) (fun c4 => ?_) (fun c4 => ?_)
    · replace h := fork_t c4 h
      refine W_skip ?_
      refine Gh_e ⟨⟨32, [(2, .po 0 0), (5, .own 1 s2.1.length 0 s2.1.length), (6, .i s2.2)]⟩, [.lv 2 [.ro (a0.Strokes.map cSStroke), .i a0.Wait], .live .norm 1 (s2.1.map cB)]⟩ ?_
      refine W_seq ?_
      refine W_block ?_
      refine W_gh ?_
      refine W_draw ?_
      refine O_p 4 ?_
      refine O_idx (kd := .i64) cSStroke h (fun _ => rfl) (by kernel_rfl) (by kernel_rfl) (by kernel_rfl) (fun v5 e_v5 h => ?_)
      refine O_p 5 ?_
      refine O_idx (kd := .i64) cSStroke h (fun _ => rfl) (by kernel_rfl) (by kernel_rfl) (by kernel_rfl) (fun v6 e_v6 h => ?_)
      refine O_p 2 ?_
      refine O_iadO (kd := .i64) (id := 1) (nl := .norm) cB h rfl (by kernel_rfl) (by kernel_rfl) (by kernel_rfl) (by kernel_rfl) (fun v7 e_v7 h => ?_)
      refine O_stW (id := 1) (nl := .norm) (v' := v6.Out) cB e_v7 rfl rfl (fun _ => rfl) (by kernel_rfl) (by kernel_rfl) (by kernel_rfl) (cs := [.bool v6.Out]) (by kernel_rfl) (by kernel_rfl) rfl rfl rfl ?_
      have q_q8 := idx_set (v' := v6.Out) e_v7
      refine O_nil ?_
      refine Gh_endn (s1 := ⟨⟨32, [(2, .po 0 0), (5, .own 1 s2.1.length 0 s2.1.length), (6, .i s2.2)]⟩, [.lv 2 [.ro (a0.Strokes.map cSStroke), .i a0.Wait], .live .norm 1 ((s2.1.set v5.Actuator.toNat v6.Out).map cB)]⟩) (s2 := ⟨⟨32, [(2, .po 0 0), (5, .own 1 ((s2.1.set v5.Actuator.toNat v6.Out).length) 0 ((s2.1.set v5.Actuator.toNat v6.Out).length)), (6, .i s2.2)]⟩, [.lv 2 [.ro (a0.Strokes.map cSStroke), .i a0.Wait], .live .norm 1 ((s2.1.set v5.Actuator.toNat v6.Out).map cB)]⟩) _ (by kernel_rfl) (by simp only [List.length_set]) ?_
      refine W_gh ?_
      refine W_reg ?_
      refine O_p 3 ?_
      refine O_nil ?_
      refine Gh_e ⟨⟨32, [(2, .po 0 0), (5, .own 1 ((s2.1.set v5.Actuator.toNat v6.Out).length) 0 ((s2.1.set v5.Actuator.toNat v6.Out).length)), (6, .i (addI .i64 s2.2 1))]⟩, [.lv 2 [.ro (a0.Strokes.map cSStroke), .i a0.Wait], .live .norm 1 ((s2.1.set v5.Actuator.toNat v6.Out).map cB)]⟩ ?_
      refine Gh_e ⟨⟨32, [(2, .po 0 0), (5, .own 1 ((s2.1.set v5.Actuator.toNat v6.Out).length) 0 ((s2.1.set v5.Actuator.toNat v6.Out).length)), (6, .i (addI .i64 s2.2 1))]⟩, [.lv 2 [.ro (a0.Strokes.map cSStroke), .i a0.Wait], .live .norm 1 ((s2.1.set v5.Actuator.toNat v6.Out).map cB)]⟩ ?_
      replace h := Option.some.inj h; subst h
      exact ⟨_, rfl, by kernel_rfl⟩
    · replace h := fork_f c4 h
      refine W_exit ?_
      refine X_hit ?_
      refine Gh_e ⟨⟨32, [(5, .own 1 s2.1.length 0 s2.1.length)]⟩, [.lv 2 [.ro (a0.Strokes.map cSStroke), .i a0.Wait], .live .norm 1 (s2.1.map cB)]⟩ ?_
      replace h := Option.some.inj h; subst h
      exact ⟨_, rfl, by kernel_rfl⟩
  · refine W_seq ?_
    refine W_gh ?_
    refine W_reg ?_
    refine O_p 2 ?_
    refine O_nil ?_
    refine Gh_e ⟨⟨32, [(4, .own 1 w3.length 0 w3.length)]⟩, [.lv 2 [.ro (a0.Strokes.map cSStroke), .i a0.Wait], .live .norm 1 (w3.map cB)]⟩ ?_
    refine W_ret ?_
    replace h := Option.some.inj h; subst h
    exact Fin_pk (l := [.own 1 w3.length 0 w3.length]) (by kernel_rfl) (pk_own (d := 5) (id := 1) (nl := .norm) (sz := 1) (l := w3) okB.bel (by kernel_rfl) rfl)

theorem p68 (a0 : SSequence) (r : Int) (h : m68 a0 = some r) : Pt E0 hp 68 [.agg (cSSequence a0)] (.i r) := by
  unfold m68 at h
  refine Pt_W (fn68) rfl (by decide) ?_
  refine W_seq ?_
  refine W_gh ?_
  refine W_reg ?_
  refine O_p 2 ?_
  refine O_nil ?_
  refine Gh_e ⟨⟨62, [(1, .po 0 0)]⟩, [.lv 2 [.i a0.Actuators, .ro (a0.Steps.map cSStep)]]⟩ ?_
  refine W_seq ?_
  refine W_gh ?_
  refine W_reg ?_
  refine O_p 2 ?_
  refine O_mks (C := cB) okB (z0 := false) (by kernel_rfl) h (by kernel_rfl) (by kernel_rfl) (by kernel_rfl) (fun l1 e_l1 h => ?_)
  refine O_p 1 ?_
  refine O_nil ?_
  refine Gh_one (frz_own (id := 1) (nl := .norm) (sz := 1) (l := l1) okB.bel (by kernel_rfl) (by kernel_rfl) rfl rfl (s1 := ⟨⟨62, [(1, .po 0 0), (3, .ro (l1.map cB)), (9, .po 0 0), (10, .i a0.Actuators), (11, .own 1 l1.length 0 l1.length)]⟩, [.lv 2 [.i a0.Actuators, .ro (a0.Steps.map cSStep)], .dead]⟩) (by kernel_rfl)) ?_
  refine Gh_one (s1 := ⟨⟨62, [(1, .po 0 0), (3, .ro (l1.map cB))]⟩, [.lv 2 [.i a0.Actuators, .ro (a0.Steps.map cSStep)], .dead]⟩) (by kernel_rfl) ?_
  refine Gh_at (s1 := ⟨⟨62, [(1, .po 0 0), (3, .ro (l1.map cB))]⟩, [.lv 2 [.i a0.Actuators, .ro (a0.Steps.map cSStep)], .dead]⟩) (by kernel_rfl) ?_
  refine Gh_trunc (s1 := ⟨⟨62, [(1, .po 0 0), (3, .ro (l1.map cB))]⟩, [.lv 2 [.i a0.Actuators, .ro (a0.Steps.map cSStep)]]⟩) (by kernel_rfl) (tb_ref rfl (tb_free (ro_bel okB.bel _) rfl)) (H1 := [.lv 2 [.i a0.Actuators, .ro (a0.Steps.map cSStep)]]) (by kernel_rfl) (ob_boxn (bn_free rfl (bn_free (ro_bel okSStep.bel _) rfl)) rfl) (by kernel_rfl) ?_
  refine Gh_nil ?_
  refine W_seq ?_
  refine W_seq ?_
  refine W_reg ?_
  refine O_p 1 ?_
  refine O_nil ?_
  refine W_loop (fun s2 : (List Bool) × Int => ⟨⟨62, [(1, .po 0 0), (3, .ro (s2.1.map cB)), (4, .i s2.2)]⟩, [.lv 2 [.i a0.Actuators, .ro (a0.Steps.map cSStep)]]⟩) (fun w3 : (List Bool) => ⟨⟨62, [(1, .po 0 0), (3, .ro (w3.map cB))]⟩, [.lv 2 [.i a0.Actuators, .ro (a0.Steps.map cSStep)]]⟩) h (by kernel_rfl) (fun s2 c h => ?_) (fun w3 h => ?_)
  · refine W_gh ?_
    refine W_seq ?_
    refine W_seq ?_
    refine W_gh ?_
    refine W_reg ?_
    refine O_p 3 ?_
    refine O_len (l := a0.Steps) cSStep (by kernel_rfl) (by kernel_rfl) ?_
    refine O_p 1 ?_
    refine O_nil ?_
    refine Gh_e ⟨⟨62, [(1, .po 0 0), (3, .ro (s2.1.map cB)), (4, .i s2.2), (16, .bool (decide (s2.2 < (a0.Steps.length : Int))))]⟩, [.lv 2 [.i a0.Actuators, .ro (a0.Steps.map cSStep)]]⟩ ?_
    refine W_gh ?_
    refine W_cond (c := (decide (s2.2 < (a0.Steps.length : Int)))) (by kernel_rfl) (fun c4 => ?_) (fun c4 => ?_)
    · replace h := fork_t c4 h
      refine W_skip ?_
      refine Gh_e ⟨⟨62, [(1, .po 0 0), (3, .ro (s2.1.map cB)), (4, .i s2.2)]⟩, [.lv 2 [.i a0.Actuators, .ro (a0.Steps.map cSStep)]]⟩ ?_
      refine W_seq ?_
      refine W_gh ?_
      refine W_block ?_
      refine W_seq ?_
      refine W_gh ?_
      refine W_reg ?_
      refine O_p 3 ?_
      refine O_idx (kd := .i64) cSStep h (fun _ => rfl) (by kernel_rfl) (by kernel_rfl) (by kernel_rfl) (fun v5 e_v5 h => ?_)
      refine O_p 3 ?_
      refine O_nil ?_
      refine Gh_e ⟨⟨62, [(1, .po 0 0), (3, .ro (s2.1.map cB)), (4, .i s2.2), (5, .po 1 0)]⟩, [.lv 2 [.i a0.Actuators, .ro (a0.Steps.map cSStep)], .lv 2 [.ro (v5.Strokes.map cSStroke), .i v5.Wait]]⟩ ?_
      refine W_seq ?_
      refine W_seq ?_
      refine W_gh ?_
      refine W_reg ?_
      refine O_p 1 ?_
      refine O_call (fun v => .i v) h (.inr rfl) (ys := [.agg (cSStep v5)]) (fun _ e => p81 _ _ e) (by kernel_rfl) (by kernel_rfl) (bels_cons (okSStep.bel _) rfl) (fun v6 e_v6 h => ?_)
      refine O_p 1 ?_
      refine O_nil ?_
      refine Gh_e ⟨⟨62, [(1, .po 0 0), (3, .ro (s2.1.map cB)), (4, .i s2.2), (5, .po 1 0), (6, .i v6)]⟩, [.lv 2 [.i a0.Actuators, .ro (a0.Steps.map cSStep)], .lv 2 [.ro (v5.Strokes.map cSStroke), .i v5.Wait]]⟩ ?_
      refine W_seq ?_
      refine W_gh ?_
      refine W_reg ?_
      refine O_p 2 ?_
      refine O_nil ?_
      refine Gh_e ⟨⟨62, [(1, .po 0 0), (3, .ro (s2.1.map cB)), (4, .i s2.2), (5, .po 1 0), (6, .i v6), (27, .bool (v6 != 0))]⟩, [.lv 2 [.i a0.Actuators, .ro (a0.Steps.map cSStep)], .lv 2 [.ro (v5.Strokes.map cSStroke), .i v5.Wait]]⟩ ?_
      refine W_gh ?_
      refine W_cond (c := (v6 != 0)) (by kernel_rfl) (fun c7 => ?_) (fun c7 => ?_)
      · replace h := fork_t c7 h
        refine W_seq ?_
        refine W_gh ?_
        refine W_reg ?_
        refine O_p 2 ?_
        refine O_nil ?_
        refine Gh_e ⟨⟨62, [(1, .po 0 0), (2, .i v6), (3, .ro (s2.1.map cB)), (4, .i s2.2), (5, .po 1 0), (27, .bool (v6 != 0))]⟩, [.lv 2 [.i a0.Actuators, .ro (a0.Steps.map cSStep)], .lv 2 [.ro (v5.Strokes.map cSStroke), .i v5.Wait]]⟩ ?_
        refine W_ret ?_
        replace h := Option.some.inj h; subst h
        refine ⟨_, rfl, fun h => ?_⟩
        replace h := Option.some.inj h; subst h
        exact Fin_free (l := [.i v6]) (by kernel_rfl) (by kernel_rfl) rfl
      · replace h := fork_f c7 h
        refine W_skip ?_
        refine Gh_e ⟨⟨62, [(1, .po 0 0), (3, .ro (s2.1.map cB)), (4, .i s2.2), (5, .po 1 0)]⟩, [.lv 2 [.i a0.Actuators, .ro (a0.Steps.map cSStep)], .lv 2 [.ro (v5.Strokes.map cSStroke), .i v5.Wait]]⟩ ?_
        refine W_seq ?_
        refine W_seq ?_
        refine W_reg ?_
        refine O_p 1 ?_
        refine O_nil ?_
        refine W_loop (fun s8 : Int => ⟨⟨62, [(1, .po 0 0), (3, .ro (s2.1.map cB)), (4, .i s2.2), (5, .po 1 0), (7, .i s8)]⟩, [.lv 2 [.i a0.Actuators, .ro (a0.Steps.map cSStep)], .lv 2 [.ro (v5.Strokes.map cSStroke), .i v5.Wait]]⟩) (fun w9 : Unit => ⟨⟨62, [(1, .po 0 0), (3, .ro (s2.1.map cB)), (4, .i s2.2), (5, .po 1 0)]⟩, [.lv 2 [.i a0.Actuators, .ro (a0.Steps.map cSStep)], .lv 2 [.ro (v5.Strokes.map cSStroke), .i v5.Wait]]⟩) h (by kernel_rfl) (fun s8 c h => ?_) (fun w9 h => ?_)
        · refine W_gh ?_
          refine W_seq ?_
          refine W_seq ?_
          refine W_gh ?_
          refine W_reg ?_
          refine O_p 3 ?_
          refine O_len (l := v5.Strokes) cSStroke (by kernel_rfl) (by kernel_rfl) ?_
          refine O_p 1 ?_
          refine O_nil ?_
          refine Gh_e ⟨⟨62, [(1, .po 0 0), (3, .ro (s2.1.map cB)), (4, .i s2.2), (5, .po 1 0), (7, .i s8), (33, .bool (decide (s8 < (v5.Strokes.length : Int))))]⟩, [.lv 2 [.i a0.Actuators, .ro (a0.Steps.map cSStep)], .lv 2 [.ro (v5.Strokes.map cSStroke), .i v5.Wait]]⟩ ?_
          refine W_gh ?_
          refine W_cond (c := (decide (s8 < (v5.Strokes.length : Int)))) (by kernel_rfl) (fun c10 => ?_) (fun c10 => ?_)
          · replace h := fork_t c10 h
            refine W_skip ?_
            refine Gh_e ⟨⟨62, [(1, .po 0 0), (3, .ro (s2.1.map cB)), (4, .i s2.2), (5, .po 1 0), (7, .i s8)]⟩, [.lv 2 [.i a0.Actuators, .ro (a0.Steps.map cSStep)], .lv 2 [.ro (v5.Strokes.map cSStroke), .i v5.Wait]]⟩ ?_
            refine W_seq ?_
            refine W_gh ?_
            refine W_block ?_
            refine W_seq ?_
            refine W_gh ?_
            refine W_draw ?_
            refine O_p 3 ?_
            refine O_idx (kd := .i64) cSStroke h (fun _ => rfl) (by kernel_rfl) (by kernel_rfl) (by kernel_rfl) (fun v11 e_v11 h => ?_)
            refine O_p 5 ?_
            refine O_nil ?_
            refine Gh_e ⟨⟨62, [(1, .po 0 0), (3, .ro (s2.1.map cB)), (4, .i s2.2), (5, .po 1 0), (7, .i s8), (44, .bool (decide (v11.Actuator ≥ a0.Actuators)))]⟩, [.lv 2 [.i a0.Actuators, .ro (a0.Steps.map cSStep)], .lv 2 [.ro (v5.Strokes.map cSStroke), .i v5.Wait]]⟩ ?_
            refine W_gh ?_
            refine W_cond (c := (decide (v11.Actuator ≥ a0.Actuators))) (by kernel_rfl) (fun c12 => ?_) (fun c12 => ?_)
            · replace h := fork_t c12 h
              refine W_seq ?_
              refine W_reg ?_
              refine O_p 1 ?_
              refine O_nil ?_
              refine W_ret ?_
              replace h := Option.some.inj h; subst h
              refine ⟨_, rfl, fun h => ?_⟩
              replace h := Option.some.inj h; subst h
              refine ⟨_, rfl, fun h => ?_⟩
              replace h := Option.some.inj h; subst h
              exact Fin_free (l := [.i 6]) (by kernel_rfl) (by kernel_rfl) rfl
            · replace h := fork_f c12 h
              refine W_skip ?_
              refine Gh_e ⟨⟨62, [(1, .po 0 0), (3, .ro (s2.1.map cB)), (4, .i s2.2), (5, .po 1 0), (7, .i s8)]⟩, [.lv 2 [.i a0.Actuators, .ro (a0.Steps.map cSStep)], .lv 2 [.ro (v5.Strokes.map cSStroke), .i v5.Wait]]⟩ ?_
              refine Gh_e ⟨⟨62, [(1, .po 0 0), (3, .ro (s2.1.map cB)), (4, .i s2.2), (5, .po 1 0), (7, .i s8)]⟩, [.lv 2 [.i a0.Actuators, .ro (a0.Steps.map cSStep)], .lv 2 [.ro (v5.Strokes.map cSStroke), .i v5.Wait]]⟩ ?_
              refine W_gh ?_
              refine W_reg ?_
              refine O_p 3 ?_
              refine O_nil ?_
              refine Gh_e ⟨⟨62, [(1, .po 0 0), (3, .ro (s2.1.map cB)), (4, .i s2.2), (5, .po 1 0), (7, .i (addI .i64 s8 1))]⟩, [.lv 2 [.i a0.Actuators, .ro (a0.Steps.map cSStep)], .lv 2 [.ro (v5.Strokes.map cSStroke), .i v5.Wait]]⟩ ?_
              refine Gh_e ⟨⟨62, [(1, .po 0 0), (3, .ro (s2.1.map cB)), (4, .i s2.2), (5, .po 1 0), (7, .i (addI .i64 s8 1))]⟩, [.lv 2 [.i a0.Actuators, .ro (a0.Steps.map cSStep)], .lv 2 [.ro (v5.Strokes.map cSStroke), .i v5.Wait]]⟩ ?_
              replace h := Option.some.inj h; subst h
              exact ⟨_, rfl, by kernel_rfl⟩
          · replace h := fork_f c10 h
            refine W_exit ?_
            refine X_hit ?_
            refine Gh_e ⟨⟨62, [(1, .po 0 0), (3, .ro (s2.1.map cB)), (4, .i s2.2), (5, .po 1 0)]⟩, [.lv 2 [.i a0.Actuators, .ro (a0.Steps.map cSStep)], .lv 2 [.ro (v5.Strokes.map cSStroke), .i v5.Wait]]⟩ ?_
            replace h := Option.some.inj h; subst h
            exact ⟨_, rfl, by kernel_rfl⟩
        · refine W_seq ?_
          refine W_seq ?_
          refine W_gh ?_
          refine W_reg ?_
          refine O_p 2 ?_
          refine O_call (fun v => .bool v) h (.inr rfl) (ys := [.agg (cSStep v5), .ro (s2.1.map cB)]) (fun _ e => p82 _ _ _ e) (by kernel_rfl) (by kernel_rfl) (bels_cons (okSStep.bel _) (bels_cons (ro_bel okB.bel _) rfl)) (fun v13 e_v13 h => ?_)
          refine O_p 1 ?_
          refine O_nil ?_
          refine Gh_e ⟨⟨62, [(1, .po 0 0), (3, .ro (s2.1.map cB)), (4, .i s2.2), (5, .po 1 0), (48, .bool (!v13))]⟩, [.lv 2 [.i a0.Actuators, .ro (a0.Steps.map cSStep)], .lv 2 [.ro (v5.Strokes.map cSStroke), .i v5.Wait]]⟩ ?_
          refine W_gh ?_
          refine W_cond (c := (!v13)) (by kernel_rfl) (fun c14 => ?_) (fun c14 => ?_)
          · replace h := fork_t c14 h
            refine W_seq ?_
            refine W_reg ?_
            refine O_p 1 ?_
            refine O_nil ?_
            refine W_ret ?_
            replace h := Option.some.inj h; subst h
            refine ⟨_, rfl, fun h => ?_⟩
            replace h := Option.some.inj h; subst h
            exact Fin_free (l := [.i 14]) (by kernel_rfl) (by kernel_rfl) rfl
          · replace h := fork_f c14 h
            refine W_skip ?_
            refine Gh_e ⟨⟨62, [(1, .po 0 0), (3, .ro (s2.1.map cB)), (4, .i s2.2), (5, .po 1 0)]⟩, [.lv 2 [.i a0.Actuators, .ro (a0.Steps.map cSStep)], .lv 2 [.ro (v5.Strokes.map cSStroke), .i v5.Wait]]⟩ ?_
            refine W_gh ?_
            refine W_reg ?_
            refine O_p 2 ?_
            refine O_call (fun v => .ro (v.map cB)) h (.inr rfl) (ys := [.agg (cSStep v5), .ro (s2.1.map cB)]) (fun _ e => p83 _ _ _ e) (by kernel_rfl) (by kernel_rfl) (bels_cons (okSStep.bel _) (bels_cons (ro_bel okB.bel _) rfl)) (fun v15 e_v15 h => ?_)
            refine O_p 1 ?_
            refine O_nil ?_
            refine Gh_e ⟨⟨62, [(1, .po 0 0), (3, .ro (v15.map cB)), (4, .i s2.2)]⟩, [.lv 2 [.i a0.Actuators, .ro (a0.Steps.map cSStep)], .lv 2 [.ro (v5.Strokes.map cSStroke), .i v5.Wait]]⟩ ?_
            refine Gh_one (s1 := ⟨⟨62, [(1, .po 0 0), (3, .ro (v15.map cB)), (4, .i s2.2)]⟩, [.lv 2 [.i a0.Actuators, .ro (a0.Steps.map cSStep)], .lv 2 [.ro (v5.Strokes.map cSStroke), .i v5.Wait]]⟩) (by kernel_rfl) ?_
            refine Gh_at (s1 := ⟨⟨62, [(1, .po 0 0), (3, .ro (v15.map cB)), (4, .i s2.2)]⟩, [.lv 2 [.i a0.Actuators, .ro (a0.Steps.map cSStep)], .lv 2 [.ro (v5.Strokes.map cSStroke), .i v5.Wait]]⟩) (by kernel_rfl) ?_
            refine Gh_trunc (s1 := ⟨⟨62, [(1, .po 0 0), (3, .ro (v15.map cB)), (4, .i s2.2)]⟩, [.lv 2 [.i a0.Actuators, .ro (a0.Steps.map cSStep)]]⟩) (by kernel_rfl) (tb_ref rfl (tb_free (ro_bel okB.bel _) (tb_free rfl rfl))) (H1 := [.lv 2 [.i a0.Actuators, .ro (a0.Steps.map cSStep)]]) (by kernel_rfl) (ob_boxn (bn_free rfl (bn_free (ro_bel okSStep.bel _) rfl)) rfl) (by kernel_rfl) ?_
            refine Gh_nil ?_
            refine W_gh ?_
            refine W_reg ?_
            refine O_p 3 ?_
            refine O_nil ?_
            refine Gh_e ⟨⟨62, [(1, .po 0 0), (3, .ro (v15.map cB)), (4, .i (addI .i64 s2.2 1))]⟩, [.lv 2 [.i a0.Actuators, .ro (a0.Steps.map cSStep)]]⟩ ?_
            refine Gh_one (s1 := ⟨⟨62, [(1, .po 0 0), (3, .ro (v15.map cB)), (4, .i (addI .i64 s2.2 1))]⟩, [.lv 2 [.i a0.Actuators, .ro (a0.Steps.map cSStep)]]⟩) (by kernel_rfl) ?_
            refine Gh_trunc0 (by kernel_rfl) ?_
            refine Gh_nil ?_
            replace h := Option.some.inj h; subst h
            exact ⟨_, rfl, by kernel_rfl⟩
    · replace h := fork_f c4 h
      refine W_exit ?_
      refine X_hit ?_
      refine Gh_one (s1 := ⟨⟨62, [(1, .po 0 0), (3, .ro (s2.1.map cB))]⟩, [.lv 2 [.i a0.Actuators, .ro (a0.Steps.map cSStep)]]⟩) (by kernel_rfl) ?_
      refine Gh_trunc0 (by kernel_rfl) ?_
      refine Gh_nil ?_
      replace h := Option.some.inj h; subst h
      exact ⟨_, rfl, by kernel_rfl⟩
  · refine W_seq ?_
    refine W_seq ?_
    refine W_reg ?_
    refine O_p 1 ?_
    refine O_nil ?_
    refine W_loop (fun s16 : Int => ⟨⟨62, [(1, .po 0 0), (3, .ro (w3.map cB)), (8, .i s16)]⟩, [.lv 2 [.i a0.Actuators, .ro (a0.Steps.map cSStep)]]⟩) (fun w17 : Unit => ⟨⟨62, []⟩, [.lv 2 [.i a0.Actuators, .ro (a0.Steps.map cSStep)]]⟩) h (by kernel_rfl) (fun s16 c h => ?_) (fun w17 h => ?_)
    · refine W_gh ?_
      refine W_seq ?_
      refine W_seq ?_
      refine W_gh ?_
      refine W_reg ?_
      refine O_p 4 ?_
      refine O_nil ?_
      refine Gh_e ⟨⟨62, [(1, .po 0 0), (3, .ro (w3.map cB)), (8, .i s16), (55, .bool (decide (s16 < a0.Actuators)))]⟩, [.lv 2 [.i a0.Actuators, .ro (a0.Steps.map cSStep)]]⟩ ?_
      refine W_gh ?_
      refine W_cond (c := (decide (s16 < a0.Actuators))) (by kernel_rfl) (fun c18 => ?_) (fun c18 => ?_)
      · replace h := fork_t c18 h
        refine W_skip ?_
        refine Gh_e ⟨⟨62, [(1, .po 0 0), (3, .ro (w3.map cB)), (8, .i s16)]⟩, [.lv 2 [.i a0.Actuators, .ro (a0.Steps.map cSStep)]]⟩ ?_
        refine W_seq ?_
        refine W_gh ?_
        refine W_block ?_
        refine W_seq ?_
        refine W_gh ?_
        refine W_reg ?_
        refine O_p 2 ?_
        refine O_idx (kd := .i64) cB h (fun _ => rfl) (by kernel_rfl) (by kernel_rfl) (by kernel_rfl) (fun v19 e_v19 h => ?_)
        refine O_p 1 ?_
        refine O_nil ?_
        refine Gh_e ⟨⟨62, [(1, .po 0 0), (3, .ro (w3.map cB)), (8, .i s16), (61, .bool v19)]⟩, [.lv 2 [.i a0.Actuators, .ro (a0.Steps.map cSStep)]]⟩ ?_
        refine W_gh ?_
        refine W_cond (c := v19) (by kernel_rfl) (fun c20 => ?_) (fun c20 => ?_)
        · replace h := fork_t c20 h
          refine W_seq ?_
          refine W_reg ?_
          refine O_p 1 ?_
          refine O_nil ?_
          refine W_ret ?_
          replace h := Option.some.inj h; subst h
          refine ⟨_, rfl, fun h => ?_⟩
          replace h := Option.some.inj h; subst h
          exact Fin_free (l := [.i 9]) (by kernel_rfl) (by kernel_rfl) rfl
        · replace h := fork_f c20 h
          refine W_skip ?_
          refine Gh_e ⟨⟨62, [(1, .po 0 0), (3, .ro (w3.map cB)), (8, .i s16)]⟩, [.lv 2 [.i a0.Actuators, .ro (a0.Steps.map cSStep)]]⟩ ?_
          refine Gh_e ⟨⟨62, [(1, .po 0 0), (3, .ro (w3.map cB)), (8, .i s16)]⟩, [.lv 2 [.i a0.Actuators, .ro (a0.Steps.map cSStep)]]⟩ ?_
          refine W_gh ?_
          refine W_reg ?_
          refine O_p 3 ?_
          refine O_nil ?_
          refine Gh_e ⟨⟨62, [(1, .po 0 0), (3, .ro (w3.map cB)), (8, .i (addI .i64 s16 1))]⟩, [.lv 2 [.i a0.Actuators, .ro (a0.Steps.map cSStep)]]⟩ ?_
          refine Gh_e ⟨⟨62, [(1, .po 0 0), (3, .ro (w3.map cB)), (8, .i (addI .i64 s16 1))]⟩, [.lv 2 [.i a0.Actuators, .ro (a0.Steps.map cSStep)]]⟩ ?_
          replace h := Option.some.inj h; subst h
          exact ⟨_, rfl, by kernel_rfl⟩
      · replace h := fork_f c18 h
        refine W_exit ?_
        refine X_hit ?_
        refine Gh_e ⟨⟨62, []⟩, [.lv 2 [.i a0.Actuators, .ro (a0.Steps.map cSStep)]]⟩ ?_
        replace h := Option.some.inj h; subst h
        exact ⟨_, rfl, by kernel_rfl⟩
    · refine W_seq ?_
      refine W_reg ?_
      refine O_p 1 ?_
      refine O_nil ?_
      refine W_ret ?_
      replace h := Option.some.inj h; subst h
      exact Fin_free (l := [.i 0]) (by kernel_rfl) (by kernel_rfl) rfl

theorem p78 (a0 : SStep) (a1 : Int) (r : Int) (h : m78 a0 a1 = some r) : Pt E0 hp 78 [.agg (cSStep a0), .i a1] (.i r) := by
  unfold m78 at h
  refine Pt_W (fn78) rfl (by decide) ?_
  refine W_seq ?_
  refine W_gh ?_
  refine W_reg ?_
  refine O_p 2 ?_
  refine O_nil ?_
  refine Gh_e ⟨⟨27, [(1, .i a1), (2, .po 0 0)]⟩, [.lv 2 [.ro (a0.Strokes.map cSStroke), .i a0.Wait]]⟩ ?_
  refine W_seq ?_
  refine W_seq ?_
  refine W_reg ?_
  refine O_p 1 ?_
  refine O_nil ?_
  refine W_loop (fun s1 : Int => ⟨⟨27, [(1, .i a1), (2, .po 0 0), (5, .i s1)]⟩, [.lv 2 [.ro (a0.Strokes.map cSStroke), .i a0.Wait]]⟩) (fun w2 : Unit => ⟨⟨27, []⟩, [.lv 2 [.ro (a0.Strokes.map cSStroke), .i a0.Wait]]⟩) h (by kernel_rfl) (fun s1 c h => ?_) (fun w2 h => ?_)
  · refine W_gh ?_
    refine W_seq ?_
    refine W_seq ?_
    refine W_gh ?_
    refine W_reg ?_
    refine O_p 3 ?_
    refine O_len (l := a0.Strokes) cSStroke (by kernel_rfl) (by kernel_rfl) ?_
    refine O_p 1 ?_
    refine O_nil ?_
    refine Gh_e ⟨⟨27, [(1, .i a1), (2, .po 0 0), (5, .i s1), (10, .bool (decide (s1 < (a0.Strokes.length : Int))))]⟩, [.lv 2 [.ro (a0.Strokes.map cSStroke), .i a0.Wait]]⟩ ?_
    refine W_gh ?_
    refine W_cond (c := (decide (s1 < (a0.Strokes.length : Int)))) (by kernel_rfl) (fun c3 => ?_) (fun c3 => ?_)
    · replace h := fork_t c3 h
      refine W_skip ?_
      refine Gh_e ⟨⟨27, [(1, .i a1), (2, .po 0 0), (5, .i s1)]⟩, [.lv 2 [.ro (a0.Strokes.map cSStroke), .i a0.Wait]]⟩ ?_
      refine W_seq ?_
      refine W_gh ?_
      refine W_block ?_
      refine W_seq ?_
      refine W_gh ?_
      refine W_reg ?_
      refine O_p 3 ?_
      refine O_idx (kd := .i64) cSStroke h (fun _ => rfl) (by kernel_rfl) (by kernel_rfl) (by kernel_rfl) (fun v4 e_v4 h => ?_)
      refine O_p 4 ?_
      refine O_nil ?_
      refine Gh_e ⟨⟨27, [(1, .i a1), (2, .po 0 0), (5, .i s1), (20, .bool (v4.Actuator == a1))]⟩, [.lv 2 [.ro (a0.Strokes.map cSStroke), .i a0.Wait]]⟩ ?_
      refine W_gh ?_
      refine W_cond (c := (v4.Actuator == a1)) (by kernel_rfl) (fun c5 => ?_) (fun c5 => ?_)
      · replace h := fork_t c5 h
        refine W_seq ?_
        refine W_seq ?_
        refine W_gh ?_
        refine W_reg ?_
        refine O_p 3 ?_
        refine O_idx (kd := .i64) cSStroke h (fun _ => rfl) (by kernel_rfl) (by kernel_rfl) (by kernel_rfl) (fun v6 e_v6 h => ?_)
        refine O_p 2 ?_
        refine O_nil ?_
        refine Gh_e ⟨⟨27, [(1, .i a1), (20, .bool (v4.Actuator == a1)), (26, .bool v6.Out)]⟩, [.lv 2 [.ro (a0.Strokes.map cSStroke), .i a0.Wait]]⟩ ?_
        refine W_gh ?_
        refine W_cond (c := v6.Out) (by kernel_rfl) (fun c7 => ?_) (fun c7 => ?_)
        · replace h := fork_t c7 h
          refine W_seq ?_
          refine W_reg ?_
          refine O_p 1 ?_
          refine O_nil ?_
          refine W_ret ?_
          replace h := Option.some.inj h; subst h
          refine ⟨_, rfl, fun h => ?_⟩
          replace h := Option.some.inj h; subst h
          exact Fin_free (l := [.i 1]) (by kernel_rfl) (by kernel_rfl) rfl
        · replace h := fork_f c7 h
          refine W_skip ?_
          refine Gh_e ⟨⟨27, [(1, .i a1), (20, .bool (v4.Actuator == a1))]⟩, [.lv 2 [.ro (a0.Strokes.map cSStroke), .i a0.Wait]]⟩ ?_
          refine W_seq ?_
          refine W_reg ?_
          refine O_p 1 ?_
          refine O_nil ?_
          refine W_ret ?_
          replace h := Option.some.inj h; subst h
          refine ⟨_, rfl, fun h => ?_⟩
          replace h := Option.some.inj h; subst h
          exact Fin_free (l := [.i (-1)]) (by kernel_rfl) (by kernel_rfl) rfl
      · replace h := fork_f c5 h
        refine W_skip ?_
        refine Gh_e ⟨⟨27, [(1, .i a1), (2, .po 0 0), (5, .i s1)]⟩, [.lv 2 [.ro (a0.Strokes.map cSStroke), .i a0.Wait]]⟩ ?_
        refine Gh_e ⟨⟨27, [(1, .i a1), (2, .po 0 0), (5, .i s1)]⟩, [.lv 2 [.ro (a0.Strokes.map cSStroke), .i a0.Wait]]⟩ ?_
        refine W_gh ?_
        refine W_reg ?_
        refine O_p 3 ?_
        refine O_nil ?_
        refine Gh_e ⟨⟨27, [(1, .i a1), (2, .po 0 0), (5, .i (addI .i64 s1 1))]⟩, [.lv 2 [.ro (a0.Strokes.map cSStroke), .i a0.Wait]]⟩ ?_
        refine Gh_e ⟨⟨27, [(1, .i a1), (2, .po 0 0), (5, .i (addI .i64 s1 1))]⟩, [.lv 2 [.ro (a0.Strokes.map cSStroke), .i a0.Wait]]⟩ ?_
        replace h := Option.some.inj h; subst h
        exact ⟨_, rfl, by kernel_rfl⟩
    · replace h := fork_f c3 h
      refine W_exit ?_
      refine X_hit ?_
      refine Gh_e ⟨⟨27, []⟩, [.lv 2 [.ro (a0.Strokes.map cSStroke), .i a0.Wait]]⟩ ?_
      replace h := Option.some.inj h; subst h
      exact ⟨_, rfl, by kernel_rfl⟩
  · refine W_seq ?_
    refine W_reg ?_
    refine O_p 1 ?_
    refine O_nil ?_
    refine W_ret ?_
    replace h := Option.some.inj h; subst h
    exact Fin_free (l := [.i 0]) (by kernel_rfl) (by kernel_rfl) rfl

theorem p69 (a0 : SSequence) (a1 : Int) (r : Bool) (h : m69 a0 a1 = some r) : Pt E0 hp 69 [.agg (cSSequence a0), .i a1] (.bool r) := by
  unfold m69 at h
  refine Pt_W (fn69) rfl (by decide) ?_
  refine W_seq ?_
  refine W_gh ?_
  refine W_reg ?_
  refine O_p 2 ?_
  refine O_nil ?_
  refine Gh_e ⟨⟨21, [(1, .i a1), (2, .po 0 0)]⟩, [.lv 2 [.i a0.Actuators, .ro (a0.Steps.map cSStep)]]⟩ ?_
  refine W_seq ?_
  refine W_seq ?_
  refine W_reg ?_
  refine O_p 1 ?_
  refine O_nil ?_
  refine W_loop (fun s1 : Int => ⟨⟨21, [(1, .i a1), (2, .po 0 0), (5, .i s1)]⟩, [.lv 2 [.i a0.Actuators, .ro (a0.Steps.map cSStep)]]⟩) (fun w2 : Unit => ⟨⟨21, []⟩, [.lv 2 [.i a0.Actuators, .ro (a0.Steps.map cSStep)]]⟩) h (by kernel_rfl) (fun s1 c h => ?_) (fun w2 h => ?_)
  · refine W_gh ?_
    refine W_seq ?_
    refine W_seq ?_
    refine W_gh ?_
    refine W_reg ?_
    refine O_p 3 ?_
    refine O_len (l := a0.Steps) cSStep (by kernel_rfl) (by kernel_rfl) ?_
    refine O_p 1 ?_
    refine O_nil ?_
    refine Gh_e ⟨⟨21, [(1, .i a1), (2, .po 0 0), (5, .i s1), (10, .bool (decide (s1 < (a0.Steps.length : Int))))]⟩, [.lv 2 [.i a0.Actuators, .ro (a0.Steps.map cSStep)]]⟩ ?_
    refine W_gh ?_
    refine W_cond (c := (decide (s1 < (a0.Steps.length : Int)))) (by kernel_rfl) (fun c3 => ?_) (fun c3 => ?_)
    · replace h := fork_t c3 h
      refine W_skip ?_
      refine Gh_e ⟨⟨21, [(1, .i a1), (2, .po 0 0), (5, .i s1)]⟩, [.lv 2 [.i a0.Actuators, .ro (a0.Steps.map cSStep)]]⟩ ?_
      refine W_seq ?_
      refine W_gh ?_
      refine W_block ?_
      refine W_seq ?_
      refine W_gh ?_
      refine W_reg ?_
      refine O_p 3 ?_
      refine O_idx (kd := .i64) cSStep h (fun _ => rfl) (by kernel_rfl) (by kernel_rfl) (by kernel_rfl) (fun v4 e_v4 h => ?_)
      refine O_p 2 ?_
      refine O_call (fun v => .i v) h (.inr rfl) (ys := [.agg (cSStep v4), .i a1]) (fun _ e => p78 _ _ _ e) (by kernel_rfl) (by kernel_rfl) (bels_cons (okSStep.bel _) (bels_cons rfl rfl)) (fun v5 e_v5 h => ?_)
      refine O_p 1 ?_
      refine O_nil ?_
      refine Gh_e ⟨⟨21, [(1, .i a1), (2, .po 0 0), (5, .i s1), (20, .bool (v5 != 0))]⟩, [.lv 2 [.i a0.Actuators, .ro (a0.Steps.map cSStep)]]⟩ ?_
      refine W_gh ?_
      refine W_cond (c := (v5 != 0)) (by kernel_rfl) (fun c6 => ?_) (fun c6 => ?_)
      · replace h := fork_t c6 h
        refine W_seq ?_
        refine W_reg ?_
        refine O_p 1 ?_
        refine O_nil ?_
        refine W_ret ?_
        replace h := Option.some.inj h; subst h
        refine ⟨_, rfl, fun h => ?_⟩
        replace h := Option.some.inj h; subst h
        exact Fin_free (l := [.bool true]) (by kernel_rfl) (by kernel_rfl) rfl
      · replace h := fork_f c6 h
        refine W_skip ?_
        refine Gh_e ⟨⟨21, [(1, .i a1), (2, .po 0 0), (5, .i s1)]⟩, [.lv 2 [.i a0.Actuators, .ro (a0.Steps.map cSStep)]]⟩ ?_
        refine Gh_e ⟨⟨21, [(1, .i a1), (2, .po 0 0), (5, .i s1)]⟩, [.lv 2 [.i a0.Actuators, .ro (a0.Steps.map cSStep)]]⟩ ?_
        refine W_gh ?_
        refine W_reg ?_
        refine O_p 3 ?_
        refine O_nil ?_
        refine Gh_e ⟨⟨21, [(1, .i a1), (2, .po 0 0), (5, .i (addI .i64 s1 1))]⟩, [.lv 2 [.i a0.Actuators, .ro (a0.Steps.map cSStep)]]⟩ ?_
        refine Gh_e ⟨⟨21, [(1, .i a1), (2, .po 0 0), (5, .i (addI .i64 s1 1))]⟩, [.lv 2 [.i a0.Actuators, .ro (a0.Steps.map cSStep)]]⟩ ?_
        replace h := Option.some.inj h; subst h
        exact ⟨_, rfl, by kernel_rfl⟩
    · replace h := fork_f c3 h
      refine W_exit ?_
      refine X_hit ?_
      refine Gh_e ⟨⟨21, []⟩, [.lv 2 [.i a0.Actuators, .ro (a0.Steps.map cSStep)]]⟩ ?_
      replace h := Option.some.inj h; subst h
      exact ⟨_, rfl, by kernel_rfl⟩
  · refine W_seq ?_
    refine W_reg ?_
    refine O_p 1 ?_
    refine O_nil ?_
    refine W_ret ?_
    replace h := Option.some.inj h; subst h
    exact Fin_free (l := [.bool false]) (by kernel_rfl) (by kernel_rfl) rfl

theorem p42 (a0 : SSequence) (r : Int) (h : m42 a0 = some r) : Pt E0 hp 42 [.agg (cSSequence a0)] (.i r) := by
  unfold m42 at h
  refine Pt_W (fn42) rfl (by decide) ?_
  refine W_seq ?_
  refine W_gh ?_
  refine W_reg ?_
  refine O_p 2 ?_
  refine O_nil ?_
  refine Gh_e ⟨⟨36, [(1, .po 0 0)]⟩, [.lv 2 [.i a0.Actuators, .ro (a0.Steps.map cSStep)]]⟩ ?_
  refine W_seq ?_
  refine W_seq ?_
  refine W_cut ⟨⟨36, [(1, .po 0 0), (12, .bool ((decide (a0.Actuators < 1)) || (decide (a0.Actuators > 6))))]⟩, [.lv 2 [.i a0.Actuators, .ro (a0.Steps.map cSStep)]]⟩ ?_ ?_
  · generalize e_g1 : ((decide (a0.Actuators < 1)) || (decide (a0.Actuators > 6))) = g1
    refine W_gh ?_
    refine W_reg ?_
    refine O_p 4 ?_
    refine O_fork (n := 8) (decide (a0.Actuators < 1)) (by kernel_rfl) (fun c2 => ?_) (fun c2 => ?_)
    · skip
      refine O_p 4 ?_
      refine O_nil ?_
      refine Gh_e ⟨⟨36, [(1, .po 0 0), (12, .bool true)]⟩, [.lv 2 [.i a0.Actuators, .ro (a0.Steps.map cSStep)]]⟩ ?_
      have q := e_g1; simp only [c2, cond_true, cond_false, Bool.true_and, Bool.false_and, Bool.true_or, Bool.false_or] at q; subst q
      show _ = _
      kernel_rfl
    · skip
      refine O_p 4 ?_
      refine O_nil ?_
      refine Gh_e ⟨⟨36, [(1, .po 0 0), (12, .bool (decide (a0.Actuators > 6)))]⟩, [.lv 2 [.i a0.Actuators, .ro (a0.Steps.map cSStep)]]⟩ ?_
      have q := e_g1; simp only [c2, cond_true, cond_false, Bool.true_and, Bool.false_and, Bool.true_or, Bool.false_or] at q; subst q
      show _ = _
      kernel_rfl
  · refine W_gh ?_
    refine W_cond (c := ((decide (a0.Actuators < 1)) || (decide (a0.Actuators > 6)))) (by kernel_rfl) (fun c3 => ?_) (fun c3 => ?_)
    · replace h := fork_t c3 h
      refine W_seq ?_
      refine W_reg ?_
      refine O_p 1 ?_
      refine O_nil ?_
      refine W_ret ?_
      replace h := Option.some.inj h; subst h
      exact Fin_free (l := [.i 2]) (by kernel_rfl) (by kernel_rfl) rfl
    · replace h := fork_f c3 h
      refine W_skip ?_
      refine Gh_e ⟨⟨36, [(1, .po 0 0)]⟩, [.lv 2 [.i a0.Actuators, .ro (a0.Steps.map cSStep)]]⟩ ?_
      refine W_seq ?_
      refine W_seq ?_
      refine W_gh ?_
      refine W_reg ?_
      refine O_p 2 ?_
      refine O_len (l := a0.Steps) cSStep (by kernel_rfl) (by kernel_rfl) ?_
      refine O_p 1 ?_
      refine O_nil ?_
      refine Gh_e ⟨⟨36, [(1, .po 0 0), (16, .bool ((a0.Steps.length : Int) == 0))]⟩, [.lv 2 [.i a0.Actuators, .ro (a0.Steps.map cSStep)]]⟩ ?_
      refine W_gh ?_
      refine W_cond (c := ((a0.Steps.length : Int) == 0)) (by kernel_rfl) (fun c4 => ?_) (fun c4 => ?_)
      · replace h := fork_t c4 h
        refine W_seq ?_
        refine W_reg ?_
        refine O_p 1 ?_
        refine O_nil ?_
        refine W_ret ?_
        replace h := Option.some.inj h; subst h
        exact Fin_free (l := [.i 13]) (by kernel_rfl) (by kernel_rfl) rfl
      · replace h := fork_f c4 h
        refine W_skip ?_
        refine Gh_e ⟨⟨36, [(1, .po 0 0)]⟩, [.lv 2 [.i a0.Actuators, .ro (a0.Steps.map cSStep)]]⟩ ?_
        refine W_seq ?_
        refine W_seq ?_
        refine W_gh ?_
        refine W_reg ?_
        refine O_p 2 ?_
        refine O_len (l := a0.Steps) cSStep (by kernel_rfl) (by kernel_rfl) ?_
        refine O_p 1 ?_
        refine O_nil ?_
        refine Gh_e ⟨⟨36, [(1, .po 0 0), (20, .bool (decide ((a0.Steps.length : Int) > 64)))]⟩, [.lv 2 [.i a0.Actuators, .ro (a0.Steps.map cSStep)]]⟩ ?_
        refine W_gh ?_
        refine W_cond (c := (decide ((a0.Steps.length : Int) > 64))) (by kernel_rfl) (fun c5 => ?_) (fun c5 => ?_)
        · replace h := fork_t c5 h
          refine W_seq ?_
          refine W_reg ?_
          refine O_p 1 ?_
          refine O_nil ?_
          refine W_ret ?_
          replace h := Option.some.inj h; subst h
          exact Fin_free (l := [.i 5]) (by kernel_rfl) (by kernel_rfl) rfl
        · replace h := fork_f c5 h
          refine W_skip ?_
          refine Gh_e ⟨⟨36, [(1, .po 0 0)]⟩, [.lv 2 [.i a0.Actuators, .ro (a0.Steps.map cSStep)]]⟩ ?_
          refine W_seq ?_
          refine W_seq ?_
          refine W_gh ?_
          refine W_reg ?_
          refine O_p 1 ?_
          refine O_call (fun v => .i v) h (.inr rfl) (ys := [.agg (cSSequence a0)]) (fun _ e => p68 _ _ e) (by kernel_rfl) (by kernel_rfl) (bels_cons (okSSequence.bel _) rfl) (fun v6 e_v6 h => ?_)
          refine O_p 1 ?_
          refine O_nil ?_
          refine Gh_e ⟨⟨36, [(1, .po 0 0), (3, .i v6)]⟩, [.lv 2 [.i a0.Actuators, .ro (a0.Steps.map cSStep)]]⟩ ?_
          refine W_seq ?_
          refine W_gh ?_
          refine W_reg ?_
          refine O_p 2 ?_
          refine O_nil ?_
          refine Gh_e ⟨⟨36, [(1, .po 0 0), (3, .i v6), (24, .bool (v6 != 0))]⟩, [.lv 2 [.i a0.Actuators, .ro (a0.Steps.map cSStep)]]⟩ ?_
          refine W_gh ?_
          refine W_cond (c := (v6 != 0)) (by kernel_rfl) (fun c7 => ?_) (fun c7 => ?_)
          · replace h := fork_t c7 h
            refine W_seq ?_
            refine W_gh ?_
            refine W_reg ?_
            refine O_p 2 ?_
            refine O_nil ?_
            refine Gh_e ⟨⟨36, [(1, .po 0 0), (2, .i v6), (24, .bool (v6 != 0))]⟩, [.lv 2 [.i a0.Actuators, .ro (a0.Steps.map cSStep)]]⟩ ?_
            refine W_ret ?_
            replace h := Option.some.inj h; subst h
            exact Fin_free (l := [.i v6]) (by kernel_rfl) (by kernel_rfl) rfl
          · replace h := fork_f c7 h
            refine W_skip ?_
            refine Gh_e ⟨⟨36, [(1, .po 0 0)]⟩, [.lv 2 [.i a0.Actuators, .ro (a0.Steps.map cSStep)]]⟩ ?_
            refine W_seq ?_
            refine W_seq ?_
            refine W_reg ?_
            refine O_p 1 ?_
            refine O_nil ?_
            refine W_loop (fun s8 : Int => ⟨⟨36, [(1, .po 0 0), (4, .i s8)]⟩, [.lv 2 [.i a0.Actuators, .ro (a0.Steps.map cSStep)]]⟩) (fun w9 : Unit => ⟨⟨36, []⟩, [.lv 2 [.i a0.Actuators, .ro (a0.Steps.map cSStep)]]⟩) h (by kernel_rfl) (fun s8 c h => ?_) (fun w9 h => ?_)
            · refine W_gh ?_
              refine W_seq ?_
              refine W_seq ?_
              refine W_gh ?_
              refine W_reg ?_
              refine O_p 4 ?_
              refine O_nil ?_
              refine Gh_e ⟨⟨36, [(1, .po 0 0), (4, .i s8), (29, .bool (decide (s8 < a0.Actuators)))]⟩, [.lv 2 [.i a0.Actuators, .ro (a0.Steps.map cSStep)]]⟩ ?_
              refine W_gh ?_
              refine W_cond (c := (decide (s8 < a0.Actuators))) (by kernel_rfl) (fun c10 => ?_) (fun c10 => ?_)
              · replace h := fork_t c10 h
                refine W_skip ?_
                refine Gh_e ⟨⟨36, [(1, .po 0 0), (4, .i s8)]⟩, [.lv 2 [.i a0.Actuators, .ro (a0.Steps.map cSStep)]]⟩ ?_
                refine W_seq ?_
                refine W_gh ?_
                refine W_block ?_
                refine W_seq ?_
                refine W_gh ?_
                refine W_reg ?_
                refine O_p 2 ?_
                refine O_call (fun v => .bool v) h (.inr rfl) (ys := [.agg (cSSequence a0), .i s8]) (fun _ e => p69 _ _ _ e) (by kernel_rfl) (by kernel_rfl) (bels_cons (okSSequence.bel _) (bels_cons rfl rfl)) (fun v11 e_v11 h => ?_)
                refine O_p 1 ?_
                refine O_nil ?_
                refine Gh_e ⟨⟨36, [(1, .po 0 0), (4, .i s8), (35, .bool (!v11))]⟩, [.lv 2 [.i a0.Actuators, .ro (a0.Steps.map cSStep)]]⟩ ?_
                refine W_gh ?_
                refine W_cond (c := (!v11)) (by kernel_rfl) (fun c12 => ?_) (fun c12 => ?_)
                · replace h := fork_t c12 h
                  refine W_seq ?_
                  refine W_reg ?_
                  refine O_p 1 ?_
                  refine O_nil ?_
                  refine W_ret ?_
                  replace h := Option.some.inj h; subst h
                  refine ⟨_, rfl, fun h => ?_⟩
                  replace h := Option.some.inj h; subst h
                  exact Fin_free (l := [.i 13]) (by kernel_rfl) (by kernel_rfl) rfl
                · replace h := fork_f c12 h
                  refine W_skip ?_
                  refine Gh_e ⟨⟨36, [(1, .po 0 0), (4, .i s8)]⟩, [.lv 2 [.i a0.Actuators, .ro (a0.Steps.map cSStep)]]⟩ ?_
                  refine Gh_e ⟨⟨36, [(1, .po 0 0), (4, .i s8)]⟩, [.lv 2 [.i a0.Actuators, .ro (a0.Steps.map cSStep)]]⟩ ?_
                  refine W_gh ?_
                  refine W_reg ?_
                  refine O_p 3 ?_
                  refine O_nil ?_
                  refine Gh_e ⟨⟨36, [(1, .po 0 0), (4, .i (addI .i64 s8 1))]⟩, [.lv 2 [.i a0.Actuators, .ro (a0.Steps.map cSStep)]]⟩ ?_
                  refine Gh_e ⟨⟨36, [(1, .po 0 0), (4, .i (addI .i64 s8 1))]⟩, [.lv 2 [.i a0.Actuators, .ro (a0.Steps.map cSStep)]]⟩ ?_
                  replace h := Option.some.inj h; subst h
                  exact ⟨_, rfl, by kernel_rfl⟩
              · replace h := fork_f c10 h
                refine W_exit ?_
                refine X_hit ?_
                refine Gh_e ⟨⟨36, []⟩, [.lv 2 [.i a0.Actuators, .ro (a0.Steps.map cSStep)]]⟩ ?_
                replace h := Option.some.inj h; subst h
                exact ⟨_, rfl, by kernel_rfl⟩
            · refine W_seq ?_
              refine W_reg ?_
              refine O_p 1 ?_
              refine O_nil ?_
              refine W_ret ?_
              replace h := Option.some.inj h; subst h
              exact Fin_free (l := [.i 0]) (by kernel_rfl) (by kernel_rfl) rfl

theorem p11 (a0 : SSequence) (a1 : SPlant) (r : Bool) (h : m11 a0 a1 = some r) : Pt E0 hp 11 [.agg (cSSequence a0), .agg (cSPlant a1)] (.bool r) := by
  unfold m11 at h
  refine Pt_W (fn11) rfl (by decide) ?_
  refine W_seq ?_
  refine W_gh ?_
  refine W_reg ?_
  refine O_p 3 ?_
  refine O_nil ?_
  refine Gh_e ⟨⟨24, [(2, .po 0 0), (3, .po 1 0)]⟩, [.lv 2 [.i a0.Actuators, .ro (a0.Steps.map cSStep)], .lv 1 [.ro (a1.Travels.map cSTravel)]]⟩ ?_
  refine W_seq ?_
  refine W_joinS (fun v : Bool => ⟨⟨24, [(4, .bool v)]⟩, [.lv 2 [.i a0.Actuators, .ro (a0.Steps.map cSStep)], .lv 1 [.ro (a1.Travels.map cSTravel)]]⟩) h (fun w h => ?_) (fun w1 e_w1 h => ?_)
  · refine W_gh ?_
    refine W_reg ?_
    refine O_p 1 ?_
    refine O_call (fun v => .bool v) h (.inr rfl) (ys := [.agg (cSSequence a0)]) (fun _ e => p43 _ _ e) (by kernel_rfl) (by kernel_rfl) (bels_cons (okSSequence.bel _) rfl) (fun v2 e_v2 h => ?_)
    refine O_p 1 ?_
    refine O_fork (n := 7) v2 (by kernel_rfl) (fun c3 => ?_) (fun c3 => ?_)
    · replace h := fork_t c3 h
      refine O_p 2 ?_
      refine O_len (l := a1.Travels) cSTravel (by kernel_rfl) (by kernel_rfl) ?_
      refine O_p 3 ?_
      refine O_fork (n := 13) (decide ((a1.Travels.length : Int) ≤ 20)) (by kernel_rfl) (fun c4 => ?_) (fun c4 => ?_)
      · replace h := fork_t c4 h
        refine O_p 2 ?_
        refine O_len (l := a0.Steps) cSStep (by kernel_rfl) (by kernel_rfl) ?_
        refine O_p 2 ?_
        refine O_fork (n := 18) (decide ((a0.Steps.length : Int) ≤ 12)) (by kernel_rfl) (fun c5 => ?_) (fun c5 => ?_)
        · replace h := fork_t c5 h
          refine O_p 6 ?_
          refine O_nil ?_
          refine Gh_e ⟨⟨24, [(4, .bool true)]⟩, [.lv 2 [.i a0.Actuators, .ro (a0.Steps.map cSStep)], .lv 1 [.ro (a1.Travels.map cSTravel)]]⟩ ?_
          replace h := Option.some.inj h; subst h
          show _ = _
          kernel_rfl
        · replace h := fork_f c5 h
          refine O_p 1 ?_
          refine O_call (fun v => .i v) h (.inr rfl) (ys := [.agg (cSSequence a0)]) (fun _ e => p42 _ _ e) (by kernel_rfl) (by kernel_rfl) (bels_cons (okSSequence.bel _) rfl) (fun v6 e_v6 h => ?_)
          refine O_p 4 ?_
          refine O_nil ?_
          refine Gh_e ⟨⟨24, [(4, .bool (v6 != 0))]⟩, [.lv 2 [.i a0.Actuators, .ro (a0.Steps.map cSStep)], .lv 1 [.ro (a1.Travels.map cSTravel)]]⟩ ?_
          replace h := Option.some.inj h; subst h
          show _ = _
          kernel_rfl
      · replace h := fork_f c4 h
        refine O_p 11 ?_
        refine O_nil ?_
        refine Gh_e ⟨⟨24, [(4, .bool false)]⟩, [.lv 2 [.i a0.Actuators, .ro (a0.Steps.map cSStep)], .lv 1 [.ro (a1.Travels.map cSTravel)]]⟩ ?_
        replace h := Option.some.inj h; subst h
        show _ = _
        kernel_rfl
    · replace h := fork_f c3 h
      refine O_p 17 ?_
      refine O_nil ?_
      refine Gh_e ⟨⟨24, [(4, .bool false)]⟩, [.lv 2 [.i a0.Actuators, .ro (a0.Steps.map cSStep)], .lv 1 [.ro (a1.Travels.map cSTravel)]]⟩ ?_
      replace h := Option.some.inj h; subst h
      show _ = _
      kernel_rfl
  · refine W_ret ?_
    replace h := Option.some.inj h; subst h
    exact Fin_free (l := [.bool w1]) (by kernel_rfl) (by kernel_rfl) rfl

theorem p51 (a0 : SSpan) (r : Int) (h : m51 a0 = some r) : Pt E0 hp 51 [.agg (cSSpan a0)] (.i r) := by
  unfold m51 at h
  refine Pt_W (fn51) rfl (by decide) ?_
  refine W_seq ?_
  refine W_gh ?_
  refine W_reg ?_
  refine O_p 2 ?_
  refine O_nil ?_
  refine Gh_e ⟨⟨18, [(1, .po 0 0)]⟩, [.lv 2 [.i a0.Low, .i a0.High]]⟩ ?_
  refine W_seq ?_
  refine W_seq ?_
  refine W_joinS (fun v : Bool => ⟨⟨18, [(1, .po 0 0), (12, .bool v)]⟩, [.lv 2 [.i a0.Low, .i a0.High]]⟩) h (fun w h => ?_) (fun w1 e_w1 h => ?_)
  · refine W_gh ?_
    refine W_reg ?_
    refine O_p 2 ?_
    refine O_call (fun v => .bool v) h (.inr rfl) (ys := [.i a0.Low]) (fun _ e => p74 _ _ e) (by kernel_rfl) (by kernel_rfl) (bels_cons rfl rfl) (fun v2 e_v2 h => ?_)
    refine O_p 2 ?_
    refine O_fork (n := 7) (!v2) (by kernel_rfl) (fun c3 => ?_) (fun c3 => ?_)
    · replace h := fork_t c3 h
      refine O_p 5 ?_
      refine O_nil ?_
      refine Gh_e ⟨⟨18, [(1, .po 0 0), (12, .bool true)]⟩, [.lv 2 [.i a0.Low, .i a0.High]]⟩ ?_
      replace h := Option.some.inj h; subst h
      show _ = _
      kernel_rfl
    · replace h := fork_f c3 h
      refine O_p 2 ?_
      refine O_call (fun v => .bool v) h (.inr rfl) (ys := [.i a0.High]) (fun _ e => p74 _ _ e) (by kernel_rfl) (by kernel_rfl) (bels_cons rfl rfl) (fun v4 e_v4 h => ?_)
      refine O_p 2 ?_
      refine O_nil ?_
      refine Gh_e ⟨⟨18, [(1, .po 0 0), (12, .bool (!v4))]⟩, [.lv 2 [.i a0.Low, .i a0.High]]⟩ ?_
      replace h := Option.some.inj h; subst h
      show _ = _
      kernel_rfl
  · refine W_gh ?_
    refine W_cond (c := w1) (by kernel_rfl) (fun c5 => ?_) (fun c5 => ?_)
    · replace h := fork_t c5 h
      refine W_seq ?_
      refine W_reg ?_
      refine O_p 1 ?_
      refine O_nil ?_
      refine W_ret ?_
      replace h := Option.some.inj h; subst h
      exact Fin_free (l := [.i 2]) (by kernel_rfl) (by kernel_rfl) rfl
    · replace h := fork_f c5 h
      refine W_skip ?_
      refine Gh_e ⟨⟨18, [(1, .po 0 0)]⟩, [.lv 2 [.i a0.Low, .i a0.High]]⟩ ?_
      refine W_seq ?_
      refine W_seq ?_
      refine W_gh ?_
      refine W_reg ?_
      refine O_p 5 ?_
      refine O_nil ?_
      refine Gh_e ⟨⟨18, [(17, .bool (decide (a0.Low > a0.High)))]⟩, [.lv 2 [.i a0.Low, .i a0.High]]⟩ ?_
      refine W_gh ?_
      refine W_cond (c := (decide (a0.Low > a0.High))) (by kernel_rfl) (fun c6 => ?_) (fun c6 => ?_)
      · replace h := fork_t c6 h
        refine W_seq ?_
        refine W_reg ?_
        refine O_p 1 ?_
        refine O_nil ?_
        refine W_ret ?_
        replace h := Option.some.inj h; subst h
        exact Fin_free (l := [.i 9]) (by kernel_rfl) (by kernel_rfl) rfl
      · replace h := fork_f c6 h
        refine W_skip ?_
        refine Gh_e ⟨⟨18, []⟩, [.lv 2 [.i a0.Low, .i a0.High]]⟩ ?_
        refine W_seq ?_
        refine W_reg ?_
        refine O_p 1 ?_
        refine O_nil ?_
        refine W_ret ?_
        replace h := Option.some.inj h; subst h
        exact Fin_free (l := [.i 0]) (by kernel_rfl) (by kernel_rfl) rfl

theorem p71 (a0 : Int) (r : SSpan) (h : m71 a0 = some r) : Pt E0 hp 71 [.i a0] (.agg [.i r.Low, .i r.High]) := by
  unfold m71 at h
  refine Pt_W (fn71) rfl (by decide) ?_
  refine W_seq ?_
  refine W_reg ?_
  refine O_p 1 ?_
  refine O_nil ?_
  refine W_seq ?_
  refine W_gh ?_
  refine W_reg ?_
  refine O_p 4 ?_
  refine O_nil ?_
  refine Gh_e ⟨⟨6, [(2, .po 0 0)]⟩, [.lv 2 [.i a0, .i a0]]⟩ ?_
  refine W_ret ?_
  replace h := Option.some.inj h; subst h
  exact Fin_free (l := [.agg [.i a0, .i a0]]) (by kernel_rfl) (by kernel_rfl) rfl

theorem p60 (a0 : SPlant) (a1 : SStroke) (r : SSpan) (h : m60 a0 a1 = some r) : Pt E0 hp 60 [.agg (cSPlant a0), .agg (cSStroke a1)] (.agg [.i r.Low, .i r.High]) := by
  unfold m60 at h
  refine Pt_W (fn60) rfl (by decide) ?_
  refine W_seq ?_
  refine W_gh ?_
  refine W_reg ?_
  refine O_p 3 ?_
  refine O_nil ?_
  refine Gh_e ⟨⟨21, [(2, .po 0 0), (3, .po 1 0), (4, .po 2 0)]⟩, [.lv 1 [.ro (a0.Travels.map cSTravel)], .lv 2 [.i a1.Actuator, .bool a1.Out], .lv 2 [.i 0, .i 0]]⟩ ?_
  refine W_seq ?_
  refine W_seq ?_
  refine W_gh ?_
  refine W_reg ?_
  refine O_p 2 ?_
  refine O_nil ?_
  refine Gh_e ⟨⟨21, [(2, .po 0 0), (3, .po 1 0), (4, .po 2 0), (6, .bool a1.Out)]⟩, [.lv 1 [.ro (a0.Travels.map cSTravel)], .lv 2 [.i a1.Actuator, .bool a1.Out], .lv 2 [.i 0, .i 0]]⟩ ?_
  refine W_gh ?_
  refine W_cond (c := a1.Out) (by kernel_rfl) (fun c1 => ?_) (fun c1 => ?_)
  · replace h := fork_t c1 h
    refine W_seq ?_
    refine W_gh ?_
    refine W_reg ?_
    refine O_p 4 ?_
    refine O_idx (kd := .i64) cSTravel h (fun _ => rfl) (by kernel_rfl) (by kernel_rfl) (by kernel_rfl) (fun v2 e_v2 h => ?_)
    refine O_p 3 ?_
    refine O_nil ?_
    refine Gh_e ⟨⟨21, [(4, .po 2 0), (6, .bool a1.Out)]⟩, [.lv 1 [.ro (a0.Travels.map cSTravel)], .lv 2 [.i a1.Actuator, .bool a1.Out], .lv 2 [.i v2.Out.Low, .i v2.Out.High]]⟩ ?_
    refine W_ret ?_
    replace h := Option.some.inj h; subst h
    exact Fin_free (l := [.agg [.i v2.Out.Low, .i v2.Out.High]]) (by kernel_rfl) (by kernel_rfl) rfl
  · replace h := fork_f c1 h
    refine W_skip ?_
    refine Gh_e ⟨⟨21, [(2, .po 0 0), (3, .po 1 0), (4, .po 2 0)]⟩, [.lv 1 [.ro (a0.Travels.map cSTravel)], .lv 2 [.i a1.Actuator, .bool a1.Out], .lv 2 [.i 0, .i 0]]⟩ ?_
    refine W_seq ?_
    refine W_gh ?_
    refine W_reg ?_
    refine O_p 4 ?_
    refine O_idx (kd := .i64) cSTravel h (fun _ => rfl) (by kernel_rfl) (by kernel_rfl) (by kernel_rfl) (fun v3 e_v3 h => ?_)
    refine O_p 3 ?_
    refine O_nil ?_
    refine Gh_e ⟨⟨21, [(4, .po 2 0)]⟩, [.lv 1 [.ro (a0.Travels.map cSTravel)], .lv 2 [.i a1.Actuator, .bool a1.Out], .lv 2 [.i v3.In.Low, .i v3.In.High]]⟩ ?_
    refine W_ret ?_
    replace h := Option.some.inj h; subst h
    exact Fin_free (l := [.agg [.i v3.In.Low, .i v3.In.High]]) (by kernel_rfl) (by kernel_rfl) rfl

theorem p59 (a0 : SSpan) (a1 : SSpan) (r : SSpan) (h : m59 a0 a1 = some r) : Pt E0 hp 59 [.agg (cSSpan a0), .agg (cSSpan a1)] (.agg [.i r.Low, .i r.High]) := by
  unfold m59 at h
  refine Pt_W (fn59) rfl (by decide) ?_
  refine W_seq ?_
  refine W_gh ?_
  refine W_reg ?_
  refine O_p 3 ?_
  refine O_nil ?_
  refine Gh_e ⟨⟨16, [(2, .po 0 0), (3, .po 1 0), (4, .po 2 0)]⟩, [.lv 2 [.i a0.Low, .i a0.High], .lv 2 [.i a1.Low, .i a1.High], .lv 2 [.i 0, .i 0]]⟩ ?_
  refine W_seq ?_
  refine W_gh ?_
  refine W_reg ?_
  refine O_p 12 ?_
  refine O_nil ?_
  refine Gh_e ⟨⟨16, [(4, .po 2 0)]⟩, [.lv 2 [.i a0.Low, .i a0.High], .lv 2 [.i a1.Low, .i a1.High], .lv 2 [.i (addI .i64 a0.Low a1.Low), .i (addI .i64 a0.High a1.High)]]⟩ ?_
  refine W_ret ?_
  replace h := Option.some.inj h; subst h
  exact Fin_free (l := [.agg [.i (addI .i64 a0.Low a1.Low), .i (addI .i64 a0.High a1.High)]]) (by kernel_rfl) (by kernel_rfl) rfl

theorem p72 (a0 : SSpan) (a1 : SSpan) (r : SSpan) (h : m72 a0 a1 = some r) : Pt E0 hp 72 [.agg (cSSpan a0), .agg (cSSpan a1)] (.agg [.i r.Low, .i r.High]) := by
  unfold m72 at h
  refine Pt_W (fn72) rfl (by decide) ?_
  refine W_seq ?_
  refine W_gh ?_
  refine W_reg ?_
  refine O_p 3 ?_
  refine O_nil ?_
  refine Gh_e ⟨⟨16, [(2, .po 0 0), (3, .po 1 0), (4, .po 2 0)]⟩, [.lv 2 [.i a0.Low, .i a0.High], .lv 2 [.i a1.Low, .i a1.High], .lv 2 [.i 0, .i 0]]⟩ ?_
  refine W_seq ?_
  refine W_gh ?_
  refine W_reg ?_
  refine O_p 12 ?_
  refine O_nil ?_
  refine Gh_e ⟨⟨16, [(4, .po 2 0)]⟩, [.lv 2 [.i a0.Low, .i a0.High], .lv 2 [.i a1.Low, .i a1.High], .lv 2 [.i (maxI a0.Low a1.Low), .i (maxI a0.High a1.High)]]⟩ ?_
  refine W_ret ?_
  replace h := Option.some.inj h; subst h
  exact Fin_free (l := [.agg [.i (maxI a0.Low a1.Low), .i (maxI a0.High a1.High)]]) (by kernel_rfl) (by kernel_rfl) rfl

theorem p47 (a0 : SSequence) (a1 : SPlant) (r : (List SSlot)) (h : m47 a0 a1 = some r) : Pt E0 hp 47 [.agg (cSSequence a0), .agg (cSPlant a1)] (.ro (r.map cSSlot)) := by
  unfold m47 at h
  refine Pt_W (fn47) rfl (by decide) ?_
  refine W_seq ?_
  refine W_gh ?_
  refine W_reg ?_
  refine O_p 3 ?_
  refine O_nil ?_
  refine Gh_e ⟨⟨58, [(2, .po 0 0), (3, .po 1 0)]⟩, [.lv 2 [.i a0.Actuators, .ro (a0.Steps.map cSStep)], .lv 1 [.ro (a1.Travels.map cSTravel)]]⟩ ?_
  refine W_seq ?_
  refine W_gh ?_
  refine W_reg ?_
  refine O_p 1 ?_
  refine O_nil ?_
  refine Gh_e ⟨⟨58, [(2, .po 0 0), (3, .po 1 0), (5, .own 2 0 0 0)]⟩, [.lv 2 [.i a0.Actuators, .ro (a0.Steps.map cSStep)], .lv 1 [.ro (a1.Travels.map cSTravel)], .live .nil 6 (([] : List SSlot).map cSSlot)]⟩ ?_
  refine W_seq ?_
  refine W_gh ?_
  refine W_reg ?_
  refine O_call (fun v => .agg [.i v.Low, .i v.High]) h (.inr rfl) (ys := [.i 0]) (fun _ e => p71 _ _ e) (by kernel_rfl) (by kernel_rfl) (bels_cons rfl rfl) (fun v1 e_v1 h => ?_)
  refine O_p 2 ?_
  refine O_nil ?_
  refine Gh_e ⟨⟨58, [(2, .po 0 0), (3, .po 1 0), (5, .own 2 0 0 0), (6, .po 3 0)]⟩, [.lv 2 [.i a0.Actuators, .ro (a0.Steps.map cSStep)], .lv 1 [.ro (a1.Travels.map cSTravel)], .live .nil 6 (([] : List SSlot).map cSSlot), .lv 2 [.i v1.Low, .i v1.High]]⟩ ?_
  refine W_seq ?_
  refine W_seq ?_
  refine W_reg ?_
  refine O_p 1 ?_
  refine O_nil ?_
  refine W_loopS (fun s2 : (List SSlot) × Int × Int × Int => ⟨⟨58, [(2, .po 0 0), (3, .po 1 0), (5, .own 2 s2.1.length 0 s2.1.length), (6, .po 3 0), (7, .i s2.2.2.2)]⟩, [.lv 2 [.i a0.Actuators, .ro (a0.Steps.map cSStep)], .lv 1 [.ro (a1.Travels.map cSTravel)], .live .nil 6 (s2.1.map cSSlot), .lv 2 [.i s2.2.1, .i s2.2.2.1]]⟩) (fun w3 : (List SSlot) × Int × Int => ⟨⟨58, [(5, .own 2 w3.1.length 0 w3.1.length)]⟩, [.lv 2 [.i a0.Actuators, .ro (a0.Steps.map cSStep)], .lv 1 [.ro (a1.Travels.map cSTravel)], .live .nil 6 (w3.1.map cSSlot), .lv 2 [.i w3.2.1, .i w3.2.2]]⟩) h (by kernel_rfl) (fun s2 c h => ?_) (fun w3 e_w3 h => ?_)
  · refine W_gh ?_
    refine W_seq ?_
    refine W_seq ?_
    refine W_gh ?_
    refine W_reg ?_
    refine O_p 3 ?_
    refine O_len (l := a0.Steps) cSStep (by kernel_rfl) (by kernel_rfl) ?_
    refine O_p 1 ?_
    refine O_nil ?_
    refine Gh_e ⟨⟨58, [(2, .po 0 0), (3, .po 1 0), (5, .own 2 s2.1.length 0 s2.1.length), (6, .po 3 0), (7, .i s2.2.2.2), (17, .bool (decide (s2.2.2.2 < (a0.Steps.length : Int))))]⟩, [.lv 2 [.i a0.Actuators, .ro (a0.Steps.map cSStep)], .lv 1 [.ro (a1.Travels.map cSTravel)], .live .nil 6 (s2.1.map cSSlot), .lv 2 [.i s2.2.1, .i s2.2.2.1]]⟩ ?_
    refine W_gh ?_
    refine W_cond (c := (decide (s2.2.2.2 < (a0.Steps.length : Int)))) (by kernel_rfl) (fun c4 => ?_) (fun c4 => ?_)
    · replace h := fork_t c4 h
      refine W_skip ?_
      refine Gh_e ⟨⟨58, [(2, .po 0 0), (3, .po 1 0), (5, .own 2 s2.1.length 0 s2.1.length), (6, .po 3 0), (7, .i s2.2.2.2)]⟩, [.lv 2 [.i a0.Actuators, .ro (a0.Steps.map cSStep)], .lv 1 [.ro (a1.Travels.map cSTravel)], .live .nil 6 (s2.1.map cSSlot), .lv 2 [.i s2.2.1, .i s2.2.2.1]]⟩ ?_
      refine W_seq ?_
      refine W_gh ?_
      refine W_block ?_
      refine W_seq ?_
      refine W_gh ?_
      refine W_reg ?_
      refine O_p 3 ?_
      refine O_idx (kd := .i64) cSStep h (fun _ => rfl) (by kernel_rfl) (by kernel_rfl) (by kernel_rfl) (fun v5 e_v5 h => ?_)
      refine O_p 3 ?_
      refine O_nil ?_
      refine Gh_e ⟨⟨58, [(2, .po 0 0), (3, .po 1 0), (5, .own 2 s2.1.length 0 s2.1.length), (6, .po 3 0), (7, .i s2.2.2.2), (8, .po 4 0)]⟩, [.lv 2 [.i a0.Actuators, .ro (a0.Steps.map cSStep)], .lv 1 [.ro (a1.Travels.map cSTravel)], .live .nil 6 (s2.1.map cSSlot), .lv 2 [.i s2.2.1, .i s2.2.2.1], .lv 2 [.ro (v5.Strokes.map cSStroke), .i v5.Wait]]⟩ ?_
      refine W_seq ?_
      refine W_gh ?_
      refine W_reg ?_
      refine O_p 3 ?_
      refine O_nil ?_
      refine Gh_e ⟨⟨58, [(2, .po 0 0), (3, .po 1 0), (5, .own 2 s2.1.length 0 s2.1.length), (6, .po 3 0), (7, .i s2.2.2.2), (8, .po 4 0), (9, .po 5 0)]⟩, [.lv 2 [.i a0.Actuators, .ro (a0.Steps.map cSStep)], .lv 1 [.ro (a1.Travels.map cSTravel)], .live .nil 6 (s2.1.map cSSlot), .lv 2 [.i s2.2.1, .i s2.2.2.1], .lv 2 [.ro (v5.Strokes.map cSStroke), .i v5.Wait], .lv 2 [.i s2.2.1, .i s2.2.2.1]]⟩ ?_
      refine W_seq ?_
      refine W_seq ?_
      refine W_reg ?_
      refine O_p 1 ?_
      refine O_nil ?_
      refine W_loopS (fun s6 : Int × Int × Int => ⟨⟨58, [(2, .po 0 0), (3, .po 1 0), (5, .own 2 s2.1.length 0 s2.1.length), (6, .po 3 0), (7, .i s2.2.2.2), (8, .po 4 0), (9, .po 5 0), (10, .i s6.2.2)]⟩, [.lv 2 [.i a0.Actuators, .ro (a0.Steps.map cSStep)], .lv 1 [.ro (a1.Travels.map cSTravel)], .live .nil 6 (s2.1.map cSSlot), .lv 2 [.i s2.2.1, .i s2.2.2.1], .lv 2 [.ro (v5.Strokes.map cSStroke), .i v5.Wait], .lv 2 [.i s6.1, .i s6.2.1]]⟩) (fun w7 : Int × Int => ⟨⟨58, [(2, .po 0 0), (3, .po 1 0), (5, .own 2 s2.1.length 0 s2.1.length), (6, .po 3 0), (7, .i s2.2.2.2), (8, .po 4 0), (9, .po 5 0)]⟩, [.lv 2 [.i a0.Actuators, .ro (a0.Steps.map cSStep)], .lv 1 [.ro (a1.Travels.map cSTravel)], .live .nil 6 (s2.1.map cSSlot), .lv 2 [.i s2.2.1, .i s2.2.2.1], .lv 2 [.ro (v5.Strokes.map cSStroke), .i v5.Wait], .lv 2 [.i w7.1, .i w7.2]]⟩) h (by kernel_rfl) (fun s6 c h => ?_) (fun w7 e_w7 h => ?_)
      · refine W_gh ?_
        refine W_seq ?_
        refine W_seq ?_
        refine W_gh ?_
        refine W_reg ?_
        refine O_p 3 ?_
        refine O_len (l := v5.Strokes) cSStroke (by kernel_rfl) (by kernel_rfl) ?_
        refine O_p 1 ?_
        refine O_nil ?_
        refine Gh_e ⟨⟨58, [(2, .po 0 0), (3, .po 1 0), (5, .own 2 s2.1.length 0 s2.1.length), (6, .po 3 0), (7, .i s2.2.2.2), (8, .po 4 0), (9, .po 5 0), (10, .i s6.2.2), (30, .bool (decide (s6.2.2 < (v5.Strokes.length : Int))))]⟩, [.lv 2 [.i a0.Actuators, .ro (a0.Steps.map cSStep)], .lv 1 [.ro (a1.Travels.map cSTravel)], .live .nil 6 (s2.1.map cSSlot), .lv 2 [.i s2.2.1, .i s2.2.2.1], .lv 2 [.ro (v5.Strokes.map cSStroke), .i v5.Wait], .lv 2 [.i s6.1, .i s6.2.1]]⟩ ?_
        refine W_gh ?_
        refine W_cond (c := (decide (s6.2.2 < (v5.Strokes.length : Int)))) (by kernel_rfl) (fun c8 => ?_) (fun c8 => ?_)
        · replace h := fork_t c8 h
          refine W_skip ?_
          refine Gh_e ⟨⟨58, [(2, .po 0 0), (3, .po 1 0), (5, .own 2 s2.1.length 0 s2.1.length), (6, .po 3 0), (7, .i s2.2.2.2), (8, .po 4 0), (9, .po 5 0), (10, .i s6.2.2)]⟩, [.lv 2 [.i a0.Actuators, .ro (a0.Steps.map cSStep)], .lv 1 [.ro (a1.Travels.map cSTravel)], .live .nil 6 (s2.1.map cSSlot), .lv 2 [.i s2.2.1, .i s2.2.2.1], .lv 2 [.ro (v5.Strokes.map cSStroke), .i v5.Wait], .lv 2 [.i s6.1, .i s6.2.1]]⟩ ?_
          refine W_seq ?_
          refine W_block ?_
          refine W_gh ?_
          refine W_draw ?_
          refine O_p 6 ?_
          refine O_idx (kd := .i64) cSStroke h (fun _ => rfl) (by kernel_rfl) (by kernel_rfl) (by kernel_rfl) (fun v9 e_v9 h => ?_)
          refine O_p 1 ?_
          refine O_call (fun v => .agg [.i v.Low, .i v.High]) h (.inr rfl) (ys := [.agg (cSPlant a1), .agg (cSStroke v9)]) (fun _ e => p60 _ _ _ e) (by kernel_rfl) (by kernel_rfl) (bels_cons (okSPlant.bel _) (bels_cons (okSStroke.bel _) rfl)) (fun v10 e_v10 h => ?_)
          refine O_call (fun v => .agg [.i v.Low, .i v.High]) h (.inr rfl) (ys := [.agg (cSSpan (⟨s2.2.1, s2.2.2.1⟩ : SSpan)), .agg (cSSpan v10)]) (fun _ e => p59 _ _ _ e) (by kernel_rfl) (by kernel_rfl) (bels_cons (okSSpan.bel _) (bels_cons (okSSpan.bel _) rfl)) (fun v11 e_v11 h => ?_)
          refine O_call (fun v => .agg [.i v.Low, .i v.High]) h (.inr rfl) (ys := [.agg (cSSpan (⟨s6.1, s6.2.1⟩ : SSpan)), .agg (cSSpan v11)]) (fun _ e => p72 _ _ _ e) (by kernel_rfl) (by kernel_rfl) (bels_cons (okSSpan.bel _) (bels_cons (okSSpan.bel _) rfl)) (fun v12 e_v12 h => ?_)
          refine O_p 1 ?_
          refine O_nil ?_
          refine Gh_e ⟨⟨58, [(2, .po 0 0), (3, .po 1 0), (5, .own 2 s2.1.length 0 s2.1.length), (6, .po 3 0), (7, .i s2.2.2.2), (8, .po 4 0), (9, .po 5 0), (10, .i s6.2.2)]⟩, [.lv 2 [.i a0.Actuators, .ro (a0.Steps.map cSStep)], .lv 1 [.ro (a1.Travels.map cSTravel)], .live .nil 6 (s2.1.map cSSlot), .lv 2 [.i s2.2.1, .i s2.2.2.1], .lv 2 [.ro (v5.Strokes.map cSStroke), .i v5.Wait], .lv 2 [.i v12.Low, .i v12.High]]⟩ ?_
          refine W_gh ?_
          refine W_reg ?_
          refine O_p 3 ?_
          refine O_nil ?_
          refine Gh_e ⟨⟨58, [(2, .po 0 0), (3, .po 1 0), (5, .own 2 s2.1.length 0 s2.1.length), (6, .po 3 0), (7, .i s2.2.2.2), (8, .po 4 0), (9, .po 5 0), (10, .i (addI .i64 s6.2.2 1))]⟩, [.lv 2 [.i a0.Actuators, .ro (a0.Steps.map cSStep)], .lv 1 [.ro (a1.Travels.map cSTravel)], .live .nil 6 (s2.1.map cSSlot), .lv 2 [.i s2.2.1, .i s2.2.2.1], .lv 2 [.ro (v5.Strokes.map cSStroke), .i v5.Wait], .lv 2 [.i v12.Low, .i v12.High]]⟩ ?_
          refine Gh_e ⟨⟨58, [(2, .po 0 0), (3, .po 1 0), (5, .own 2 s2.1.length 0 s2.1.length), (6, .po 3 0), (7, .i s2.2.2.2), (8, .po 4 0), (9, .po 5 0), (10, .i (addI .i64 s6.2.2 1))]⟩, [.lv 2 [.i a0.Actuators, .ro (a0.Steps.map cSStep)], .lv 1 [.ro (a1.Travels.map cSTravel)], .live .nil 6 (s2.1.map cSSlot), .lv 2 [.i s2.2.1, .i s2.2.2.1], .lv 2 [.ro (v5.Strokes.map cSStroke), .i v5.Wait], .lv 2 [.i v12.Low, .i v12.High]]⟩ ?_
          replace h := Option.some.inj h; subst h
          exact ⟨_, rfl, by kernel_rfl⟩
        · replace h := fork_f c8 h
          refine W_exit ?_
          refine X_hit ?_
          refine Gh_e ⟨⟨58, [(2, .po 0 0), (3, .po 1 0), (5, .own 2 s2.1.length 0 s2.1.length), (6, .po 3 0), (7, .i s2.2.2.2), (8, .po 4 0), (9, .po 5 0)]⟩, [.lv 2 [.i a0.Actuators, .ro (a0.Steps.map cSStep)], .lv 1 [.ro (a1.Travels.map cSTravel)], .live .nil 6 (s2.1.map cSSlot), .lv 2 [.i s2.2.1, .i s2.2.2.1], .lv 2 [.ro (v5.Strokes.map cSStroke), .i v5.Wait], .lv 2 [.i s6.1, .i s6.2.1]]⟩ ?_
          replace h := Option.some.inj h; subst h
          exact ⟨_, rfl, by kernel_rfl⟩
      · refine W_seq ?_
        refine W_gh ?_
        refine W_drawW (L := 6) (by kernel_rfl) ?_
        refine WD_ps 3 (by kernel_rfl) ?_
        refine WD_op rfl (fp_call (ys := [.i v5.Wait]) (by kernel_rfl) (bels_cons rfl rfl)) ?_
        refine O_call (fun v => .agg [.i v.Low, .i v.High]) h (.inr rfl) (ys := [.i v5.Wait]) (fun _ e => p71 _ _ e) (by kernel_rfl) (by kernel_rfl) (bels_cons rfl rfl) (fun v13 e_v13 h => ?_)
        refine O_nil ?_
        refine WD_op rfl (fp_call (ys := [.agg [.i w7.1, .i w7.2], .agg [.i v13.Low, .i v13.High]]) (by kernel_rfl) (bels_cons rfl (bels_cons rfl rfl))) ?_
        refine O_call (fun v => .agg [.i v.Low, .i v.High]) h (.inr rfl) (ys := [.agg (cSSpan (⟨w7.1, w7.2⟩ : SSpan)), .agg (cSSpan v13)]) (fun _ e => p59 _ _ _ e) (by kernel_rfl) (by kernel_rfl) (bels_cons (okSSpan.bel _) (bels_cons (okSSpan.bel _) rfl)) (fun v14 e_v14 h => ?_)
        refine O_nil ?_
        refine WD_ps 2 (by kernel_rfl) ?_
        refine WD_nil ?_
        refine ⟨by kernel_rfl, ?_⟩
        refine Gh_e ⟨⟨58, [(2, .po 0 0), (3, .po 1 0), (5, .own 2 s2.1.length 0 s2.1.length), (6, .po 3 0), (7, .i s2.2.2.2), (9, .po 5 0), (11, .po 6 0)]⟩, [.lv 2 [.i a0.Actuators, .ro (a0.Steps.map cSStep)], .lv 1 [.ro (a1.Travels.map cSTravel)], .live .nil 6 (s2.1.map cSSlot), .lv 2 [.i s2.2.1, .i s2.2.2.1], .lv 2 [.ro (v5.Strokes.map cSStroke), .i v5.Wait], .lv 2 [.i w7.1, .i w7.2], .lv 2 [.i v14.Low, .i v14.High]]⟩ ?_
        refine W_seq ?_
        refine W_gh ?_
        refine W_reg ?_
        refine O_p 6 ?_
        refine O_app (C := cSSlot) (id := 2) (nl := .nil) okSSlot h rfl (by kernel_rfl) (by kernel_rfl) (by kernel_rfl) (by kernel_rfl) rfl (fun l15 e_l15 h => ?_)
        refine O_p 1 ?_
        refine O_nil ?_
        refine Gh_one (s1 := ⟨⟨58, [(2, .po 0 0), (3, .po 1 0), (5, .own 2 l15.length 0 l15.length), (6, .po 3 0), (7, .i s2.2.2.2), (11, .po 6 0)]⟩, [.lv 2 [.i a0.Actuators, .ro (a0.Steps.map cSStep)], .lv 1 [.ro (a1.Travels.map cSTravel)], .live .nil 6 (l15.map cSSlot), .lv 2 [.i s2.2.1, .i s2.2.2.1], .lv 2 [.ro (v5.Strokes.map cSStroke), .i v5.Wait], .lv 2 [.i w7.1, .i w7.2], .lv 2 [.i v14.Low, .i v14.High], .live .norm 6 (([(⟨(⟨s2.2.1, s2.2.2.1⟩ : SSpan), (⟨w7.1, w7.2⟩ : SSpan), v14⟩ : SSlot)] : List SSlot).map cSSlot)]⟩) (by kernel_rfl) ?_
        refine Gh_at (s1 := ⟨⟨58, [(2, .po 0 0), (3, .po 1 0), (5, .own 2 l15.length 0 l15.length), (6, .po 3 0), (7, .i s2.2.2.2), (11, .po 6 0)]⟩, [.lv 2 [.i a0.Actuators, .ro (a0.Steps.map cSStep)], .lv 1 [.ro (a1.Travels.map cSTravel)], .live .nil 6 (l15.map cSSlot), .lv 2 [.i s2.2.1, .i s2.2.2.1], .lv 2 [.ro (v5.Strokes.map cSStroke), .i v5.Wait], .lv 2 [.i w7.1, .i w7.2], .lv 2 [.i v14.Low, .i v14.High], .live .norm 6 (([(⟨(⟨s2.2.1, s2.2.2.1⟩ : SSpan), (⟨w7.1, w7.2⟩ : SSpan), v14⟩ : SSlot)] : List SSlot).map cSSlot)]⟩) (by kernel_rfl) ?_
        refine Gh_trunc (s1 := ⟨⟨58, [(2, .po 0 0), (3, .po 1 0), (5, .own 2 l15.length 0 l15.length), (6, .po 3 0), (7, .i s2.2.2.2), (11, .po 6 0)]⟩, [.lv 2 [.i a0.Actuators, .ro (a0.Steps.map cSStep)], .lv 1 [.ro (a1.Travels.map cSTravel)], .live .nil 6 (l15.map cSSlot), .lv 2 [.i s2.2.1, .i s2.2.2.1], .lv 2 [.ro (v5.Strokes.map cSStroke), .i v5.Wait], .lv 2 [.i w7.1, .i w7.2], .lv 2 [.i v14.Low, .i v14.High]]⟩) (by kernel_rfl) (tb_ref rfl (tb_ref rfl (tb_ref rfl (tb_ref rfl (tb_free rfl (tb_ref rfl rfl)))))) (H1 := [.lv 2 [.i a0.Actuators, .ro (a0.Steps.map cSStep)], .lv 1 [.ro (a1.Travels.map cSTravel)], .live .nil 6 (l15.map cSSlot), .lv 2 [.i s2.2.1, .i s2.2.2.1], .lv 2 [.ro (v5.Strokes.map cSStroke), .i v5.Wait], .lv 2 [.i w7.1, .i w7.2], .lv 2 [.i v14.Low, .i v14.High]]) (by kernel_rfl) (ob_boxn (bn_free rfl (bn_free (ro_bel okSStep.bel _) rfl)) (ob_boxn (bn_free (ro_bel okSTravel.bel _) rfl) (ob_list okSSlot.bel (ob_boxn (bn_free rfl (bn_free rfl rfl)) (ob_boxn (bn_free (ro_bel okSStroke.bel _) (bn_free rfl rfl)) (ob_boxn (bn_free rfl (bn_free rfl rfl)) (ob_boxn (bn_free rfl (bn_free rfl rfl)) rfl))))))) (by kernel_rfl) ?_
        refine Gh_nil ?_
        refine W_gh ?_
        refine W_reg ?_
        refine O_p 2 ?_
        refine O_nil ?_
        refine Gh_e ⟨⟨58, [(2, .po 0 0), (3, .po 1 0), (5, .own 2 l15.length 0 l15.length), (6, .po 3 0), (7, .i s2.2.2.2)]⟩, [.lv 2 [.i a0.Actuators, .ro (a0.Steps.map cSStep)], .lv 1 [.ro (a1.Travels.map cSTravel)], .live .nil 6 (l15.map cSSlot), .lv 2 [.i v14.Low, .i v14.High], .lv 2 [.ro (v5.Strokes.map cSStroke), .i v5.Wait], .lv 2 [.i w7.1, .i w7.2], .lv 2 [.i v14.Low, .i v14.High]]⟩ ?_
        refine Gh_one (s1 := ⟨⟨58, [(2, .po 0 0), (3, .po 1 0), (5, .own 2 l15.length 0 l15.length), (6, .po 3 0), (7, .i s2.2.2.2)]⟩, [.lv 2 [.i a0.Actuators, .ro (a0.Steps.map cSStep)], .lv 1 [.ro (a1.Travels.map cSTravel)], .live .nil 6 (l15.map cSSlot), .lv 2 [.i v14.Low, .i v14.High], .lv 2 [.ro (v5.Strokes.map cSStroke), .i v5.Wait], .lv 2 [.i w7.1, .i w7.2], .lv 2 [.i v14.Low, .i v14.High]]⟩) (by kernel_rfl) ?_
        refine Gh_at (s1 := ⟨⟨58, [(2, .po 0 0), (3, .po 1 0), (5, .own 2 l15.length 0 l15.length), (6, .po 3 0), (7, .i s2.2.2.2)]⟩, [.lv 2 [.i a0.Actuators, .ro (a0.Steps.map cSStep)], .lv 1 [.ro (a1.Travels.map cSTravel)], .live .nil 6 (l15.map cSSlot), .lv 2 [.i v14.Low, .i v14.High], .lv 2 [.ro (v5.Strokes.map cSStroke), .i v5.Wait], .lv 2 [.i w7.1, .i w7.2], .lv 2 [.i v14.Low, .i v14.High]]⟩) (by kernel_rfl) ?_
        refine Gh_trunc (s1 := ⟨⟨58, [(2, .po 0 0), (3, .po 1 0), (5, .own 2 l15.length 0 l15.length), (6, .po 3 0), (7, .i s2.2.2.2)]⟩, [.lv 2 [.i a0.Actuators, .ro (a0.Steps.map cSStep)], .lv 1 [.ro (a1.Travels.map cSTravel)], .live .nil 6 (l15.map cSSlot), .lv 2 [.i v14.Low, .i v14.High]]⟩) (by kernel_rfl) (tb_ref rfl (tb_ref rfl (tb_ref rfl (tb_ref rfl (tb_free rfl rfl))))) (H1 := [.lv 2 [.i a0.Actuators, .ro (a0.Steps.map cSStep)], .lv 1 [.ro (a1.Travels.map cSTravel)], .live .nil 6 (l15.map cSSlot), .lv 2 [.i v14.Low, .i v14.High]]) (by kernel_rfl) (ob_boxn (bn_free rfl (bn_free (ro_bel okSStep.bel _) rfl)) (ob_boxn (bn_free (ro_bel okSTravel.bel _) rfl) (ob_list okSSlot.bel (ob_boxn (bn_free rfl (bn_free rfl rfl)) rfl)))) (by kernel_rfl) ?_
        refine Gh_nil ?_
        refine W_gh ?_
        refine W_reg ?_
        refine O_p 3 ?_
        refine O_nil ?_
        refine Gh_e ⟨⟨58, [(2, .po 0 0), (3, .po 1 0), (5, .own 2 l15.length 0 l15.length), (6, .po 3 0), (7, .i (addI .i64 s2.2.2.2 1))]⟩, [.lv 2 [.i a0.Actuators, .ro (a0.Steps.map cSStep)], .lv 1 [.ro (a1.Travels.map cSTravel)], .live .nil 6 (l15.map cSSlot), .lv 2 [.i v14.Low, .i v14.High]]⟩ ?_
        refine Gh_one (s1 := ⟨⟨58, [(2, .po 0 0), (3, .po 1 0), (5, .own 2 l15.length 0 l15.length), (6, .po 3 0), (7, .i (addI .i64 s2.2.2.2 1))]⟩, [.lv 2 [.i a0.Actuators, .ro (a0.Steps.map cSStep)], .lv 1 [.ro (a1.Travels.map cSTravel)], .live .nil 6 (l15.map cSSlot), .lv 2 [.i v14.Low, .i v14.High]]⟩) (by kernel_rfl) ?_
        refine Gh_trunc0 (by kernel_rfl) ?_
        refine Gh_nil ?_
        replace h := Option.some.inj h; subst h
        exact ⟨_, rfl, by kernel_rfl⟩
    · replace h := fork_f c4 h
      refine W_exit ?_
      refine X_hit ?_
      refine Gh_one (s1 := ⟨⟨58, [(5, .own 2 s2.1.length 0 s2.1.length)]⟩, [.lv 2 [.i a0.Actuators, .ro (a0.Steps.map cSStep)], .lv 1 [.ro (a1.Travels.map cSTravel)], .live .nil 6 (s2.1.map cSSlot), .lv 2 [.i s2.2.1, .i s2.2.2.1]]⟩) (by kernel_rfl) ?_
      refine Gh_trunc0 (by kernel_rfl) ?_
      refine Gh_nil ?_
      replace h := Option.some.inj h; subst h
      exact ⟨_, rfl, by kernel_rfl⟩
  · refine W_seq ?_
    refine W_gh ?_
    refine W_reg ?_
    refine O_p 2 ?_
    refine O_nil ?_
    refine Gh_e ⟨⟨58, [(4, .own 2 w3.1.length 0 w3.1.length)]⟩, [.lv 2 [.i a0.Actuators, .ro (a0.Steps.map cSStep)], .lv 1 [.ro (a1.Travels.map cSTravel)], .live .nil 6 (w3.1.map cSSlot), .lv 2 [.i w3.2.1, .i w3.2.2]]⟩ ?_
    refine W_ret ?_
    replace h := Option.some.inj h; subst h
    exact Fin_pk (l := [.own 2 w3.1.length 0 w3.1.length]) (by kernel_rfl) (pk_own (d := 5) (id := 2) (nl := .nil) (sz := 6) (l := w3.1) okSSlot.bel (by kernel_rfl) rfl)

theorem p49 (a0 : SSequence) (a1 : SPlant) (r : SSpan) (h : m49 a0 a1 = some r) : Pt E0 hp 49 [.agg (cSSequence a0), .agg (cSPlant a1)] (.agg [.i r.Low, .i r.High]) := by
  unfold m49 at h
  refine Pt_W (fn49) rfl (by decide) ?_
  refine W_seq ?_
  refine W_gh ?_
  refine W_reg ?_
  refine O_p 3 ?_
  refine O_nil ?_
  refine Gh_e ⟨⟨15, [(2, .po 0 0), (3, .po 1 0), (4, .po 2 0)]⟩, [.lv 2 [.i a0.Actuators, .ro (a0.Steps.map cSStep)], .lv 1 [.ro (a1.Travels.map cSTravel)], .lv 2 [.i 0, .i 0]]⟩ ?_
  refine W_seq ?_
  refine W_gh ?_
  refine W_draw ?_
  refine O_p 2 ?_
  refine O_call (fun v => .ro (v.map cSSlot)) h (.inr rfl) (ys := [.agg (cSSequence a0), .agg (cSPlant a1)]) (fun _ e => p47 _ _ _ e) (by kernel_rfl) (by kernel_rfl) (bels_cons (okSSequence.bel _) (bels_cons (okSPlant.bel _) rfl)) (fun v1 e_v1 h => ?_)
  refine O_p 2 ?_
  refine O_len (l := a0.Steps) cSStep (by kernel_rfl) (by kernel_rfl) ?_
  refine O_p 1 ?_
  refine O_idx (kd := .i64) cSSlot h (fun _ => rfl) (by kernel_rfl) (by kernel_rfl) (by kernel_rfl) (fun v2 e_v2 h => ?_)
  refine O_p 3 ?_
  refine O_nil ?_
  refine Gh_e ⟨⟨15, [(4, .po 2 0)]⟩, [.lv 2 [.i a0.Actuators, .ro (a0.Steps.map cSStep)], .lv 1 [.ro (a1.Travels.map cSTravel)], .lv 2 [.i v2.End.Low, .i v2.End.High]]⟩ ?_
  refine W_ret ?_
  replace h := Option.some.inj h; subst h
  exact Fin_free (l := [.agg [.i v2.End.Low, .i v2.End.High]]) (by kernel_rfl) (by kernel_rfl) rfl

theorem p18 (a0 : SSequence) (a1 : SPlant) (r : Int) (h : m18 a0 a1 = some r) : Pt E0 hp 18 [.agg (cSSequence a0), .agg (cSPlant a1)] (.i r) := by
  unfold m18 at h
  refine Pt_W (fn18) rfl (by decide) ?_
  refine W_seq ?_
  refine W_gh ?_
  refine W_reg ?_
  refine O_p 3 ?_
  refine O_nil ?_
  refine Gh_e ⟨⟨52, [(2, .po 0 0), (3, .po 1 0)]⟩, [.lv 2 [.i a0.Actuators, .ro (a0.Steps.map cSStep)], .lv 1 [.ro (a1.Travels.map cSTravel)]]⟩ ?_
  refine W_seq ?_
  refine W_seq ?_
  refine W_gh ?_
  refine W_reg ?_
  refine O_p 1 ?_
  refine O_call (fun v => .i v) h (.inr rfl) (ys := [.agg (cSSequence a0)]) (fun _ e => p42 _ _ e) (by kernel_rfl) (by kernel_rfl) (bels_cons (okSSequence.bel _) rfl) (fun v1 e_v1 h => ?_)
  refine O_p 1 ?_
  refine O_nil ?_
  refine Gh_e ⟨⟨52, [(2, .po 0 0), (3, .po 1 0), (5, .i v1)]⟩, [.lv 2 [.i a0.Actuators, .ro (a0.Steps.map cSStep)], .lv 1 [.ro (a1.Travels.map cSTravel)]]⟩ ?_
  refine W_seq ?_
  refine W_gh ?_
  refine W_reg ?_
  refine O_p 2 ?_
  refine O_nil ?_
  refine Gh_e ⟨⟨52, [(2, .po 0 0), (3, .po 1 0), (5, .i v1), (12, .bool (v1 != 0))]⟩, [.lv 2 [.i a0.Actuators, .ro (a0.Steps.map cSStep)], .lv 1 [.ro (a1.Travels.map cSTravel)]]⟩ ?_
  refine W_gh ?_
  refine W_cond (c := (v1 != 0)) (by kernel_rfl) (fun c2 => ?_) (fun c2 => ?_)
  · replace h := fork_t c2 h
    refine W_seq ?_
    refine W_gh ?_
    refine W_reg ?_
    refine O_p 2 ?_
    refine O_nil ?_
    refine Gh_e ⟨⟨52, [(2, .po 0 0), (3, .po 1 0), (4, .i v1), (12, .bool (v1 != 0))]⟩, [.lv 2 [.i a0.Actuators, .ro (a0.Steps.map cSStep)], .lv 1 [.ro (a1.Travels.map cSTravel)]]⟩ ?_
    refine W_ret ?_
    replace h := Option.some.inj h; subst h
    exact Fin_free (l := [.i v1]) (by kernel_rfl) (by kernel_rfl) rfl
  · replace h := fork_f c2 h
    refine W_skip ?_
    refine Gh_e ⟨⟨52, [(2, .po 0 0), (3, .po 1 0)]⟩, [.lv 2 [.i a0.Actuators, .ro (a0.Steps.map cSStep)], .lv 1 [.ro (a1.Travels.map cSTravel)]]⟩ ?_
    refine W_seq ?_
    refine W_seq ?_
    refine W_gh ?_
    refine W_reg ?_
    refine O_p 2 ?_
    refine O_len (l := a1.Travels) cSTravel (by kernel_rfl) (by kernel_rfl) ?_
    refine O_p 3 ?_
    refine O_nil ?_
    refine Gh_e ⟨⟨52, [(2, .po 0 0), (3, .po 1 0), (19, .bool ((a1.Travels.length : Int) != a0.Actuators))]⟩, [.lv 2 [.i a0.Actuators, .ro (a0.Steps.map cSStep)], .lv 1 [.ro (a1.Travels.map cSTravel)]]⟩ ?_
    refine W_gh ?_
    refine W_cond (c := ((a1.Travels.length : Int) != a0.Actuators)) (by kernel_rfl) (fun c3 => ?_) (fun c3 => ?_)
    · replace h := fork_t c3 h
      refine W_seq ?_
      refine W_reg ?_
      refine O_p 1 ?_
      refine O_nil ?_
      refine W_ret ?_
      replace h := Option.some.inj h; subst h
      exact Fin_free (l := [.i 8]) (by kernel_rfl) (by kernel_rfl) rfl
    · replace h := fork_f c3 h
      refine W_skip ?_
      refine Gh_e ⟨⟨52, [(2, .po 0 0), (3, .po 1 0)]⟩, [.lv 2 [.i a0.Actuators, .ro (a0.Steps.map cSStep)], .lv 1 [.ro (a1.Travels.map cSTravel)]]⟩ ?_
      refine W_seq ?_
      refine W_seq ?_
      refine W_reg ?_
      refine O_p 1 ?_
      refine O_nil ?_
      refine W_loop (fun s4 : Int => ⟨⟨52, [(2, .po 0 0), (3, .po 1 0), (6, .i s4)]⟩, [.lv 2 [.i a0.Actuators, .ro (a0.Steps.map cSStep)], .lv 1 [.ro (a1.Travels.map cSTravel)]]⟩) (fun w5 : Unit => ⟨⟨52, [(2, .po 0 0), (3, .po 1 0)]⟩, [.lv 2 [.i a0.Actuators, .ro (a0.Steps.map cSStep)], .lv 1 [.ro (a1.Travels.map cSTravel)]]⟩) h (by kernel_rfl) (fun s4 c h => ?_) (fun w5 h => ?_)
      · refine W_gh ?_
        refine W_seq ?_
        refine W_seq ?_
        refine W_gh ?_
        refine W_reg ?_
        refine O_p 3 ?_
        refine O_len (l := a1.Travels) cSTravel (by kernel_rfl) (by kernel_rfl) ?_
        refine O_p 1 ?_
        refine O_nil ?_
        refine Gh_e ⟨⟨52, [(2, .po 0 0), (3, .po 1 0), (6, .i s4), (24, .bool (decide (s4 < (a1.Travels.length : Int))))]⟩, [.lv 2 [.i a0.Actuators, .ro (a0.Steps.map cSStep)], .lv 1 [.ro (a1.Travels.map cSTravel)]]⟩ ?_
        refine W_gh ?_
        refine W_cond (c := (decide (s4 < (a1.Travels.length : Int)))) (by kernel_rfl) (fun c6 => ?_) (fun c6 => ?_)
        · replace h := fork_t c6 h
          refine W_skip ?_
          refine Gh_e ⟨⟨52, [(2, .po 0 0), (3, .po 1 0), (6, .i s4)]⟩, [.lv 2 [.i a0.Actuators, .ro (a0.Steps.map cSStep)], .lv 1 [.ro (a1.Travels.map cSTravel)]]⟩ ?_
          refine W_seq ?_
          refine W_gh ?_
          refine W_block ?_
          refine W_seq ?_
          refine W_seq ?_
          refine W_gh ?_
          refine W_reg ?_
          refine O_p 3 ?_
          refine O_idx (kd := .i64) cSTravel h (fun _ => rfl) (by kernel_rfl) (by kernel_rfl) (by kernel_rfl) (fun v7 e_v7 h => ?_)
          refine O_p 2 ?_
          refine O_call (fun v => .i v) h (.inr rfl) (ys := [.agg (cSSpan v7.Out)]) (fun _ e => p51 _ _ e) (by kernel_rfl) (by kernel_rfl) (bels_cons (okSSpan.bel _) rfl) (fun v8 e_v8 h => ?_)
          refine O_p 1 ?_
          refine O_nil ?_
          refine Gh_e ⟨⟨52, [(2, .po 0 0), (3, .po 1 0), (6, .i s4), (7, .i v8)]⟩, [.lv 2 [.i a0.Actuators, .ro (a0.Steps.map cSStep)], .lv 1 [.ro (a1.Travels.map cSTravel)]]⟩ ?_
          refine W_seq ?_
          refine W_gh ?_
          refine W_reg ?_
          refine O_p 2 ?_
          refine O_nil ?_
          refine Gh_e ⟨⟨52, [(2, .po 0 0), (3, .po 1 0), (6, .i s4), (7, .i v8), (35, .bool (v8 != 0))]⟩, [.lv 2 [.i a0.Actuators, .ro (a0.Steps.map cSStep)], .lv 1 [.ro (a1.Travels.map cSTravel)]]⟩ ?_
          refine W_gh ?_
          refine W_cond (c := (v8 != 0)) (by kernel_rfl) (fun c9 => ?_) (fun c9 => ?_)
          · replace h := fork_t c9 h
            refine W_seq ?_
            refine W_gh ?_
            refine W_reg ?_
            refine O_p 2 ?_
            refine O_nil ?_
            refine Gh_e ⟨⟨52, [(2, .po 0 0), (3, .po 1 0), (4, .i v8), (6, .i s4), (35, .bool (v8 != 0))]⟩, [.lv 2 [.i a0.Actuators, .ro (a0.Steps.map cSStep)], .lv 1 [.ro (a1.Travels.map cSTravel)]]⟩ ?_
            refine W_ret ?_
            replace h := Option.some.inj h; subst h
            refine ⟨_, rfl, fun h => ?_⟩
            replace h := Option.some.inj h; subst h
            exact Fin_free (l := [.i v8]) (by kernel_rfl) (by kernel_rfl) rfl
          · replace h := fork_f c9 h
            refine W_skip ?_
            refine Gh_e ⟨⟨52, [(2, .po 0 0), (3, .po 1 0), (6, .i s4)]⟩, [.lv 2 [.i a0.Actuators, .ro (a0.Steps.map cSStep)], .lv 1 [.ro (a1.Travels.map cSTravel)]]⟩ ?_
            refine W_seq ?_
            refine W_gh ?_
            refine W_reg ?_
            refine O_p 3 ?_
            refine O_idx (kd := .i64) cSTravel h (fun _ => rfl) (by kernel_rfl) (by kernel_rfl) (by kernel_rfl) (fun v10 e_v10 h => ?_)
            refine O_p 2 ?_
            refine O_call (fun v => .i v) h (.inr rfl) (ys := [.agg (cSSpan v10.In)]) (fun _ e => p51 _ _ e) (by kernel_rfl) (by kernel_rfl) (bels_cons (okSSpan.bel _) rfl) (fun v11 e_v11 h => ?_)
            refine O_p 1 ?_
            refine O_nil ?_
            refine Gh_e ⟨⟨52, [(2, .po 0 0), (3, .po 1 0), (6, .i s4), (8, .i v11)]⟩, [.lv 2 [.i a0.Actuators, .ro (a0.Steps.map cSStep)], .lv 1 [.ro (a1.Travels.map cSTravel)]]⟩ ?_
            refine W_seq ?_
            refine W_gh ?_
            refine W_reg ?_
            refine O_p 2 ?_
            refine O_nil ?_
            refine Gh_e ⟨⟨52, [(2, .po 0 0), (3, .po 1 0), (6, .i s4), (8, .i v11), (45, .bool (v11 != 0))]⟩, [.lv 2 [.i a0.Actuators, .ro (a0.Steps.map cSStep)], .lv 1 [.ro (a1.Travels.map cSTravel)]]⟩ ?_
            refine W_gh ?_
            refine W_cond (c := (v11 != 0)) (by kernel_rfl) (fun c12 => ?_) (fun c12 => ?_)
            · replace h := fork_t c12 h
              refine W_seq ?_
              refine W_gh ?_
              refine W_reg ?_
              refine O_p 2 ?_
              refine O_nil ?_
              refine Gh_e ⟨⟨52, [(2, .po 0 0), (3, .po 1 0), (4, .i v11), (6, .i s4), (45, .bool (v11 != 0))]⟩, [.lv 2 [.i a0.Actuators, .ro (a0.Steps.map cSStep)], .lv 1 [.ro (a1.Travels.map cSTravel)]]⟩ ?_
              refine W_ret ?_
              replace h := Option.some.inj h; subst h
              refine ⟨_, rfl, fun h => ?_⟩
              replace h := Option.some.inj h; subst h
              exact Fin_free (l := [.i v11]) (by kernel_rfl) (by kernel_rfl) rfl
            · replace h := fork_f c12 h
              refine W_skip ?_
              refine Gh_e ⟨⟨52, [(2, .po 0 0), (3, .po 1 0), (6, .i s4)]⟩, [.lv 2 [.i a0.Actuators, .ro (a0.Steps.map cSStep)], .lv 1 [.ro (a1.Travels.map cSTravel)]]⟩ ?_
              refine Gh_e ⟨⟨52, [(2, .po 0 0), (3, .po 1 0), (6, .i s4)]⟩, [.lv 2 [.i a0.Actuators, .ro (a0.Steps.map cSStep)], .lv 1 [.ro (a1.Travels.map cSTravel)]]⟩ ?_
              refine W_gh ?_
              refine W_reg ?_
              refine O_p 3 ?_
              refine O_nil ?_
              refine Gh_e ⟨⟨52, [(2, .po 0 0), (3, .po 1 0), (6, .i (addI .i64 s4 1))]⟩, [.lv 2 [.i a0.Actuators, .ro (a0.Steps.map cSStep)], .lv 1 [.ro (a1.Travels.map cSTravel)]]⟩ ?_
              refine Gh_e ⟨⟨52, [(2, .po 0 0), (3, .po 1 0), (6, .i (addI .i64 s4 1))]⟩, [.lv 2 [.i a0.Actuators, .ro (a0.Steps.map cSStep)], .lv 1 [.ro (a1.Travels.map cSTravel)]]⟩ ?_
              replace h := Option.some.inj h; subst h
              exact ⟨_, rfl, by kernel_rfl⟩
        · replace h := fork_f c6 h
          refine W_exit ?_
          refine X_hit ?_
          refine Gh_e ⟨⟨52, [(2, .po 0 0), (3, .po 1 0)]⟩, [.lv 2 [.i a0.Actuators, .ro (a0.Steps.map cSStep)], .lv 1 [.ro (a1.Travels.map cSTravel)]]⟩ ?_
          replace h := Option.some.inj h; subst h
          exact ⟨_, rfl, by kernel_rfl⟩
      · refine W_seq ?_
        refine W_seq ?_
        refine W_gh ?_
        refine W_reg ?_
        refine O_p 2 ?_
        refine O_call (fun v => .agg [.i v.Low, .i v.High]) h (.inr rfl) (ys := [.agg (cSSequence a0), .agg (cSPlant a1)]) (fun _ e => p49 _ _ _ e) (by kernel_rfl) (by kernel_rfl) (bels_cons (okSSequence.bel _) (bels_cons (okSPlant.bel _) rfl)) (fun v13 e_v13 h => ?_)
        refine O_p 2 ?_
        refine O_nil ?_
        refine Gh_e ⟨⟨52, [(51, .bool (decide (v13.High > 1000000)))]⟩, [.lv 2 [.i a0.Actuators, .ro (a0.Steps.map cSStep)], .lv 1 [.ro (a1.Travels.map cSTravel)]]⟩ ?_
        refine W_gh ?_
        refine W_cond (c := (decide (v13.High > 1000000))) (by kernel_rfl) (fun c14 => ?_) (fun c14 => ?_)
        · replace h := fork_t c14 h
          refine W_seq ?_
          refine W_reg ?_
          refine O_p 1 ?_
          refine O_nil ?_
          refine W_ret ?_
          replace h := Option.some.inj h; subst h
          exact Fin_free (l := [.i 11]) (by kernel_rfl) (by kernel_rfl) rfl
        · replace h := fork_f c14 h
          refine W_skip ?_
          refine Gh_e ⟨⟨52, []⟩, [.lv 2 [.i a0.Actuators, .ro (a0.Steps.map cSStep)], .lv 1 [.ro (a1.Travels.map cSTravel)]]⟩ ?_
          refine W_seq ?_
          refine W_reg ?_
          refine O_p 1 ?_
          refine O_nil ?_
          refine W_ret ?_
          replace h := Option.some.inj h; subst h
          exact Fin_free (l := [.i 0]) (by kernel_rfl) (by kernel_rfl) rfl

theorem p25 (a0 : SSequence) (a1 : SPlant) (r : Bool) (h : m25 a0 a1 = some r) : Pt E0 hp 25 [.agg (cSSequence a0), .agg (cSPlant a1)] (.bool r) := by
  unfold m25 at h
  refine Pt_W (fn25) rfl (by decide) ?_
  refine W_seq ?_
  refine W_gh ?_
  refine W_reg ?_
  refine O_p 3 ?_
  refine O_nil ?_
  refine Gh_e ⟨⟨14, [(2, .po 0 0), (3, .po 1 0)]⟩, [.lv 2 [.i a0.Actuators, .ro (a0.Steps.map cSStep)], .lv 1 [.ro (a1.Travels.map cSTravel)]]⟩ ?_
  refine W_seq ?_
  refine W_joinS (fun v : Bool => ⟨⟨14, [(4, .bool v)]⟩, [.lv 2 [.i a0.Actuators, .ro (a0.Steps.map cSStep)], .lv 1 [.ro (a1.Travels.map cSTravel)]]⟩) h (fun w h => ?_) (fun w1 e_w1 h => ?_)
  · refine W_gh ?_
    refine W_reg ?_
    refine O_p 2 ?_
    refine O_call (fun v => .bool v) h (.inr rfl) (ys := [.agg (cSSequence a0), .agg (cSPlant a1)]) (fun _ e => p11 _ _ _ e) (by kernel_rfl) (by kernel_rfl) (bels_cons (okSSequence.bel _) (bels_cons (okSPlant.bel _) rfl)) (fun v2 e_v2 h => ?_)
    refine O_p 1 ?_
    refine O_fork (n := 8) v2 (by kernel_rfl) (fun c3 => ?_) (fun c3 => ?_)
    · replace h := fork_t c3 h
      refine O_p 2 ?_
      refine O_call (fun v => .i v) h (.inr rfl) (ys := [.agg (cSSequence a0), .agg (cSPlant a1)]) (fun _ e => p18 _ _ _ e) (by kernel_rfl) (by kernel_rfl) (bels_cons (okSSequence.bel _) (bels_cons (okSPlant.bel _) rfl)) (fun v4 e_v4 h => ?_)
      refine O_p 3 ?_
      refine O_nil ?_
      refine Gh_e ⟨⟨14, [(4, .bool (v4 == 0))]⟩, [.lv 2 [.i a0.Actuators, .ro (a0.Steps.map cSStep)], .lv 1 [.ro (a1.Travels.map cSTravel)]]⟩ ?_
      replace h := Option.some.inj h; subst h
      show _ = _
      kernel_rfl
    · replace h := fork_f c3 h
      refine O_p 6 ?_
      refine O_nil ?_
      refine Gh_e ⟨⟨14, [(4, .bool false)]⟩, [.lv 2 [.i a0.Actuators, .ro (a0.Steps.map cSStep)], .lv 1 [.ro (a1.Travels.map cSTravel)]]⟩ ?_
      replace h := Option.some.inj h; subst h
      show _ = _
      kernel_rfl
  · refine W_ret ?_
    replace h := Option.some.inj h; subst h
    exact Fin_free (l := [.bool w1]) (by kernel_rfl) (by kernel_rfl) rfl

theorem p45  (r : SPlant) (h : m45  = some r) : Pt E0 hp 45 [] (.agg [.ro (r.Travels.map cSTravel)]) := by
  unfold m45 at h
  refine Pt_W (fn45) rfl (by decide) ?_
  refine W_seq ?_
  refine W_gh ?_
  refine W_reg ?_
  refine O_p 1 ?_
  refine O_nil ?_
  refine Gh_e ⟨⟨9, [(0, .po 0 0)]⟩, [.lv 1 [.ro (([] : List STravel).map cSTravel)]]⟩ ?_
  refine W_seq ?_
  refine W_gh ?_
  refine W_reg ?_
  refine O_p 9 ?_
  refine O_nil ?_
  refine Gh_e ⟨⟨9, [(0, .po 0 0)]⟩, [.lv 1 [.own 1 2 0 2], .live .norm 4 (([(⟨(⟨200, 300⟩ : SSpan), (⟨150, 150⟩ : SSpan)⟩ : STravel), (⟨(⟨250, 250⟩ : SSpan), (⟨100, 400⟩ : SSpan)⟩ : STravel)] : List STravel).map cSTravel)]⟩ ?_
  refine W_ret ?_
  replace h := Option.some.inj h; subst h
  exact Fin_pk (l := [.agg [.own 1 2 0 2]]) (by kernel_rfl) (pk_agg (d := 5) (mapO_cons (pk_own (d := 4) (id := 1) (nl := .norm) (sz := 4) (l := ([(⟨(⟨200, 300⟩ : SSpan), (⟨150, 150⟩ : SSpan)⟩ : STravel), (⟨(⟨250, 250⟩ : SSpan), (⟨100, 400⟩ : SSpan)⟩ : STravel)] : List STravel)) okSTravel.bel (by kernel_rfl) rfl) rfl))

theorem p84 (a0 : Int) (r : Bool) (h : m84 a0 = some r) : Pt E0 hp 84 [.i a0] (.bool r) := by
  unfold m84 at h
  refine Pt_W (fn84) rfl (by decide) ?_
  refine W_seq ?_
  refine W_gh ?_
  refine W_reg ?_
  refine O_p 1 ?_
  refine O_nil ?_
  refine Gh_e ⟨⟨9, [(0, .i a0)]⟩, []⟩ ?_
  refine W_seq ?_
  refine W_cut ⟨⟨9, [(2, .bool ((decide (a0 ≥ 0)) && (decide (a0 < 6))))]⟩, []⟩ ?_ ?_
  · generalize e_g1 : ((decide (a0 ≥ 0)) && (decide (a0 < 6))) = g1
    refine W_gh ?_
    refine W_reg ?_
    refine O_p 3 ?_
    refine O_fork (n := 5) (decide (a0 ≥ 0)) (by kernel_rfl) (fun c2 => ?_) (fun c2 => ?_)
    · skip
      refine O_p 4 ?_
      refine O_nil ?_
      refine Gh_e ⟨⟨9, [(2, .bool (decide (a0 < 6)))]⟩, []⟩ ?_
      have q := e_g1; simp only [c2, cond_true, cond_false, Bool.true_and, Bool.false_and, Bool.true_or, Bool.false_or] at q; subst q
      show _ = _
      kernel_rfl
    · skip
      refine O_p 4 ?_
      refine O_nil ?_
      refine Gh_e ⟨⟨9, [(2, .bool false)]⟩, []⟩ ?_
      have q := e_g1; simp only [c2, cond_true, cond_false, Bool.true_and, Bool.false_and, Bool.true_or, Bool.false_or] at q; subst q
      show _ = _
      kernel_rfl
  · refine W_ret ?_
    replace h := Option.some.inj h; subst h
    exact Fin_free (l := [.bool ((decide (a0 ≥ 0)) && (decide (a0 < 6)))]) (by kernel_rfl) (by kernel_rfl) rfl

theorem p79 (a0 : SStep) (r : Int) (h : m79 a0 = some r) : Pt E0 hp 79 [.agg (cSStep a0)] (.i r) := by
  unfold m79 at h
  refine Pt_W (fn79) rfl (by decide) ?_
  refine W_seq ?_
  refine W_gh ?_
  refine W_reg ?_
  refine O_p 2 ?_
  refine O_nil ?_
  refine Gh_e ⟨⟨49, [(1, .po 0 0)]⟩, [.lv 2 [.ro (a0.Strokes.map cSStroke), .i a0.Wait]]⟩ ?_
  refine W_seq ?_
  refine W_seq ?_
  refine W_gh ?_
  refine W_reg ?_
  refine O_p 2 ?_
  refine O_len (l := a0.Strokes) cSStroke (by kernel_rfl) (by kernel_rfl) ?_
  refine O_p 1 ?_
  refine O_nil ?_
  refine Gh_e ⟨⟨49, [(1, .po 0 0), (3, .i (a0.Strokes.length : Int))]⟩, [.lv 2 [.ro (a0.Strokes.map cSStroke), .i a0.Wait]]⟩ ?_
  refine W_gh ?_
  refine W_block ?_
  refine W_seq ?_
  refine W_gh ?_
  refine W_reg ?_
  refine O_p 3 ?_
  refine O_nil ?_
  refine Gh_e ⟨⟨49, [(1, .po 0 0), (3, .i (a0.Strokes.length : Int)), (10, .bool ((a0.Strokes.length : Int) == 0))]⟩, [.lv 2 [.ro (a0.Strokes.map cSStroke), .i a0.Wait]]⟩ ?_
  refine W_gh ?_
  refine W_cond (c := ((a0.Strokes.length : Int) == 0)) (by kernel_rfl) (fun c1 => ?_) (fun c1 => ?_)
  · replace h := fork_t c1 h
    refine W_seq ?_
    refine W_reg ?_
    refine O_p 1 ?_
    refine O_nil ?_
    refine W_ret ?_
    replace h := Option.some.inj h; subst h
    exact Fin_free (l := [.i 13]) (by kernel_rfl) (by kernel_rfl) rfl
  · replace h := fork_f c1 h
    refine W_seq ?_
    refine W_gh ?_
    refine W_reg ?_
    refine O_p 3 ?_
    refine O_nil ?_
    refine Gh_e ⟨⟨49, [(1, .po 0 0), (10, .bool ((a0.Strokes.length : Int) == 0)), (13, .bool (decide ((a0.Strokes.length : Int) > 6)))]⟩, [.lv 2 [.ro (a0.Strokes.map cSStroke), .i a0.Wait]]⟩ ?_
    refine W_gh ?_
    refine W_cond (c := (decide ((a0.Strokes.length : Int) > 6))) (by kernel_rfl) (fun c2 => ?_) (fun c2 => ?_)
    · replace h := fork_t c2 h
      refine W_seq ?_
      refine W_reg ?_
      refine O_p 1 ?_
      refine O_nil ?_
      refine W_ret ?_
      replace h := Option.some.inj h; subst h
      exact Fin_free (l := [.i 5]) (by kernel_rfl) (by kernel_rfl) rfl
    · replace h := fork_f c2 h
      refine W_skip ?_
      refine Gh_e ⟨⟨49, [(1, .po 0 0), (10, .bool ((a0.Strokes.length : Int) == 0))]⟩, [.lv 2 [.ro (a0.Strokes.map cSStroke), .i a0.Wait]]⟩ ?_
      refine Gh_e ⟨⟨49, [(1, .po 0 0)]⟩, [.lv 2 [.ro (a0.Strokes.map cSStroke), .i a0.Wait]]⟩ ?_
      refine Gh_e ⟨⟨49, [(1, .po 0 0)]⟩, [.lv 2 [.ro (a0.Strokes.map cSStroke), .i a0.Wait]]⟩ ?_
      refine W_seq ?_
      refine W_reg ?_
      refine O_p 1 ?_
      refine O_nil ?_
      refine W_seq ?_
      refine W_seq ?_
      refine W_gh ?_
      refine W_reg ?_
      refine O_p 2 ?_
      refine O_len (l := a0.Strokes) cSStroke (by kernel_rfl) (by kernel_rfl) ?_
      refine O_p 1 ?_
      refine O_nil ?_
      refine Gh_e ⟨⟨49, [(1, .po 0 0), (4, .i (-1)), (17, .ro (a0.Strokes.map cSStroke)), (18, .i (a0.Strokes.length : Int)), (19, .i 0)]⟩, [.lv 2 [.ro (a0.Strokes.map cSStroke), .i a0.Wait]]⟩ ?_
      refine W_loop (fun s3 : Int × Int => ⟨⟨49, [(1, .po 0 0), (4, .i s3.2), (17, .ro (a0.Strokes.map cSStroke)), (18, .i (a0.Strokes.length : Int)), (19, .i s3.1)]⟩, [.lv 2 [.ro (a0.Strokes.map cSStroke), .i a0.Wait]]⟩) (fun w4 : Unit => ⟨⟨49, [(1, .po 0 0)]⟩, [.lv 2 [.ro (a0.Strokes.map cSStroke), .i a0.Wait]]⟩) h (by kernel_rfl) (fun s3 c h => ?_) (fun w4 h => ?_)
      · refine W_gh ?_
        refine W_seq ?_
        refine W_reg ?_
        refine O_p 1 ?_
        refine O_nil ?_
        refine W_seq ?_
        refine W_gh ?_
        refine W_cond (c := (decide (s3.1 < (a0.Strokes.length : Int)))) (by kernel_rfl) (fun c5 => ?_) (fun c5 => ?_)
        · replace h := fork_t c5 h
          refine W_skip ?_
          refine Gh_e ⟨⟨49, [(1, .po 0 0), (4, .i s3.2), (17, .ro (a0.Strokes.map cSStroke)), (18, .i (a0.Strokes.length : Int)), (19, .i s3.1)]⟩, [.lv 2 [.ro (a0.Strokes.map cSStroke), .i a0.Wait]]⟩ ?_
          refine W_seq ?_
          refine W_gh ?_
          refine W_block ?_
          refine W_seq ?_
          refine W_gh ?_
          refine W_reg ?_
          refine O_idx (kd := .i64) cSStroke h (fun _ => rfl) (by kernel_rfl) (by kernel_rfl) (by kernel_rfl) (fun v6 e_v6 h => ?_)
          refine O_p 3 ?_
          refine O_nil ?_
          refine Gh_e ⟨⟨49, [(1, .po 0 0), (4, .i s3.2), (6, .po 1 0), (17, .ro (a0.Strokes.map cSStroke)), (18, .i (a0.Strokes.length : Int)), (19, .i s3.1)]⟩, [.lv 2 [.ro (a0.Strokes.map cSStroke), .i a0.Wait], .lv 2 [.i v6.Actuator, .bool v6.Out]]⟩ ?_
          refine W_seq ?_
          refine W_gh ?_
          refine W_block ?_
          refine W_seq ?_
          refine W_gh ?_
          refine W_reg ?_
          refine O_p 2 ?_
          refine O_call (fun v => .bool v) h (.inr rfl) (ys := [.i v6.Actuator]) (fun _ e => p84 _ _ e) (by kernel_rfl) (by kernel_rfl) (bels_cons rfl rfl) (fun v7 e_v7 h => ?_)
          refine O_p 2 ?_
          refine O_nil ?_
          refine Gh_e ⟨⟨49, [(1, .po 0 0), (4, .i s3.2), (6, .po 1 0), (17, .ro (a0.Strokes.map cSStroke)), (18, .i (a0.Strokes.length : Int)), (19, .i s3.1), (23, .bool (!v7))]⟩, [.lv 2 [.ro (a0.Strokes.map cSStroke), .i a0.Wait], .lv 2 [.i v6.Actuator, .bool v6.Out]]⟩ ?_
          refine W_gh ?_
          refine W_cond (c := (!v7)) (by kernel_rfl) (fun c8 => ?_) (fun c8 => ?_)
          · replace h := fork_t c8 h
            refine W_seq ?_
            refine W_reg ?_
            refine O_p 1 ?_
            refine O_nil ?_
            refine W_ret ?_
            replace h := Option.some.inj h; subst h
            refine ⟨_, rfl, fun h => ?_⟩
            replace h := Option.some.inj h; subst h
            exact Fin_free (l := [.i 2]) (by kernel_rfl) (by kernel_rfl) rfl
          · replace h := fork_f c8 h
            refine W_seq ?_
            refine W_gh ?_
            refine W_reg ?_
            refine O_p 5 ?_
            refine O_nil ?_
            refine Gh_e ⟨⟨49, [(1, .po 0 0), (4, .i s3.2), (6, .po 1 0), (17, .ro (a0.Strokes.map cSStroke)), (18, .i (a0.Strokes.length : Int)), (19, .i s3.1), (23, .bool (!v7)), (28, .bool (v6.Actuator == s3.2))]⟩, [.lv 2 [.ro (a0.Strokes.map cSStroke), .i a0.Wait], .lv 2 [.i v6.Actuator, .bool v6.Out]]⟩ ?_
            refine W_gh ?_
            refine W_cond (c := (v6.Actuator == s3.2)) (by kernel_rfl) (fun c9 => ?_) (fun c9 => ?_)
            · replace h := fork_t c9 h
              refine W_seq ?_
              refine W_reg ?_
              refine O_p 1 ?_
              refine O_nil ?_
              refine W_ret ?_
              replace h := Option.some.inj h; subst h
              refine ⟨_, rfl, fun h => ?_⟩
              replace h := Option.some.inj h; subst h
              exact Fin_free (l := [.i 7]) (by kernel_rfl) (by kernel_rfl) rfl
            · replace h := fork_f c9 h
              refine W_seq ?_
              refine W_gh ?_
              refine W_reg ?_
              refine O_p 5 ?_
              refine O_nil ?_
              refine Gh_e ⟨⟨49, [(1, .po 0 0), (6, .po 1 0), (17, .ro (a0.Strokes.map cSStroke)), (18, .i (a0.Strokes.length : Int)), (19, .i s3.1), (23, .bool (!v7)), (28, .bool (v6.Actuator == s3.2)), (33, .bool (decide (v6.Actuator < s3.2)))]⟩, [.lv 2 [.ro (a0.Strokes.map cSStroke), .i a0.Wait], .lv 2 [.i v6.Actuator, .bool v6.Out]]⟩ ?_
              refine W_gh ?_
              refine W_cond (c := (decide (v6.Actuator < s3.2))) (by kernel_rfl) (fun c10 => ?_) (fun c10 => ?_)
              · replace h := fork_t c10 h
                refine W_seq ?_
                refine W_reg ?_
                refine O_p 1 ?_
                refine O_nil ?_
                refine W_ret ?_
                replace h := Option.some.inj h; subst h
                refine ⟨_, rfl, fun h => ?_⟩
                replace h := Option.some.inj h; subst h
                exact Fin_free (l := [.i 9]) (by kernel_rfl) (by kernel_rfl) rfl
              · replace h := fork_f c10 h
                refine W_skip ?_
                refine Gh_e ⟨⟨49, [(1, .po 0 0), (6, .po 1 0), (17, .ro (a0.Strokes.map cSStroke)), (18, .i (a0.Strokes.length : Int)), (19, .i s3.1), (23, .bool (!v7)), (28, .bool (v6.Actuator == s3.2))]⟩, [.lv 2 [.ro (a0.Strokes.map cSStroke), .i a0.Wait], .lv 2 [.i v6.Actuator, .bool v6.Out]]⟩ ?_
                refine Gh_e ⟨⟨49, [(1, .po 0 0), (6, .po 1 0), (17, .ro (a0.Strokes.map cSStroke)), (18, .i (a0.Strokes.length : Int)), (19, .i s3.1), (23, .bool (!v7))]⟩, [.lv 2 [.ro (a0.Strokes.map cSStroke), .i a0.Wait], .lv 2 [.i v6.Actuator, .bool v6.Out]]⟩ ?_
                refine Gh_e ⟨⟨49, [(1, .po 0 0), (6, .po 1 0), (17, .ro (a0.Strokes.map cSStroke)), (18, .i (a0.Strokes.length : Int)), (19, .i s3.1)]⟩, [.lv 2 [.ro (a0.Strokes.map cSStroke), .i a0.Wait], .lv 2 [.i v6.Actuator, .bool v6.Out]]⟩ ?_
                refine Gh_e ⟨⟨49, [(1, .po 0 0), (6, .po 1 0), (17, .ro (a0.Strokes.map cSStroke)), (18, .i (a0.Strokes.length : Int)), (19, .i s3.1)]⟩, [.lv 2 [.ro (a0.Strokes.map cSStroke), .i a0.Wait], .lv 2 [.i v6.Actuator, .bool v6.Out]]⟩ ?_
                refine W_gh ?_
                refine W_reg ?_
                refine O_p 3 ?_
                refine O_nil ?_
                refine Gh_e ⟨⟨49, [(1, .po 0 0), (4, .i v6.Actuator), (17, .ro (a0.Strokes.map cSStroke)), (18, .i (a0.Strokes.length : Int)), (19, .i s3.1)]⟩, [.lv 2 [.ro (a0.Strokes.map cSStroke), .i a0.Wait], .lv 2 [.i v6.Actuator, .bool v6.Out]]⟩ ?_
                refine Gh_one (s1 := ⟨⟨49, [(1, .po 0 0), (4, .i v6.Actuator), (17, .ro (a0.Strokes.map cSStroke)), (18, .i (a0.Strokes.length : Int)), (19, .i s3.1)]⟩, [.lv 2 [.ro (a0.Strokes.map cSStroke), .i a0.Wait], .lv 2 [.i v6.Actuator, .bool v6.Out]]⟩) (by kernel_rfl) ?_
                refine Gh_at (s1 := ⟨⟨49, [(1, .po 0 0), (4, .i v6.Actuator), (17, .ro (a0.Strokes.map cSStroke)), (18, .i (a0.Strokes.length : Int)), (19, .i s3.1)]⟩, [.lv 2 [.ro (a0.Strokes.map cSStroke), .i a0.Wait], .lv 2 [.i v6.Actuator, .bool v6.Out]]⟩) (by kernel_rfl) ?_
                refine Gh_trunc (s1 := ⟨⟨49, [(1, .po 0 0), (4, .i v6.Actuator), (17, .ro (a0.Strokes.map cSStroke)), (18, .i (a0.Strokes.length : Int)), (19, .i s3.1)]⟩, [.lv 2 [.ro (a0.Strokes.map cSStroke), .i a0.Wait]]⟩) (by kernel_rfl) (tb_ref rfl (tb_free rfl (tb_free (ro_bel okSStroke.bel _) (tb_free rfl (tb_free rfl rfl))))) (H1 := [.lv 2 [.ro (a0.Strokes.map cSStroke), .i a0.Wait]]) (by kernel_rfl) (ob_boxn (bn_free (ro_bel okSStroke.bel _) (bn_free rfl rfl)) rfl) (by kernel_rfl) ?_
                refine Gh_nil ?_
                refine W_gh ?_
                refine W_reg ?_
                refine O_p 2 ?_
                refine O_nil ?_
                refine Gh_e ⟨⟨49, [(1, .po 0 0), (4, .i v6.Actuator), (17, .ro (a0.Strokes.map cSStroke)), (18, .i (a0.Strokes.length : Int)), (19, .i (addI .i64 s3.1 1))]⟩, [.lv 2 [.ro (a0.Strokes.map cSStroke), .i a0.Wait]]⟩ ?_
                refine Gh_one (s1 := ⟨⟨49, [(1, .po 0 0), (4, .i v6.Actuator), (17, .ro (a0.Strokes.map cSStroke)), (18, .i (a0.Strokes.length : Int)), (19, .i (addI .i64 s3.1 1))]⟩, [.lv 2 [.ro (a0.Strokes.map cSStroke), .i a0.Wait]]⟩) (by kernel_rfl) ?_
                refine Gh_trunc0 (by kernel_rfl) ?_
                refine Gh_nil ?_
                replace h := Option.some.inj h; subst h
                exact ⟨_, rfl, by kernel_rfl⟩
        · replace h := fork_f c5 h
          refine W_exit ?_
          refine X_hit ?_
          refine Gh_one (s1 := ⟨⟨49, [(1, .po 0 0)]⟩, [.lv 2 [.ro (a0.Strokes.map cSStroke), .i a0.Wait]]⟩) (by kernel_rfl) ?_
          refine Gh_trunc0 (by kernel_rfl) ?_
          refine Gh_nil ?_
          replace h := Option.some.inj h; subst h
          exact ⟨_, rfl, by kernel_rfl⟩
      · refine W_seq ?_
        refine W_seq ?_
        refine W_cut ⟨⟨49, [(48, .bool ((decide (a0.Wait < 0)) || (decide (a0.Wait > 1000000))))]⟩, [.lv 2 [.ro (a0.Strokes.map cSStroke), .i a0.Wait]]⟩ ?_ ?_
        · generalize e_g11 : ((decide (a0.Wait < 0)) || (decide (a0.Wait > 1000000))) = g11
          refine W_gh ?_
          refine W_reg ?_
          refine O_p 4 ?_
          refine O_fork (n := 44) (decide (a0.Wait < 0)) (by kernel_rfl) (fun c12 => ?_) (fun c12 => ?_)
          · skip
            refine O_p 4 ?_
            refine O_nil ?_
            refine Gh_e ⟨⟨49, [(48, .bool true)]⟩, [.lv 2 [.ro (a0.Strokes.map cSStroke), .i a0.Wait]]⟩ ?_
            have q := e_g11; simp only [c1, c2, c12, cond_true, cond_false, Bool.true_and, Bool.false_and, Bool.true_or, Bool.false_or] at q; subst q
            show _ = _
            kernel_rfl
          · skip
            refine O_p 4 ?_
            refine O_nil ?_
            refine Gh_e ⟨⟨49, [(48, .bool (decide (a0.Wait > 1000000)))]⟩, [.lv 2 [.ro (a0.Strokes.map cSStroke), .i a0.Wait]]⟩ ?_
            have q := e_g11; simp only [c1, c2, c12, cond_true, cond_false, Bool.true_and, Bool.false_and, Bool.true_or, Bool.false_or] at q; subst q
            show _ = _
            kernel_rfl
        · refine W_gh ?_
          refine W_cond (c := ((decide (a0.Wait < 0)) || (decide (a0.Wait > 1000000)))) (by kernel_rfl) (fun c13 => ?_) (fun c13 => ?_)
          · replace h := fork_t c13 h
            refine W_seq ?_
            refine W_reg ?_
            refine O_p 1 ?_
            refine O_nil ?_
            refine W_ret ?_
            replace h := Option.some.inj h; subst h
            exact Fin_free (l := [.i 2]) (by kernel_rfl) (by kernel_rfl) rfl
          · replace h := fork_f c13 h
            refine W_skip ?_
            refine Gh_e ⟨⟨49, []⟩, [.lv 2 [.ro (a0.Strokes.map cSStroke), .i a0.Wait]]⟩ ?_
            refine W_seq ?_
            refine W_reg ?_
            refine O_p 1 ?_
            refine O_nil ?_
            refine W_ret ?_
            replace h := Option.some.inj h; subst h
            exact Fin_free (l := [.i 0]) (by kernel_rfl) (by kernel_rfl) rfl

theorem p65 (a0 : SSequence) (a1 : SStep) (a2 : (Arr 6 Bool)) (r : Int) (h : m65 a0 a1 a2 = some r) : Pt E0 hp 65 [.agg (cSSequence a0), .agg (cSStep a1), .agg ((cA AV.bool) a2)] (.i r) := by
  unfold m65 at h
  refine Pt_W (fn65) rfl (by decide) ?_
  refine W_seq ?_
  refine W_gh ?_
  refine W_reg ?_
  refine O_p 2 ?_
  refine O_boxA AV.bool (by kernel_rfl) (a := a2) (by kernel_rfl) (fun _ => rfl) ?_
  refine O_p 1 ?_
  refine O_nil ?_
  refine Gh_e ⟨⟨45, [(3, .po 0 0), (4, .po 1 0), (5, .po 2 0)]⟩, [.lv 2 [.i a0.Actuators, .ro (a0.Steps.map cSStep)], .lv 2 [.ro (a1.Strokes.map cSStroke), .i a1.Wait], .lv 6 (a2.1.map AV.bool)]⟩ ?_
  refine W_seq ?_
  refine W_seq ?_
  refine W_gh ?_
  refine W_reg ?_
  refine O_p 1 ?_
  refine O_call (fun v => .i v) h (.inr rfl) (ys := [.agg (cSStep a1)]) (fun _ e => p79 _ _ e) (by kernel_rfl) (by kernel_rfl) (bels_cons (okSStep.bel _) rfl) (fun v1 e_v1 h => ?_)
  refine O_p 1 ?_
  refine O_nil ?_
  refine Gh_e ⟨⟨45, [(3, .po 0 0), (4, .po 1 0), (5, .po 2 0), (7, .i v1)]⟩, [.lv 2 [.i a0.Actuators, .ro (a0.Steps.map cSStep)], .lv 2 [.ro (a1.Strokes.map cSStroke), .i a1.Wait], .lv 6 (a2.1.map AV.bool)]⟩ ?_
  refine W_seq ?_
  refine W_gh ?_
  refine W_reg ?_
  refine O_p 2 ?_
  refine O_nil ?_
  refine Gh_e ⟨⟨45, [(3, .po 0 0), (4, .po 1 0), (5, .po 2 0), (7, .i v1), (15, .bool (v1 != 0))]⟩, [.lv 2 [.i a0.Actuators, .ro (a0.Steps.map cSStep)], .lv 2 [.ro (a1.Strokes.map cSStroke), .i a1.Wait], .lv 6 (a2.1.map AV.bool)]⟩ ?_
  refine W_gh ?_
  refine W_cond (c := (v1 != 0)) (by kernel_rfl) (fun c2 => ?_) (fun c2 => ?_)
  · replace h := fork_t c2 h
    refine W_seq ?_
    refine W_gh ?_
    refine W_reg ?_
    refine O_p 2 ?_
    refine O_nil ?_
    refine Gh_e ⟨⟨45, [(3, .po 0 0), (4, .po 1 0), (5, .po 2 0), (6, .i v1), (15, .bool (v1 != 0))]⟩, [.lv 2 [.i a0.Actuators, .ro (a0.Steps.map cSStep)], .lv 2 [.ro (a1.Strokes.map cSStroke), .i a1.Wait], .lv 6 (a2.1.map AV.bool)]⟩ ?_
    refine W_ret ?_
    replace h := Option.some.inj h; subst h
    exact Fin_free (l := [.i v1]) (by kernel_rfl) (by kernel_rfl) rfl
  · replace h := fork_f c2 h
    refine W_skip ?_
    refine Gh_e ⟨⟨45, [(3, .po 0 0), (4, .po 1 0), (5, .po 2 0)]⟩, [.lv 2 [.i a0.Actuators, .ro (a0.Steps.map cSStep)], .lv 2 [.ro (a1.Strokes.map cSStroke), .i a1.Wait], .lv 6 (a2.1.map AV.bool)]⟩ ?_
    refine W_seq ?_
    refine W_seq ?_
    refine W_gh ?_
    refine W_reg ?_
    refine O_p 2 ?_
    refine O_len (l := a1.Strokes) cSStroke (by kernel_rfl) (by kernel_rfl) ?_
    refine O_p 1 ?_
    refine O_nil ?_
    refine Gh_e ⟨⟨45, [(3, .po 0 0), (4, .po 1 0), (5, .po 2 0), (18, .ro (a1.Strokes.map cSStroke)), (19, .i (a1.Strokes.length : Int)), (20, .i 0)]⟩, [.lv 2 [.i a0.Actuators, .ro (a0.Steps.map cSStep)], .lv 2 [.ro (a1.Strokes.map cSStroke), .i a1.Wait], .lv 6 (a2.1.map AV.bool)]⟩ ?_
    refine W_loop (fun s3 : Int => ⟨⟨45, [(3, .po 0 0), (4, .po 1 0), (5, .po 2 0), (18, .ro (a1.Strokes.map cSStroke)), (19, .i (a1.Strokes.length : Int)), (20, .i s3)]⟩, [.lv 2 [.i a0.Actuators, .ro (a0.Steps.map cSStep)], .lv 2 [.ro (a1.Strokes.map cSStroke), .i a1.Wait], .lv 6 (a2.1.map AV.bool)]⟩) (fun w4 : Unit => ⟨⟨45, [(4, .po 1 0), (5, .po 2 0)]⟩, [.lv 2 [.i a0.Actuators, .ro (a0.Steps.map cSStep)], .lv 2 [.ro (a1.Strokes.map cSStroke), .i a1.Wait], .lv 6 (a2.1.map AV.bool)]⟩) h (by kernel_rfl) (fun s3 c h => ?_) (fun w4 h => ?_)
    · refine W_gh ?_
      refine W_seq ?_
      refine W_reg ?_
      refine O_p 1 ?_
      refine O_nil ?_
      refine W_seq ?_
      refine W_gh ?_
      refine W_cond (c := (decide (s3 < (a1.Strokes.length : Int)))) (by kernel_rfl) (fun c5 => ?_) (fun c5 => ?_)
      · replace h := fork_t c5 h
        refine W_skip ?_
        refine Gh_e ⟨⟨45, [(3, .po 0 0), (4, .po 1 0), (5, .po 2 0), (18, .ro (a1.Strokes.map cSStroke)), (19, .i (a1.Strokes.length : Int)), (20, .i s3)]⟩, [.lv 2 [.i a0.Actuators, .ro (a0.Steps.map cSStep)], .lv 2 [.ro (a1.Strokes.map cSStroke), .i a1.Wait], .lv 6 (a2.1.map AV.bool)]⟩ ?_
        refine W_seq ?_
        refine W_gh ?_
        refine W_block ?_
        refine W_seq ?_
        refine W_gh ?_
        refine W_reg ?_
        refine O_idx (kd := .i64) cSStroke h (fun _ => rfl) (by kernel_rfl) (by kernel_rfl) (by kernel_rfl) (fun v6 e_v6 h => ?_)
        refine O_p 3 ?_
        refine O_nil ?_
        refine Gh_e ⟨⟨45, [(3, .po 0 0), (4, .po 1 0), (5, .po 2 0), (9, .po 3 0), (18, .ro (a1.Strokes.map cSStroke)), (19, .i (a1.Strokes.length : Int)), (20, .i s3)]⟩, [.lv 2 [.i a0.Actuators, .ro (a0.Steps.map cSStep)], .lv 2 [.ro (a1.Strokes.map cSStroke), .i a1.Wait], .lv 6 (a2.1.map AV.bool), .lv 2 [.i v6.Actuator, .bool v6.Out]]⟩ ?_
        refine W_seq ?_
        refine W_gh ?_
        refine W_reg ?_
        refine O_p 5 ?_
        refine O_nil ?_
        refine Gh_e ⟨⟨45, [(3, .po 0 0), (4, .po 1 0), (5, .po 2 0), (18, .ro (a1.Strokes.map cSStroke)), (19, .i (a1.Strokes.length : Int)), (20, .i s3), (28, .bool (decide (v6.Actuator ≥ a0.Actuators)))]⟩, [.lv 2 [.i a0.Actuators, .ro (a0.Steps.map cSStep)], .lv 2 [.ro (a1.Strokes.map cSStroke), .i a1.Wait], .lv 6 (a2.1.map AV.bool), .lv 2 [.i v6.Actuator, .bool v6.Out]]⟩ ?_
        refine W_gh ?_
        refine W_cond (c := (decide (v6.Actuator ≥ a0.Actuators))) (by kernel_rfl) (fun c7 => ?_) (fun c7 => ?_)
        · replace h := fork_t c7 h
          refine W_seq ?_
          refine W_reg ?_
          refine O_p 1 ?_
          refine O_nil ?_
          refine W_ret ?_
          replace h := Option.some.inj h; subst h
          refine ⟨_, rfl, fun h => ?_⟩
          replace h := Option.some.inj h; subst h
          exact Fin_free (l := [.i 6]) (by kernel_rfl) (by kernel_rfl) rfl
        · replace h := fork_f c7 h
          refine W_skip ?_
          refine Gh_e ⟨⟨45, [(3, .po 0 0), (4, .po 1 0), (5, .po 2 0), (18, .ro (a1.Strokes.map cSStroke)), (19, .i (a1.Strokes.length : Int)), (20, .i s3)]⟩, [.lv 2 [.i a0.Actuators, .ro (a0.Steps.map cSStep)], .lv 2 [.ro (a1.Strokes.map cSStroke), .i a1.Wait], .lv 6 (a2.1.map AV.bool), .lv 2 [.i v6.Actuator, .bool v6.Out]]⟩ ?_
          refine Gh_one (s1 := ⟨⟨45, [(3, .po 0 0), (4, .po 1 0), (5, .po 2 0), (18, .ro (a1.Strokes.map cSStroke)), (19, .i (a1.Strokes.length : Int)), (20, .i s3)]⟩, [.lv 2 [.i a0.Actuators, .ro (a0.Steps.map cSStep)], .lv 2 [.ro (a1.Strokes.map cSStroke), .i a1.Wait], .lv 6 (a2.1.map AV.bool), .lv 2 [.i v6.Actuator, .bool v6.Out]]⟩) (by kernel_rfl) ?_
          refine Gh_at (s1 := ⟨⟨45, [(3, .po 0 0), (4, .po 1 0), (5, .po 2 0), (18, .ro (a1.Strokes.map cSStroke)), (19, .i (a1.Strokes.length : Int)), (20, .i s3)]⟩, [.lv 2 [.i a0.Actuators, .ro (a0.Steps.map cSStep)], .lv 2 [.ro (a1.Strokes.map cSStroke), .i a1.Wait], .lv 6 (a2.1.map AV.bool), .lv 2 [.i v6.Actuator, .bool v6.Out]]⟩) (by kernel_rfl) ?_
          refine Gh_trunc (s1 := ⟨⟨45, [(3, .po 0 0), (4, .po 1 0), (5, .po 2 0), (18, .ro (a1.Strokes.map cSStroke)), (19, .i (a1.Strokes.length : Int)), (20, .i s3)]⟩, [.lv 2 [.i a0.Actuators, .ro (a0.Steps.map cSStep)], .lv 2 [.ro (a1.Strokes.map cSStroke), .i a1.Wait], .lv 6 (a2.1.map AV.bool)]⟩) (by kernel_rfl) (tb_ref rfl (tb_ref rfl (tb_ref rfl (tb_free (ro_bel okSStroke.bel _) (tb_free rfl (tb_free rfl rfl)))))) (H1 := [.lv 2 [.i a0.Actuators, .ro (a0.Steps.map cSStep)], .lv 2 [.ro (a1.Strokes.map cSStroke), .i a1.Wait], .lv 6 (a2.1.map AV.bool)]) (by kernel_rfl) (ob_boxn (bn_free rfl (bn_free (ro_bel okSStep.bel _) rfl)) (ob_boxn (bn_free (ro_bel okSStroke.bel _) (bn_free rfl rfl)) (ob_boxn (bels_mono (Nat.zero_le _) _ (bels_arr (fun _ => rfl) _)) rfl))) (by kernel_rfl) ?_
          refine Gh_nil ?_
          refine W_gh ?_
          refine W_reg ?_
          refine O_p 2 ?_
          refine O_nil ?_
          refine Gh_e ⟨⟨45, [(3, .po 0 0), (4, .po 1 0), (5, .po 2 0), (18, .ro (a1.Strokes.map cSStroke)), (19, .i (a1.Strokes.length : Int)), (20, .i (addI .i64 s3 1))]⟩, [.lv 2 [.i a0.Actuators, .ro (a0.Steps.map cSStep)], .lv 2 [.ro (a1.Strokes.map cSStroke), .i a1.Wait], .lv 6 (a2.1.map AV.bool)]⟩ ?_
          refine Gh_one (s1 := ⟨⟨45, [(3, .po 0 0), (4, .po 1 0), (5, .po 2 0), (18, .ro (a1.Strokes.map cSStroke)), (19, .i (a1.Strokes.length : Int)), (20, .i (addI .i64 s3 1))]⟩, [.lv 2 [.i a0.Actuators, .ro (a0.Steps.map cSStep)], .lv 2 [.ro (a1.Strokes.map cSStroke), .i a1.Wait], .lv 6 (a2.1.map AV.bool)]⟩) (by kernel_rfl) ?_
          refine Gh_trunc0 (by kernel_rfl) ?_
          refine Gh_nil ?_
          replace h := Option.some.inj h; subst h
          exact ⟨_, rfl, by kernel_rfl⟩
      · replace h := fork_f c5 h
        refine W_exit ?_
        refine X_hit ?_
        refine Gh_one (s1 := ⟨⟨45, [(4, .po 1 0), (5, .po 2 0)]⟩, [.lv 2 [.i a0.Actuators, .ro (a0.Steps.map cSStep)], .lv 2 [.ro (a1.Strokes.map cSStroke), .i a1.Wait], .lv 6 (a2.1.map AV.bool)]⟩) (by kernel_rfl) ?_
        refine Gh_trunc0 (by kernel_rfl) ?_
        refine Gh_nil ?_
        replace h := Option.some.inj h; subst h
        exact ⟨_, rfl, by kernel_rfl⟩
    · refine W_seq ?_
      refine W_seq ?_
      refine W_gh ?_
      refine W_reg ?_
      refine O_p 2 ?_
      refine O_len (l := a1.Strokes) cSStroke (by kernel_rfl) (by kernel_rfl) ?_
      refine O_p 1 ?_
      refine O_nil ?_
      refine Gh_e ⟨⟨45, [(5, .po 2 0), (31, .ro (a1.Strokes.map cSStroke)), (32, .i (a1.Strokes.length : Int)), (33, .i 0)]⟩, [.lv 2 [.i a0.Actuators, .ro (a0.Steps.map cSStep)], .lv 2 [.ro (a1.Strokes.map cSStroke), .i a1.Wait], .lv 6 (a2.1.map AV.bool)]⟩ ?_
      refine W_loop (fun s8 : Int => ⟨⟨45, [(5, .po 2 0), (31, .ro (a1.Strokes.map cSStroke)), (32, .i (a1.Strokes.length : Int)), (33, .i s8)]⟩, [.lv 2 [.i a0.Actuators, .ro (a0.Steps.map cSStep)], .lv 2 [.ro (a1.Strokes.map cSStroke), .i a1.Wait], .lv 6 (a2.1.map AV.bool)]⟩) (fun w9 : Unit => ⟨⟨45, []⟩, [.lv 2 [.i a0.Actuators, .ro (a0.Steps.map cSStep)], .lv 2 [.ro (a1.Strokes.map cSStroke), .i a1.Wait], .lv 6 (a2.1.map AV.bool)]⟩) h (by kernel_rfl) (fun s8 c h => ?_) (fun w9 h => ?_)
      · refine W_gh ?_
        refine W_seq ?_
        refine W_reg ?_
        refine O_p 1 ?_
        refine O_nil ?_
        refine W_seq ?_
        refine W_gh ?_
        refine W_cond (c := (decide (s8 < (a1.Strokes.length : Int)))) (by kernel_rfl) (fun c10 => ?_) (fun c10 => ?_)
        · replace h := fork_t c10 h
          refine W_skip ?_
          refine Gh_e ⟨⟨45, [(5, .po 2 0), (31, .ro (a1.Strokes.map cSStroke)), (32, .i (a1.Strokes.length : Int)), (33, .i s8)]⟩, [.lv 2 [.i a0.Actuators, .ro (a0.Steps.map cSStep)], .lv 2 [.ro (a1.Strokes.map cSStroke), .i a1.Wait], .lv 6 (a2.1.map AV.bool)]⟩ ?_
          refine W_seq ?_
          refine W_gh ?_
          refine W_block ?_
          refine W_seq ?_
          refine W_gh ?_
          refine W_reg ?_
          refine O_idx (kd := .i64) cSStroke h (fun _ => rfl) (by kernel_rfl) (by kernel_rfl) (by kernel_rfl) (fun v11 e_v11 h => ?_)
          refine O_p 3 ?_
          refine O_nil ?_
          refine Gh_e ⟨⟨45, [(5, .po 2 0), (11, .po 3 0), (31, .ro (a1.Strokes.map cSStroke)), (32, .i (a1.Strokes.length : Int)), (33, .i s8)]⟩, [.lv 2 [.i a0.Actuators, .ro (a0.Steps.map cSStep)], .lv 2 [.ro (a1.Strokes.map cSStroke), .i a1.Wait], .lv 6 (a2.1.map AV.bool), .lv 2 [.i v11.Actuator, .bool v11.Out]]⟩ ?_
          refine W_seq ?_
          refine W_gh ?_
          refine W_draw ?_
          refine O_p 2 ?_
          refine O_iadB (kd := .i64) (id := 2) AV.bool h (by kernel_rfl) (by kernel_rfl) (by kernel_rfl) (by kernel_rfl) (fun v12 e_v12 h => ?_)
          refine O_ldA (id := 2) AV.bool e_v12 (by kernel_rfl) (by kernel_rfl) (by kernel_rfl) ?_
          refine O_p 3 ?_
          refine O_nil ?_
          refine Gh_e ⟨⟨45, [(5, .po 2 0), (31, .ro (a1.Strokes.map cSStroke)), (32, .i (a1.Strokes.length : Int)), (33, .i s8), (43, .bool ((v12 == v11.Out) != false))]⟩, [.lv 2 [.i a0.Actuators, .ro (a0.Steps.map cSStep)], .lv 2 [.ro (a1.Strokes.map cSStroke), .i a1.Wait], .lv 6 (a2.1.map AV.bool), .lv 2 [.i v11.Actuator, .bool v11.Out]]⟩ ?_
          refine W_gh ?_
          refine W_cond (c := ((v12 == v11.Out) != false)) (by kernel_rfl) (fun c13 => ?_) (fun c13 => ?_)
          · replace h := fork_t c13 h
            refine W_seq ?_
            refine W_reg ?_
            refine O_p 1 ?_
            refine O_nil ?_
            refine W_ret ?_
            replace h := Option.some.inj h; subst h
            refine ⟨_, rfl, fun h => ?_⟩
            replace h := Option.some.inj h; subst h
            exact Fin_free (l := [.i 14]) (by kernel_rfl) (by kernel_rfl) rfl
          · replace h := fork_f c13 h
            refine W_skip ?_
            refine Gh_e ⟨⟨45, [(5, .po 2 0), (31, .ro (a1.Strokes.map cSStroke)), (32, .i (a1.Strokes.length : Int)), (33, .i s8)]⟩, [.lv 2 [.i a0.Actuators, .ro (a0.Steps.map cSStep)], .lv 2 [.ro (a1.Strokes.map cSStroke), .i a1.Wait], .lv 6 (a2.1.map AV.bool), .lv 2 [.i v11.Actuator, .bool v11.Out]]⟩ ?_
            refine Gh_one (s1 := ⟨⟨45, [(5, .po 2 0), (31, .ro (a1.Strokes.map cSStroke)), (32, .i (a1.Strokes.length : Int)), (33, .i s8)]⟩, [.lv 2 [.i a0.Actuators, .ro (a0.Steps.map cSStep)], .lv 2 [.ro (a1.Strokes.map cSStroke), .i a1.Wait], .lv 6 (a2.1.map AV.bool), .lv 2 [.i v11.Actuator, .bool v11.Out]]⟩) (by kernel_rfl) ?_
            refine Gh_at (s1 := ⟨⟨45, [(5, .po 2 0), (31, .ro (a1.Strokes.map cSStroke)), (32, .i (a1.Strokes.length : Int)), (33, .i s8)]⟩, [.lv 2 [.i a0.Actuators, .ro (a0.Steps.map cSStep)], .lv 2 [.ro (a1.Strokes.map cSStroke), .i a1.Wait], .lv 6 (a2.1.map AV.bool), .lv 2 [.i v11.Actuator, .bool v11.Out]]⟩) (by kernel_rfl) ?_
            refine Gh_trunc (s1 := ⟨⟨45, [(5, .po 2 0), (31, .ro (a1.Strokes.map cSStroke)), (32, .i (a1.Strokes.length : Int)), (33, .i s8)]⟩, [.lv 2 [.i a0.Actuators, .ro (a0.Steps.map cSStep)], .lv 2 [.ro (a1.Strokes.map cSStroke), .i a1.Wait], .lv 6 (a2.1.map AV.bool)]⟩) (by kernel_rfl) (tb_ref rfl (tb_free (ro_bel okSStroke.bel _) (tb_free rfl (tb_free rfl rfl)))) (H1 := [.lv 2 [.i a0.Actuators, .ro (a0.Steps.map cSStep)], .lv 2 [.ro (a1.Strokes.map cSStroke), .i a1.Wait], .lv 6 (a2.1.map AV.bool)]) (by kernel_rfl) (ob_boxn (bn_free rfl (bn_free (ro_bel okSStep.bel _) rfl)) (ob_boxn (bn_free (ro_bel okSStroke.bel _) (bn_free rfl rfl)) (ob_boxn (bels_mono (Nat.zero_le _) _ (bels_arr (fun _ => rfl) _)) rfl))) (by kernel_rfl) ?_
            refine Gh_nil ?_
            refine W_gh ?_
            refine W_reg ?_
            refine O_p 2 ?_
            refine O_nil ?_
            refine Gh_e ⟨⟨45, [(5, .po 2 0), (31, .ro (a1.Strokes.map cSStroke)), (32, .i (a1.Strokes.length : Int)), (33, .i (addI .i64 s8 1))]⟩, [.lv 2 [.i a0.Actuators, .ro (a0.Steps.map cSStep)], .lv 2 [.ro (a1.Strokes.map cSStroke), .i a1.Wait], .lv 6 (a2.1.map AV.bool)]⟩ ?_
            refine Gh_one (s1 := ⟨⟨45, [(5, .po 2 0), (31, .ro (a1.Strokes.map cSStroke)), (32, .i (a1.Strokes.length : Int)), (33, .i (addI .i64 s8 1))]⟩, [.lv 2 [.i a0.Actuators, .ro (a0.Steps.map cSStep)], .lv 2 [.ro (a1.Strokes.map cSStroke), .i a1.Wait], .lv 6 (a2.1.map AV.bool)]⟩) (by kernel_rfl) ?_
            refine Gh_trunc0 (by kernel_rfl) ?_
            refine Gh_nil ?_
            replace h := Option.some.inj h; subst h
            exact ⟨_, rfl, by kernel_rfl⟩
        · replace h := fork_f c10 h
          refine W_exit ?_
          refine X_hit ?_
          refine Gh_one (s1 := ⟨⟨45, []⟩, [.lv 2 [.i a0.Actuators, .ro (a0.Steps.map cSStep)], .lv 2 [.ro (a1.Strokes.map cSStroke), .i a1.Wait], .lv 6 (a2.1.map AV.bool)]⟩) (by kernel_rfl) ?_
          refine Gh_trunc0 (by kernel_rfl) ?_
          refine Gh_nil ?_
          replace h := Option.some.inj h; subst h
          exact ⟨_, rfl, by kernel_rfl⟩
      · refine W_seq ?_
        refine W_reg ?_
        refine O_p 1 ?_
        refine O_nil ?_
        refine W_ret ?_
        replace h := Option.some.inj h; subst h
        exact Fin_free (l := [.i 0]) (by kernel_rfl) (by kernel_rfl) rfl

theorem p66 (a0 : (Arr 6 Bool)) (a1 : SStep) (r : (Arr 6 Bool)) (h : m66 a0 a1 = some r) : Pt E0 hp 66 [.agg ((cA AV.bool) a0), .agg (cSStep a1)] (.agg (r.1.map AV.bool)) := by
  unfold m66 at h
  refine Pt_W (fn66) rfl (by decide) ?_
  refine W_seq ?_
  refine W_gh ?_
  refine W_reg ?_
  refine O_boxA AV.bool (by kernel_rfl) (a := a0) (by kernel_rfl) (fun _ => rfl) ?_
  refine O_p 2 ?_
  refine O_nil ?_
  refine Gh_e ⟨⟨21, [(2, .po 0 0), (3, .po 1 0), (4, .po 2 0)]⟩, [.lv 6 (a0.1.map AV.bool), .lv 2 [.ro (a1.Strokes.map cSStroke), .i a1.Wait], .lv 6 ((Arr.rep 6 false).1.map AV.bool)]⟩ ?_
  refine W_seq ?_
  refine W_seq ?_
  refine W_gh ?_
  refine W_reg ?_
  refine O_p 2 ?_
  refine O_len (l := a1.Strokes) cSStroke (by kernel_rfl) (by kernel_rfl) ?_
  refine O_p 1 ?_
  refine O_nil ?_
  refine Gh_e ⟨⟨21, [(2, .po 0 0), (4, .po 2 0), (8, .ro (a1.Strokes.map cSStroke)), (9, .i (a1.Strokes.length : Int)), (10, .i 0)]⟩, [.lv 6 (a0.1.map AV.bool), .lv 2 [.ro (a1.Strokes.map cSStroke), .i a1.Wait], .lv 6 ((Arr.rep 6 false).1.map AV.bool)]⟩ ?_
  refine W_loopS (fun s1 : (Arr 6 Bool) × Int => ⟨⟨21, [(2, .po 0 0), (4, .po 2 0), (8, .ro (a1.Strokes.map cSStroke)), (9, .i (a1.Strokes.length : Int)), (10, .i s1.2)]⟩, [.lv 6 (s1.1.1.map AV.bool), .lv 2 [.ro (a1.Strokes.map cSStroke), .i a1.Wait], .lv 6 ((Arr.rep 6 false).1.map AV.bool)]⟩) (fun w2 : (Arr 6 Bool) => ⟨⟨21, [(2, .po 0 0), (4, .po 2 0)]⟩, [.lv 6 (w2.1.map AV.bool), .lv 2 [.ro (a1.Strokes.map cSStroke), .i a1.Wait], .lv 6 ((Arr.rep 6 false).1.map AV.bool)]⟩) h (by kernel_rfl) (fun s1 c h => ?_) (fun w2 e_w2 h => ?_)
  · refine W_gh ?_
    refine W_seq ?_
    refine W_reg ?_
    refine O_p 1 ?_
    refine O_nil ?_
    refine W_seq ?_
    refine W_gh ?_
    refine W_cond (c := (decide (s1.2 < (a1.Strokes.length : Int)))) (by kernel_rfl) (fun c3 => ?_) (fun c3 => ?_)
    · replace h := fork_t c3 h
      refine W_skip ?_
      refine Gh_e ⟨⟨21, [(2, .po 0 0), (4, .po 2 0), (8, .ro (a1.Strokes.map cSStroke)), (9, .i (a1.Strokes.length : Int)), (10, .i s1.2)]⟩, [.lv 6 (s1.1.1.map AV.bool), .lv 2 [.ro (a1.Strokes.map cSStroke), .i a1.Wait], .lv 6 ((Arr.rep 6 false).1.map AV.bool)]⟩ ?_
      refine W_seq ?_
      refine W_gh ?_
      refine W_block ?_
      refine W_seq ?_
      refine W_gh ?_
      refine W_reg ?_
      refine O_idx (kd := .i64) cSStroke h (fun _ => rfl) (by kernel_rfl) (by kernel_rfl) (by kernel_rfl) (fun v4 e_v4 h => ?_)
      refine O_p 3 ?_
      refine O_nil ?_
      refine Gh_e ⟨⟨21, [(2, .po 0 0), (4, .po 2 0), (6, .po 3 0), (8, .ro (a1.Strokes.map cSStroke)), (9, .i (a1.Strokes.length : Int)), (10, .i s1.2)]⟩, [.lv 6 (s1.1.1.map AV.bool), .lv 2 [.ro (a1.Strokes.map cSStroke), .i a1.Wait], .lv 6 ((Arr.rep 6 false).1.map AV.bool), .lv 2 [.i v4.Actuator, .bool v4.Out]]⟩ ?_
      refine W_gh ?_
      refine W_reg ?_
      refine O_p 4 ?_
      refine O_iadB (kd := .i64) (id := 0) AV.bool h (by kernel_rfl) (by kernel_rfl) (by kernel_rfl) (by kernel_rfl) (fun v5 e_v5 h => ?_)
      refine O_stA (id := 0) AV.bool e_v5 (by kernel_rfl) (by kernel_rfl) (by kernel_rfl) (v := v4.Out) (by kernel_rfl) (fun _ => rfl) (fun _ => rfl) ?_
      refine O_nil ?_
      refine Gh_e ⟨⟨21, [(2, .po 0 0), (4, .po 2 0), (8, .ro (a1.Strokes.map cSStroke)), (9, .i (a1.Strokes.length : Int)), (10, .i s1.2)]⟩, [.lv 6 ((s1.1.put v4.Actuator.toNat v4.Out).1.map AV.bool), .lv 2 [.ro (a1.Strokes.map cSStroke), .i a1.Wait], .lv 6 ((Arr.rep 6 false).1.map AV.bool), .lv 2 [.i v4.Actuator, .bool v4.Out]]⟩ ?_
      refine Gh_one (s1 := ⟨⟨21, [(2, .po 0 0), (4, .po 2 0), (8, .ro (a1.Strokes.map cSStroke)), (9, .i (a1.Strokes.length : Int)), (10, .i s1.2)]⟩, [.lv 6 ((s1.1.put v4.Actuator.toNat v4.Out).1.map AV.bool), .lv 2 [.ro (a1.Strokes.map cSStroke), .i a1.Wait], .lv 6 ((Arr.rep 6 false).1.map AV.bool), .lv 2 [.i v4.Actuator, .bool v4.Out]]⟩) (by kernel_rfl) ?_
      refine Gh_at (s1 := ⟨⟨21, [(2, .po 0 0), (4, .po 2 0), (8, .ro (a1.Strokes.map cSStroke)), (9, .i (a1.Strokes.length : Int)), (10, .i s1.2)]⟩, [.lv 6 ((s1.1.put v4.Actuator.toNat v4.Out).1.map AV.bool), .lv 2 [.ro (a1.Strokes.map cSStroke), .i a1.Wait], .lv 6 ((Arr.rep 6 false).1.map AV.bool), .lv 2 [.i v4.Actuator, .bool v4.Out]]⟩) (by kernel_rfl) ?_
      refine Gh_trunc (s1 := ⟨⟨21, [(2, .po 0 0), (4, .po 2 0), (8, .ro (a1.Strokes.map cSStroke)), (9, .i (a1.Strokes.length : Int)), (10, .i s1.2)]⟩, [.lv 6 ((s1.1.put v4.Actuator.toNat v4.Out).1.map AV.bool), .lv 2 [.ro (a1.Strokes.map cSStroke), .i a1.Wait], .lv 6 ((Arr.rep 6 false).1.map AV.bool)]⟩) (by kernel_rfl) (tb_ref rfl (tb_ref rfl (tb_free (ro_bel okSStroke.bel _) (tb_free rfl (tb_free rfl rfl))))) (H1 := [.lv 6 ((s1.1.put v4.Actuator.toNat v4.Out).1.map AV.bool), .lv 2 [.ro (a1.Strokes.map cSStroke), .i a1.Wait], .lv 6 ((Arr.rep 6 false).1.map AV.bool)]) (by kernel_rfl) (ob_boxn (bels_mono (Nat.zero_le _) _ (bels_arr (fun _ => rfl) _)) (ob_boxn (bn_free (ro_bel okSStroke.bel _) (bn_free rfl rfl)) (ob_boxn (bels_mono (Nat.zero_le _) _ (bels_arr (fun _ => rfl) _)) rfl))) (by kernel_rfl) ?_
      refine Gh_nil ?_
      refine W_gh ?_
      refine W_reg ?_
      refine O_p 2 ?_
      refine O_nil ?_
      refine Gh_e ⟨⟨21, [(2, .po 0 0), (4, .po 2 0), (8, .ro (a1.Strokes.map cSStroke)), (9, .i (a1.Strokes.length : Int)), (10, .i (addI .i64 s1.2 1))]⟩, [.lv 6 ((s1.1.put v4.Actuator.toNat v4.Out).1.map AV.bool), .lv 2 [.ro (a1.Strokes.map cSStroke), .i a1.Wait], .lv 6 ((Arr.rep 6 false).1.map AV.bool)]⟩ ?_
      refine Gh_one (s1 := ⟨⟨21, [(2, .po 0 0), (4, .po 2 0), (8, .ro (a1.Strokes.map cSStroke)), (9, .i (a1.Strokes.length : Int)), (10, .i (addI .i64 s1.2 1))]⟩, [.lv 6 ((s1.1.put v4.Actuator.toNat v4.Out).1.map AV.bool), .lv 2 [.ro (a1.Strokes.map cSStroke), .i a1.Wait], .lv 6 ((Arr.rep 6 false).1.map AV.bool)]⟩) (by kernel_rfl) ?_
      refine Gh_trunc0 (by kernel_rfl) ?_
      refine Gh_nil ?_
      replace h := Option.some.inj h; subst h
      exact ⟨_, rfl, by kernel_rfl⟩
    · replace h := fork_f c3 h
      refine W_exit ?_
      refine X_hit ?_
      refine Gh_one (s1 := ⟨⟨21, [(2, .po 0 0), (4, .po 2 0)]⟩, [.lv 6 (s1.1.1.map AV.bool), .lv 2 [.ro (a1.Strokes.map cSStroke), .i a1.Wait], .lv 6 ((Arr.rep 6 false).1.map AV.bool)]⟩) (by kernel_rfl) ?_
      refine Gh_trunc0 (by kernel_rfl) ?_
      refine Gh_nil ?_
      replace h := Option.some.inj h; subst h
      exact ⟨_, rfl, by kernel_rfl⟩
  · refine W_seq ?_
    refine W_gh ?_
    refine W_reg ?_
    refine O_ldW (id := 0) (c1 := AV.bool) (a := w2) (by kernel_rfl) (by kernel_rfl) (by kernel_rfl) ?_
    refine O_stB (id := 2) (c1 := AV.bool) (a := w2) (old := ((Arr.rep 6 false).1.map AV.bool)) (by kernel_rfl) (by kernel_rfl) (by kernel_rfl) (by kernel_rfl) (fun _ => rfl) (by simp [Arr.len]) ?_
    refine O_nil ?_
    refine Gh_e ⟨⟨21, [(4, .po 2 0)]⟩, [.lv 6 (w2.1.map AV.bool), .lv 2 [.ro (a1.Strokes.map cSStroke), .i a1.Wait], .lv 6 (w2.1.map AV.bool)]⟩ ?_
    refine W_ret ?_
    replace h := Option.some.inj h; subst h
    exact Fin_free (l := [.agg (w2.1.map AV.bool)]) (res_arr (id := 2) (by kernel_rfl) (by kernel_rfl)) (by kernel_rfl) (bels_arr (fun _ => rfl) _)

theorem p80 (a0 : (List Bool)) (a1 : Bool) (r : Int) (h : m80 a0 a1 = some r) : Pt E0 hp 80 [.ro (a0.map cB), .bool a1] (.i r) := by
  unfold m80 at h
  refine Pt_W (fn80) rfl (by decide) ?_
  refine W_seq ?_
  refine W_gh ?_
  refine W_reg ?_
  refine O_p 1 ?_
  refine O_nil ?_
  refine Gh_e ⟨⟨19, [(0, .ro (a0.map cB)), (1, .bool a1)]⟩, []⟩ ?_
  refine W_seq ?_
  refine W_seq ?_
  refine W_gh ?_
  refine W_reg ?_
  refine O_p 1 ?_
  refine O_len (l := a0) cB (by kernel_rfl) (by kernel_rfl) ?_
  refine O_p 1 ?_
  refine O_nil ?_
  refine Gh_e ⟨⟨19, [(0, .ro (a0.map cB)), (1, .bool a1), (7, .i (a0.length : Int)), (8, .i 0)]⟩, []⟩ ?_
  refine W_loop (fun s1 : Int => ⟨⟨19, [(0, .ro (a0.map cB)), (1, .bool a1), (7, .i (a0.length : Int)), (8, .i s1)]⟩, []⟩) (fun w2 : Unit => ⟨⟨19, []⟩, []⟩) h (by kernel_rfl) (fun s1 c h => ?_) (fun w2 h => ?_)
  · refine W_gh ?_
    refine W_seq ?_
    refine W_reg ?_
    refine O_p 1 ?_
    refine O_nil ?_
    refine W_seq ?_
    refine W_gh ?_
    refine W_cond (c := (decide (s1 < (a0.length : Int)))) (by kernel_rfl) (fun c3 => ?_) (fun c3 => ?_)
    · replace h := fork_t c3 h
      refine W_skip ?_
      refine Gh_e ⟨⟨19, [(0, .ro (a0.map cB)), (1, .bool a1), (7, .i (a0.length : Int)), (8, .i s1)]⟩, []⟩ ?_
      refine W_seq ?_
      refine W_gh ?_
      refine W_block ?_
      refine W_seq ?_
      refine W_gh ?_
      refine W_reg ?_
      refine O_p 2 ?_
      refine O_nil ?_
      refine Gh_e ⟨⟨19, [(0, .ro (a0.map cB)), (1, .bool a1), (5, .i s1), (7, .i (a0.length : Int)), (8, .i s1)]⟩, []⟩ ?_
      refine W_seq ?_
      refine W_gh ?_
      refine W_reg ?_
      refine O_p 3 ?_
      refine O_idx (kd := .i64) cB h (fun _ => rfl) (by kernel_rfl) (by kernel_rfl) (by kernel_rfl) (fun v4 e_v4 h => ?_)
      refine O_p 2 ?_
      refine O_nil ?_
      refine Gh_e ⟨⟨19, [(0, .ro (a0.map cB)), (1, .bool a1), (5, .i s1), (7, .i (a0.length : Int)), (8, .i s1), (16, .bool ((a1 == v4) != false))]⟩, []⟩ ?_
      refine W_gh ?_
      refine W_cond (c := ((a1 == v4) != false)) (by kernel_rfl) (fun c5 => ?_) (fun c5 => ?_)
      · replace h := fork_t c5 h
        refine W_seq ?_
        refine W_gh ?_
        refine W_reg ?_
        refine O_p 2 ?_
        refine O_nil ?_
        refine Gh_e ⟨⟨19, [(0, .ro (a0.map cB)), (1, .bool a1), (4, .i s1), (7, .i (a0.length : Int)), (8, .i s1), (16, .bool ((a1 == v4) != false))]⟩, []⟩ ?_
        refine W_ret ?_
        replace h := Option.some.inj h; subst h
        refine ⟨_, rfl, fun h => ?_⟩
        replace h := Option.some.inj h; subst h
        exact Fin_free (l := [.i s1]) (by kernel_rfl) (by kernel_rfl) rfl
      · replace h := fork_f c5 h
        refine W_skip ?_
        refine Gh_e ⟨⟨19, [(0, .ro (a0.map cB)), (1, .bool a1), (7, .i (a0.length : Int)), (8, .i s1)]⟩, []⟩ ?_
        refine Gh_e ⟨⟨19, [(0, .ro (a0.map cB)), (1, .bool a1), (7, .i (a0.length : Int)), (8, .i s1)]⟩, []⟩ ?_
        refine W_gh ?_
        refine W_reg ?_
        refine O_p 2 ?_
        refine O_nil ?_
        refine Gh_e ⟨⟨19, [(0, .ro (a0.map cB)), (1, .bool a1), (7, .i (a0.length : Int)), (8, .i (addI .i64 s1 1))]⟩, []⟩ ?_
        refine Gh_e ⟨⟨19, [(0, .ro (a0.map cB)), (1, .bool a1), (7, .i (a0.length : Int)), (8, .i (addI .i64 s1 1))]⟩, []⟩ ?_
        replace h := Option.some.inj h; subst h
        exact ⟨_, rfl, by kernel_rfl⟩
    · replace h := fork_f c3 h
      refine W_exit ?_
      refine X_hit ?_
      refine Gh_e ⟨⟨19, []⟩, []⟩ ?_
      replace h := Option.some.inj h; subst h
      exact ⟨_, rfl, by kernel_rfl⟩
  · refine W_seq ?_
    refine W_reg ?_
    refine O_p 1 ?_
    refine O_nil ?_
    refine W_ret ?_
    replace h := Option.some.inj h; subst h
    exact Fin_free (l := [.i (-1)]) (by kernel_rfl) (by kernel_rfl) rfl
end G17
