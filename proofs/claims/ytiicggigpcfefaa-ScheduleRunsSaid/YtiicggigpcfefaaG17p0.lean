/- The code computes the models, printed by a program of mine (dec.py). No condition. -/
import Derived.Test.YtiicggigpcfefaaG17E
import Derived.Test.YtiicggigpcfefaaG17r
namespace G17
open Go Go.Pl Go.Am Go.Am.As
set_option linter.unusedVariables false
set_option linter.unusedSimpArgs false
set_option maxHeartbeats 1000000

theorem p43 (a0 : SSequence) (r : Bool) (h : m43 a0 = some r) : Pt E0 hp 43 [.agg (cSSequence a0)] (.bool r) := by
  unfold m43 at h
  refine Pt_W (fn43) rfl (by decide) ?_
  refine W_seq ?_
  refine W_gh ?_
  refine W_reg ?_
  refine O_p 2 ?_
  refine O_nil ?_
  refine Gh_e ⟨⟨23, [(1, .po 0 0)]⟩, [.lv 2 [.i a0.Actuators, .ro (a0.Steps.map cSStep)]]⟩ ?_
  refine W_seq ?_
  refine W_seq ?_
  refine W_gh ?_
  refine W_reg ?_
  refine O_p 2 ?_
  refine O_len (l := a0.Steps) cSStep (by kernel_rfl) (by kernel_rfl) ?_
  refine O_p 1 ?_
  refine O_nil ?_
  refine Gh_e ⟨⟨23, [(1, .po 0 0), (7, .bool (decide ((a0.Steps.length : Int) > 128)))]⟩, [.lv 2 [.i a0.Actuators, .ro (a0.Steps.map cSStep)]]⟩ ?_
  refine W_gh ?_
  refine W_cond (c := (decide ((a0.Steps.length : Int) > 128))) (by kernel_rfl) (fun c1 => ?_) (fun c1 => ?_)
  · replace h := fork_t c1 h
    refine W_seq ?_
    refine W_reg ?_
    refine O_p 1 ?_
    refine O_nil ?_
    refine W_ret ?_
    replace h := Option.some.inj h; subst h
    exact Fin_free (l := [.bool false]) (by kernel_rfl) (by kernel_rfl) rfl
  · replace h := fork_f c1 h
    refine W_skip ?_
    refine Gh_e ⟨⟨23, [(1, .po 0 0)]⟩, [.lv 2 [.i a0.Actuators, .ro (a0.Steps.map cSStep)]]⟩ ?_
    refine W_seq ?_
    refine W_seq ?_
    refine W_reg ?_
    refine O_p 1 ?_
    refine O_nil ?_
    refine W_loop (fun s2 : Int => ⟨⟨23, [(1, .po 0 0), (3, .i s2)]⟩, [.lv 2 [.i a0.Actuators, .ro (a0.Steps.map cSStep)]]⟩) (fun w3 : Unit => ⟨⟨23, []⟩, [.lv 2 [.i a0.Actuators, .ro (a0.Steps.map cSStep)]]⟩) h (by kernel_rfl) (fun s2 c h => ?_) (fun w3 h => ?_)
    · refine W_gh ?_
      refine W_seq ?_
      refine W_seq ?_
      refine W_gh ?_
      refine W_reg ?_
      refine O_p 3 ?_
      refine O_len (l := a0.Steps) cSStep (by kernel_rfl) (by kernel_rfl) ?_
      refine O_p 1 ?_
      refine O_nil ?_
      refine Gh_e ⟨⟨23, [(1, .po 0 0), (3, .i s2), (12, .bool (decide (s2 < (a0.Steps.length : Int))))]⟩, [.lv 2 [.i a0.Actuators, .ro (a0.Steps.map cSStep)]]⟩ ?_
      refine W_gh ?_
      refine W_cond (c := (decide (s2 < (a0.Steps.length : Int)))) (by kernel_rfl) (fun c4 => ?_) (fun c4 => ?_)
      · replace h := fork_t c4 h
        refine W_skip ?_
        refine Gh_e ⟨⟨23, [(1, .po 0 0), (3, .i s2)]⟩, [.lv 2 [.i a0.Actuators, .ro (a0.Steps.map cSStep)]]⟩ ?_
        refine W_seq ?_
        refine W_gh ?_
        refine W_block ?_
        refine W_seq ?_
        refine W_gh ?_
        refine W_reg ?_
        refine O_p 3 ?_
        refine O_idx (kd := .i64) cSStep h (fun _ => rfl) (by kernel_rfl) (by kernel_rfl) (by kernel_rfl) (fun v5 e_v5 h => ?_)
        refine O_p 2 ?_
        refine O_len (l := v5.Strokes) cSStroke (by kernel_rfl) (by kernel_rfl) ?_
        refine O_p 1 ?_
        refine O_nil ?_
        refine Gh_e ⟨⟨23, [(1, .po 0 0), (3, .i s2), (22, .bool (decide ((v5.Strokes.length : Int) > 40)))]⟩, [.lv 2 [.i a0.Actuators, .ro (a0.Steps.map cSStep)]]⟩ ?_
        refine W_gh ?_
        refine W_cond (c := (decide ((v5.Strokes.length : Int) > 40))) (by kernel_rfl) (fun c6 => ?_) (fun c6 => ?_)
        · replace h := fork_t c6 h
          refine W_seq ?_
          refine W_reg ?_
          refine O_p 1 ?_
          refine O_nil ?_
          refine W_ret ?_
          replace h := Option.some.inj h; subst h
          refine ⟨_, rfl, fun h => ?_⟩
          replace h := Option.some.inj h; subst h
          exact Fin_free (l := [.bool false]) (by kernel_rfl) (by kernel_rfl) rfl
        · replace h := fork_f c6 h
          refine W_skip ?_
          refine Gh_e ⟨⟨23, [(1, .po 0 0), (3, .i s2)]⟩, [.lv 2 [.i a0.Actuators, .ro (a0.Steps.map cSStep)]]⟩ ?_
          refine Gh_e ⟨⟨23, [(1, .po 0 0), (3, .i s2)]⟩, [.lv 2 [.i a0.Actuators, .ro (a0.Steps.map cSStep)]]⟩ ?_
          refine W_gh ?_
          refine W_reg ?_
          refine O_p 3 ?_
          refine O_nil ?_
          refine Gh_e ⟨⟨23, [(1, .po 0 0), (3, .i (addI .i64 s2 1))]⟩, [.lv 2 [.i a0.Actuators, .ro (a0.Steps.map cSStep)]]⟩ ?_
          refine Gh_e ⟨⟨23, [(1, .po 0 0), (3, .i (addI .i64 s2 1))]⟩, [.lv 2 [.i a0.Actuators, .ro (a0.Steps.map cSStep)]]⟩ ?_
          replace h := Option.some.inj h; subst h
          exact ⟨_, rfl, by kernel_rfl⟩
      · replace h := fork_f c4 h
        refine W_exit ?_
        refine X_hit ?_
        refine Gh_e ⟨⟨23, []⟩, [.lv 2 [.i a0.Actuators, .ro (a0.Steps.map cSStep)]]⟩ ?_
        replace h := Option.some.inj h; subst h
        exact ⟨_, rfl, by kernel_rfl⟩
    · refine W_seq ?_
      refine W_reg ?_
      refine O_p 1 ?_
      refine O_nil ?_
      refine W_ret ?_
      replace h := Option.some.inj h; subst h
      exact Fin_free (l := [.bool true]) (by kernel_rfl) (by kernel_rfl) rfl

theorem p85 (a0 : Int) (r : Bool) (h : m85 a0 = some r) : Pt E0 hp 85 [.i a0] (.bool r) := by
  unfold m85 at h
  refine Pt_W (fn85) rfl (by decide) ?_
  refine W_seq ?_
  refine W_gh ?_
  refine W_reg ?_
  refine O_p 1 ?_
  refine O_nil ?_
  refine Gh_e ⟨⟨9, [(0, .i a0)]⟩, []⟩ ?_
  refine W_seq ?_
  refine W_cut ⟨⟨9, [(2, .bool ((decide (a0 ≥ 0)) && (decide (a0 < 6))))]⟩, []⟩ ?_ ?_
  · generalize e_g1 : ((decide (a0 ≥ 0)) && (decide (a0 < 6))) = g1
    refine W_gh ?_
    refine W_reg ?_
    refine O_p 3 ?_
    refine O_fork (n := 5) (decide (a0 ≥ 0)) (by kernel_rfl) (fun c2 => ?_) (fun c2 => ?_)
    · skip
      refine O_p 4 ?_
      refine O_nil ?_
      refine Gh_e ⟨⟨9, [(2, .bool (decide (a0 < 6)))]⟩, []⟩ ?_
      have q := e_g1; simp only [c2, cond_true, cond_false, Bool.true_and, Bool.false_and, Bool.true_or, Bool.false_or] at q; subst q
      show _ = _
      kernel_rfl
    · skip
      refine O_p 4 ?_
      refine O_nil ?_
      refine Gh_e ⟨⟨9, [(2, .bool false)]⟩, []⟩ ?_
      have q := e_g1; simp only [c2, cond_true, cond_false, Bool.true_and, Bool.false_and, Bool.true_or, Bool.false_or] at q; subst q
      show _ = _
      kernel_rfl
  · refine W_ret ?_
    replace h := Option.some.inj h; subst h
    exact Fin_free (l := [.bool ((decide (a0 ≥ 0)) && (decide (a0 < 6)))]) (by kernel_rfl) (by kernel_rfl) rfl

theorem p74 (a0 : Int) (r : Bool) (h : m74 a0 = some r) : Pt E0 hp 74 [.i a0] (.bool r) := by
  unfold m74 at h
  refine Pt_W (fn74) rfl (by decide) ?_
  refine W_seq ?_
  refine W_gh ?_
  refine W_reg ?_
  refine O_p 1 ?_
  refine O_nil ?_
  refine Gh_e ⟨⟨9, [(0, .i a0)]⟩, []⟩ ?_
  refine W_seq ?_
  refine W_cut ⟨⟨9, [(2, .bool ((decide (a0 ≥ 0)) && (decide (a0 ≤ 1000000))))]⟩, []⟩ ?_ ?_
  · generalize e_g1 : ((decide (a0 ≥ 0)) && (decide (a0 ≤ 1000000))) = g1
    refine W_gh ?_
    refine W_reg ?_
    refine O_p 3 ?_
    refine O_fork (n := 5) (decide (a0 ≥ 0)) (by kernel_rfl) (fun c2 => ?_) (fun c2 => ?_)
    · skip
      refine O_p 4 ?_
      refine O_nil ?_
      refine Gh_e ⟨⟨9, [(2, .bool (decide (a0 ≤ 1000000)))]⟩, []⟩ ?_
      have q := e_g1; simp only [c2, cond_true, cond_false, Bool.true_and, Bool.false_and, Bool.true_or, Bool.false_or] at q; subst q
      show _ = _
      kernel_rfl
    · skip
      refine O_p 4 ?_
      refine O_nil ?_
      refine Gh_e ⟨⟨9, [(2, .bool false)]⟩, []⟩ ?_
      have q := e_g1; simp only [c2, cond_true, cond_false, Bool.true_and, Bool.false_and, Bool.true_or, Bool.false_or] at q; subst q
      show _ = _
      kernel_rfl
  · refine W_ret ?_
    replace h := Option.some.inj h; subst h
    exact Fin_free (l := [.bool ((decide (a0 ≥ 0)) && (decide (a0 ≤ 1000000)))]) (by kernel_rfl) (by kernel_rfl) rfl

theorem p81 (a0 : SStep) (r : Int) (h : m81 a0 = some r) : Pt E0 hp 81 [.agg (cSStep a0)] (.i r) := by
  unfold m81 at h
  refine Pt_W (fn81) rfl (by decide) ?_
  refine W_seq ?_
  refine W_gh ?_
  refine W_reg ?_
  refine O_p 2 ?_
  refine O_nil ?_
  refine Gh_e ⟨⟨67, [(1, .po 0 0)]⟩, [.lv 2 [.ro (a0.Strokes.map cSStroke), .i a0.Wait]]⟩ ?_
  refine W_seq ?_
  refine W_seq ?_
  refine W_gh ?_
  refine W_reg ?_
  refine O_p 2 ?_
  refine O_len (l := a0.Strokes) cSStroke (by kernel_rfl) (by kernel_rfl) ?_
  refine O_p 1 ?_
  refine O_nil ?_
  refine Gh_e ⟨⟨67, [(1, .po 0 0), (7, .bool ((a0.Strokes.length : Int) == 0))]⟩, [.lv 2 [.ro (a0.Strokes.map cSStroke), .i a0.Wait]]⟩ ?_
  refine W_gh ?_
  refine W_cond (c := ((a0.Strokes.length : Int) == 0)) (by kernel_rfl) (fun c1 => ?_) (fun c1 => ?_)
  · replace h := fork_t c1 h
    refine W_seq ?_
    refine W_reg ?_
    refine O_p 1 ?_
    refine O_nil ?_
    refine W_ret ?_
    replace h := Option.some.inj h; subst h
    exact Fin_free (l := [.i 13]) (by kernel_rfl) (by kernel_rfl) rfl
  · replace h := fork_f c1 h
    refine W_skip ?_
    refine Gh_e ⟨⟨67, [(1, .po 0 0)]⟩, [.lv 2 [.ro (a0.Strokes.map cSStroke), .i a0.Wait]]⟩ ?_
    refine W_seq ?_
    refine W_seq ?_
    refine W_gh ?_
    refine W_reg ?_
    refine O_p 2 ?_
    refine O_len (l := a0.Strokes) cSStroke (by kernel_rfl) (by kernel_rfl) ?_
    refine O_p 1 ?_
    refine O_nil ?_
    refine Gh_e ⟨⟨67, [(1, .po 0 0), (11, .bool (decide ((a0.Strokes.length : Int) > 6)))]⟩, [.lv 2 [.ro (a0.Strokes.map cSStroke), .i a0.Wait]]⟩ ?_
    refine W_gh ?_
    refine W_cond (c := (decide ((a0.Strokes.length : Int) > 6))) (by kernel_rfl) (fun c2 => ?_) (fun c2 => ?_)
    · replace h := fork_t c2 h
      refine W_seq ?_
      refine W_reg ?_
      refine O_p 1 ?_
      refine O_nil ?_
      refine W_ret ?_
      replace h := Option.some.inj h; subst h
      exact Fin_free (l := [.i 5]) (by kernel_rfl) (by kernel_rfl) rfl
    · replace h := fork_f c2 h
      refine W_skip ?_
      refine Gh_e ⟨⟨67, [(1, .po 0 0)]⟩, [.lv 2 [.ro (a0.Strokes.map cSStroke), .i a0.Wait]]⟩ ?_
      refine W_seq ?_
      refine W_seq ?_
      refine W_reg ?_
      refine O_p 1 ?_
      refine O_nil ?_
      refine W_loop (fun s3 : Int => ⟨⟨67, [(1, .po 0 0), (3, .i s3)]⟩, [.lv 2 [.ro (a0.Strokes.map cSStroke), .i a0.Wait]]⟩) (fun w4 : Unit => ⟨⟨67, [(1, .po 0 0)]⟩, [.lv 2 [.ro (a0.Strokes.map cSStroke), .i a0.Wait]]⟩) h (by kernel_rfl) (fun s3 c h => ?_) (fun w4 h => ?_)
      · refine W_gh ?_
        refine W_seq ?_
        refine W_seq ?_
        refine W_gh ?_
        refine W_reg ?_
        refine O_p 3 ?_
        refine O_len (l := a0.Strokes) cSStroke (by kernel_rfl) (by kernel_rfl) ?_
        refine O_p 1 ?_
        refine O_nil ?_
        refine Gh_e ⟨⟨67, [(1, .po 0 0), (3, .i s3), (16, .bool (decide (s3 < (a0.Strokes.length : Int))))]⟩, [.lv 2 [.ro (a0.Strokes.map cSStroke), .i a0.Wait]]⟩ ?_
        refine W_gh ?_
        refine W_cond (c := (decide (s3 < (a0.Strokes.length : Int)))) (by kernel_rfl) (fun c5 => ?_) (fun c5 => ?_)
        · replace h := fork_t c5 h
          refine W_skip ?_
          refine Gh_e ⟨⟨67, [(1, .po 0 0), (3, .i s3)]⟩, [.lv 2 [.ro (a0.Strokes.map cSStroke), .i a0.Wait]]⟩ ?_
          refine W_seq ?_
          refine W_gh ?_
          refine W_block ?_
          refine W_seq ?_
          refine W_seq ?_
          refine W_gh ?_
          refine W_reg ?_
          refine O_p 3 ?_
          refine O_idx (kd := .i64) cSStroke h (fun _ => rfl) (by kernel_rfl) (by kernel_rfl) (by kernel_rfl) (fun v6 e_v6 h => ?_)
          refine O_p 2 ?_
          refine O_call (fun v => .bool v) h (.inr rfl) (ys := [.i v6.Actuator]) (fun _ e => p85 _ _ e) (by kernel_rfl) (by kernel_rfl) (bels_cons rfl rfl) (fun v7 e_v7 h => ?_)
          refine O_p 1 ?_
          refine O_nil ?_
          refine Gh_e ⟨⟨67, [(1, .po 0 0), (3, .i s3), (26, .bool (!v7))]⟩, [.lv 2 [.ro (a0.Strokes.map cSStroke), .i a0.Wait]]⟩ ?_
          refine W_gh ?_
          refine W_cond (c := (!v7)) (by kernel_rfl) (fun c8 => ?_) (fun c8 => ?_)
          · replace h := fork_t c8 h
            refine W_seq ?_
            refine W_reg ?_
            refine O_p 1 ?_
            refine O_nil ?_
            refine W_ret ?_
            replace h := Option.some.inj h; subst h
            refine ⟨_, rfl, fun h => ?_⟩
            replace h := Option.some.inj h; subst h
            exact Fin_free (l := [.i 2]) (by kernel_rfl) (by kernel_rfl) rfl
          · replace h := fork_f c8 h
            refine W_skip ?_
            refine Gh_e ⟨⟨67, [(1, .po 0 0), (3, .i s3)]⟩, [.lv 2 [.ro (a0.Strokes.map cSStroke), .i a0.Wait]]⟩ ?_
            refine W_seq ?_
            refine W_seq ?_
            refine W_joinS (fun v : Bool => ⟨⟨67, [(1, .po 0 0), (3, .i s3), (44, .bool v)]⟩, [.lv 2 [.ro (a0.Strokes.map cSStroke), .i a0.Wait]]⟩) h (fun w h => ?_) (fun w9 e_w9 h => ?_)
            · refine W_gh ?_
              refine W_draw ?_
              refine O_p 3 ?_
              refine O_fork (n := 29) (decide (s3 > 0)) (by kernel_rfl) (fun c10 => ?_) (fun c10 => ?_)
              · replace h := fork_t c10 h
                refine O_p 3 ?_
                refine O_idx (kd := .i64) cSStroke h (fun _ => rfl) (by kernel_rfl) (by kernel_rfl) (by kernel_rfl) (fun v11 e_v11 h => ?_)
                refine O_p 6 ?_
                refine O_idx (kd := .i64) cSStroke h (fun _ => rfl) (by kernel_rfl) (by kernel_rfl) (by kernel_rfl) (fun v12 e_v12 h => ?_)
                refine O_p 4 ?_
                refine O_nil ?_
                refine Gh_e ⟨⟨67, [(1, .po 0 0), (3, .i s3), (44, .bool (v11.Actuator == v12.Actuator))]⟩, [.lv 2 [.ro (a0.Strokes.map cSStroke), .i a0.Wait]]⟩ ?_
                replace h := Option.some.inj h; subst h
                show _ = _
                kernel_rfl
              · replace h := fork_f c10 h
                refine O_p 15 ?_
                refine O_nil ?_
                refine Gh_e ⟨⟨67, [(1, .po 0 0), (3, .i s3), (44, .bool false)]⟩, [.lv 2 [.ro (a0.Strokes.map cSStroke), .i a0.Wait]]⟩ ?_
                replace h := Option.some.inj h; subst h
                show _ = _
                kernel_rfl
            · refine W_gh ?_
              refine W_cond (c := w9) (by kernel_rfl) (fun c13 => ?_) (fun c13 => ?_)
              · replace h := fork_t c13 h
                refine W_seq ?_
                refine W_reg ?_
                refine O_p 1 ?_
                refine O_nil ?_
                refine W_ret ?_
                replace h := Option.some.inj h; subst h
                refine ⟨_, rfl, fun h => ?_⟩
                replace h := Option.some.inj h; subst h
                exact Fin_free (l := [.i 7]) (by kernel_rfl) (by kernel_rfl) rfl
              · replace h := fork_f c13 h
                refine W_skip ?_
                refine Gh_e ⟨⟨67, [(1, .po 0 0), (3, .i s3)]⟩, [.lv 2 [.ro (a0.Strokes.map cSStroke), .i a0.Wait]]⟩ ?_
                refine W_seq ?_
                refine W_joinS (fun v : Bool => ⟨⟨67, [(1, .po 0 0), (3, .i s3), (62, .bool v)]⟩, [.lv 2 [.ro (a0.Strokes.map cSStroke), .i a0.Wait]]⟩) h (fun w h => ?_) (fun w14 e_w14 h => ?_)
                · refine W_gh ?_
                  refine W_draw ?_
                  refine O_p 3 ?_
                  refine O_fork (n := 47) (decide (s3 > 0)) (by kernel_rfl) (fun c15 => ?_) (fun c15 => ?_)
                  · replace h := fork_t c15 h
                    refine O_p 3 ?_
                    refine O_idx (kd := .i64) cSStroke h (fun _ => rfl) (by kernel_rfl) (by kernel_rfl) (by kernel_rfl) (fun v16 e_v16 h => ?_)
                    refine O_p 6 ?_
                    refine O_idx (kd := .i64) cSStroke h (fun _ => rfl) (by kernel_rfl) (by kernel_rfl) (by kernel_rfl) (fun v17 e_v17 h => ?_)
                    refine O_p 4 ?_
                    refine O_nil ?_
                    refine Gh_e ⟨⟨67, [(1, .po 0 0), (3, .i s3), (62, .bool (decide (v16.Actuator < v17.Actuator)))]⟩, [.lv 2 [.ro (a0.Strokes.map cSStroke), .i a0.Wait]]⟩ ?_
                    replace h := Option.some.inj h; subst h
                    show _ = _
                    kernel_rfl
                  · replace h := fork_f c15 h
                    refine O_p 15 ?_
                    refine O_nil ?_
                    refine Gh_e ⟨⟨67, [(1, .po 0 0), (3, .i s3), (62, .bool false)]⟩, [.lv 2 [.ro (a0.Strokes.map cSStroke), .i a0.Wait]]⟩ ?_
                    replace h := Option.some.inj h; subst h
                    show _ = _
                    kernel_rfl
                · refine W_gh ?_
                  refine W_cond (c := w14) (by kernel_rfl) (fun c18 => ?_) (fun c18 => ?_)
                  · replace h := fork_t c18 h
                    refine W_seq ?_
                    refine W_reg ?_
                    refine O_p 1 ?_
                    refine O_nil ?_
                    refine W_ret ?_
                    replace h := Option.some.inj h; subst h
                    refine ⟨_, rfl, fun h => ?_⟩
                    replace h := Option.some.inj h; subst h
                    exact Fin_free (l := [.i 9]) (by kernel_rfl) (by kernel_rfl) rfl
                  · replace h := fork_f c18 h
                    refine W_skip ?_
                    refine Gh_e ⟨⟨67, [(1, .po 0 0), (3, .i s3)]⟩, [.lv 2 [.ro (a0.Strokes.map cSStroke), .i a0.Wait]]⟩ ?_
                    refine Gh_e ⟨⟨67, [(1, .po 0 0), (3, .i s3)]⟩, [.lv 2 [.ro (a0.Strokes.map cSStroke), .i a0.Wait]]⟩ ?_
                    refine W_gh ?_
                    refine W_reg ?_
                    refine O_p 3 ?_
                    refine O_nil ?_
                    refine Gh_e ⟨⟨67, [(1, .po 0 0), (3, .i (addI .i64 s3 1))]⟩, [.lv 2 [.ro (a0.Strokes.map cSStroke), .i a0.Wait]]⟩ ?_
                    refine Gh_e ⟨⟨67, [(1, .po 0 0), (3, .i (addI .i64 s3 1))]⟩, [.lv 2 [.ro (a0.Strokes.map cSStroke), .i a0.Wait]]⟩ ?_
                    replace h := Option.some.inj h; subst h
                    exact ⟨_, rfl, by kernel_rfl⟩
        · replace h := fork_f c5 h
          refine W_exit ?_
          refine X_hit ?_
          refine Gh_e ⟨⟨67, [(1, .po 0 0)]⟩, [.lv 2 [.ro (a0.Strokes.map cSStroke), .i a0.Wait]]⟩ ?_
          replace h := Option.some.inj h; subst h
          exact ⟨_, rfl, by kernel_rfl⟩
      · refine W_seq ?_
        refine W_seq ?_
        refine W_gh ?_
        refine W_reg ?_
        refine O_p 2 ?_
        refine O_call (fun v => .bool v) h (.inr rfl) (ys := [.i a0.Wait]) (fun _ e => p74 _ _ e) (by kernel_rfl) (by kernel_rfl) (bels_cons rfl rfl) (fun v19 e_v19 h => ?_)
        refine O_p 1 ?_
        refine O_nil ?_
        refine Gh_e ⟨⟨67, [(66, .bool (!v19))]⟩, [.lv 2 [.ro (a0.Strokes.map cSStroke), .i a0.Wait]]⟩ ?_
        refine W_gh ?_
        refine W_cond (c := (!v19)) (by kernel_rfl) (fun c20 => ?_) (fun c20 => ?_)
        · replace h := fork_t c20 h
          refine W_seq ?_
          refine W_reg ?_
          refine O_p 1 ?_
          refine O_nil ?_
          refine W_ret ?_
          replace h := Option.some.inj h; subst h
          exact Fin_free (l := [.i 2]) (by kernel_rfl) (by kernel_rfl) rfl
        · replace h := fork_f c20 h
          refine W_skip ?_
          refine Gh_e ⟨⟨67, []⟩, [.lv 2 [.ro (a0.Strokes.map cSStroke), .i a0.Wait]]⟩ ?_
          refine W_seq ?_
          refine W_reg ?_
          refine O_p 1 ?_
          refine O_nil ?_
          refine W_ret ?_
          replace h := Option.some.inj h; subst h
          exact Fin_free (l := [.i 0]) (by kernel_rfl) (by kernel_rfl) rfl

theorem p82 (a0 : SStep) (a1 : (List Bool)) (r : Bool) (h : m82 a0 a1 = some r) : Pt E0 hp 82 [.agg (cSStep a0), .ro (a1.map cB)] (.bool r) := by
  unfold m82 at h
  refine Pt_W (fn82) rfl (by decide) ?_
  refine W_seq ?_
  refine W_gh ?_
  refine W_reg ?_
  refine O_p 2 ?_
  refine O_nil ?_
  refine Gh_e ⟨⟨34, [(1, .ro (a1.map cB)), (2, .po 0 0)]⟩, [.lv 2 [.ro (a0.Strokes.map cSStroke), .i a0.Wait]]⟩ ?_
  refine W_seq ?_
  refine W_seq ?_
  refine W_reg ?_
  refine O_p 1 ?_
  refine O_nil ?_
  refine W_loop (fun s1 : Int => ⟨⟨34, [(1, .ro (a1.map cB)), (2, .po 0 0), (5, .i s1)]⟩, [.lv 2 [.ro (a0.Strokes.map cSStroke), .i a0.Wait]]⟩) (fun w2 : Unit => ⟨⟨34, [(1, .ro (a1.map cB))]⟩, [.lv 2 [.ro (a0.Strokes.map cSStroke), .i a0.Wait]]⟩) h (by kernel_rfl) (fun s1 c h => ?_) (fun w2 h => ?_)
  · refine W_gh ?_
    refine W_seq ?_
    refine W_seq ?_
    refine W_gh ?_
    refine W_reg ?_
    refine O_p 3 ?_
    refine O_len (l := a0.Strokes) cSStroke (by kernel_rfl) (by kernel_rfl) ?_
    refine O_p 1 ?_
    refine O_nil ?_
    refine Gh_e ⟨⟨34, [(1, .ro (a1.map cB)), (2, .po 0 0), (5, .i s1), (11, .bool (decide (s1 < (a0.Strokes.length : Int))))]⟩, [.lv 2 [.ro (a0.Strokes.map cSStroke), .i a0.Wait]]⟩ ?_
    refine W_gh ?_
    refine W_cond (c := (decide (s1 < (a0.Strokes.length : Int)))) (by kernel_rfl) (fun c3 => ?_) (fun c3 => ?_)
    · replace h := fork_t c3 h
      refine W_skip ?_
      refine Gh_e ⟨⟨34, [(1, .ro (a1.map cB)), (2, .po 0 0), (5, .i s1)]⟩, [.lv 2 [.ro (a0.Strokes.map cSStroke), .i a0.Wait]]⟩ ?_
      refine W_seq ?_
      refine W_gh ?_
      refine W_block ?_
      refine W_seq ?_
      refine W_gh ?_
      refine W_reg ?_
      refine O_p 3 ?_
      refine O_idx (kd := .i64) cSStroke h (fun _ => rfl) (by kernel_rfl) (by kernel_rfl) (by kernel_rfl) (fun v4 e_v4 h => ?_)
      refine O_p 3 ?_
      refine O_nil ?_
      refine Gh_e ⟨⟨34, [(1, .ro (a1.map cB)), (2, .po 0 0), (5, .i s1), (6, .po 1 0)]⟩, [.lv 2 [.ro (a0.Strokes.map cSStroke), .i a0.Wait], .lv 2 [.i v4.Actuator, .bool v4.Out]]⟩ ?_
      refine W_seq ?_
      refine W_joinS (fun v : Bool => ⟨⟨34, [(1, .ro (a1.map cB)), (2, .po 0 0), (5, .i s1), (33, .bool v)]⟩, [.lv 2 [.ro (a0.Strokes.map cSStroke), .i a0.Wait], .lv 2 [.i v4.Actuator, .bool v4.Out]]⟩) h (fun w h => ?_) (fun w5 e_w5 h => ?_)
      · refine W_gh ?_
        refine W_draw ?_
        refine O_p 3 ?_
        refine O_len (l := a1) cB (by kernel_rfl) (by kernel_rfl) ?_
        refine O_p 2 ?_
        refine O_fork (n := 24) (decide (v4.Actuator ≥ (a1.length : Int))) (by kernel_rfl) (fun c6 => ?_) (fun c6 => ?_)
        · replace h := fork_t c6 h
          refine O_p 9 ?_
          refine O_nil ?_
          refine Gh_e ⟨⟨34, [(1, .ro (a1.map cB)), (2, .po 0 0), (5, .i s1), (33, .bool true)]⟩, [.lv 2 [.ro (a0.Strokes.map cSStroke), .i a0.Wait], .lv 2 [.i v4.Actuator, .bool v4.Out]]⟩ ?_
          replace h := Option.some.inj h; subst h
          show _ = _
          kernel_rfl
        · replace h := fork_f c6 h
          refine O_p 3 ?_
          refine O_idx (kd := .i64) cB h (fun _ => rfl) (by kernel_rfl) (by kernel_rfl) (by kernel_rfl) (fun v7 e_v7 h => ?_)
          refine O_p 5 ?_
          refine O_nil ?_
          refine Gh_e ⟨⟨34, [(1, .ro (a1.map cB)), (2, .po 0 0), (5, .i s1), (33, .bool ((v7 == v4.Out) != false))]⟩, [.lv 2 [.ro (a0.Strokes.map cSStroke), .i a0.Wait], .lv 2 [.i v4.Actuator, .bool v4.Out]]⟩ ?_
          replace h := Option.some.inj h; subst h
          show _ = _
          kernel_rfl
      · refine W_gh ?_
        refine W_cond (c := w5) (by kernel_rfl) (fun c8 => ?_) (fun c8 => ?_)
        · replace h := fork_t c8 h
          refine W_seq ?_
          refine W_reg ?_
          refine O_p 1 ?_
          refine O_nil ?_
          refine W_ret ?_
          replace h := Option.some.inj h; subst h
          refine ⟨_, rfl, fun h => ?_⟩
          replace h := Option.some.inj h; subst h
          exact Fin_free (l := [.bool false]) (by kernel_rfl) (by kernel_rfl) rfl
        · replace h := fork_f c8 h
          refine W_skip ?_
          refine Gh_e ⟨⟨34, [(1, .ro (a1.map cB)), (2, .po 0 0), (5, .i s1)]⟩, [.lv 2 [.ro (a0.Strokes.map cSStroke), .i a0.Wait], .lv 2 [.i v4.Actuator, .bool v4.Out]]⟩ ?_
          refine Gh_one (s1 := ⟨⟨34, [(1, .ro (a1.map cB)), (2, .po 0 0), (5, .i s1)]⟩, [.lv 2 [.ro (a0.Strokes.map cSStroke), .i a0.Wait], .lv 2 [.i v4.Actuator, .bool v4.Out]]⟩) (by kernel_rfl) ?_
          refine Gh_at (s1 := ⟨⟨34, [(1, .ro (a1.map cB)), (2, .po 0 0), (5, .i s1)]⟩, [.lv 2 [.ro (a0.Strokes.map cSStroke), .i a0.Wait], .lv 2 [.i v4.Actuator, .bool v4.Out]]⟩) (by kernel_rfl) ?_
          refine Gh_trunc (s1 := ⟨⟨34, [(1, .ro (a1.map cB)), (2, .po 0 0), (5, .i s1)]⟩, [.lv 2 [.ro (a0.Strokes.map cSStroke), .i a0.Wait]]⟩) (by kernel_rfl) (tb_free (ro_bel okB.bel _) (tb_ref rfl (tb_free rfl rfl))) (H1 := [.lv 2 [.ro (a0.Strokes.map cSStroke), .i a0.Wait]]) (by kernel_rfl) (ob_boxn (bn_free (ro_bel okSStroke.bel _) (bn_free rfl rfl)) rfl) (by kernel_rfl) ?_
          refine Gh_nil ?_
          refine W_gh ?_
          refine W_reg ?_
          refine O_p 3 ?_
          refine O_nil ?_
          refine Gh_e ⟨⟨34, [(1, .ro (a1.map cB)), (2, .po 0 0), (5, .i (addI .i64 s1 1))]⟩, [.lv 2 [.ro (a0.Strokes.map cSStroke), .i a0.Wait]]⟩ ?_
          refine Gh_one (s1 := ⟨⟨34, [(1, .ro (a1.map cB)), (2, .po 0 0), (5, .i (addI .i64 s1 1))]⟩, [.lv 2 [.ro (a0.Strokes.map cSStroke), .i a0.Wait]]⟩) (by kernel_rfl) ?_
          refine Gh_trunc0 (by kernel_rfl) ?_
          refine Gh_nil ?_
          replace h := Option.some.inj h; subst h
          exact ⟨_, rfl, by kernel_rfl⟩
    · replace h := fork_f c3 h
      refine W_exit ?_
      refine X_hit ?_
      refine Gh_one (s1 := ⟨⟨34, [(1, .ro (a1.map cB))]⟩, [.lv 2 [.ro (a0.Strokes.map cSStroke), .i a0.Wait]]⟩) (by kernel_rfl) ?_
      refine Gh_trunc0 (by kernel_rfl) ?_
      refine Gh_nil ?_
      replace h := Option.some.inj h; subst h
      exact ⟨_, rfl, by kernel_rfl⟩
  · refine W_seq ?_
    refine W_reg ?_
    refine O_p 1 ?_
    refine O_nil ?_
    refine W_ret ?_
    replace h := Option.some.inj h; subst h
    exact Fin_free (l := [.bool true]) (by kernel_rfl) (by kernel_rfl) rfl

theorem p83 (a0 : SStep) (a1 : (List Bool)) (r : (List Bool)) (h : m83 a0 a1 = some r) : Pt E0 hp 83 [.agg (cSStep a0), .ro (a1.map cB)] (.ro (r.map cB)) := by
  unfold m83 at h
  refine Pt_W (fn83) rfl (by decide) ?_
  refine W_seq ?_
  refine W_gh ?_
  refine W_reg ?_
  refine O_p 2 ?_
  refine O_nil ?_
  refine Gh_e ⟨⟨32, [(1, .ro (a1.map cB)), (2, .po 0 0)]⟩, [.lv 2 [.ro (a0.Strokes.map cSStroke), .i a0.Wait]]⟩ ?_
  refine W_seq ?_
  refine W_gh ?_
  refine W_reg ?_
  refine O_p 2 ?_
  refine O_app (C := cB) (id := 1) (nl := .norm) okB h rfl (by kernel_rfl) (by kernel_rfl) (by kernel_rfl) (by kernel_rfl) rfl (fun l1 e_l1 h => ?_)
  refine O_p 1 ?_
  refine O_nil ?_
  refine Gh_one (s1 := ⟨⟨32, [(2, .po 0 0), (5, .own 1 l1.length 0 l1.length)]⟩, [.lv 2 [.ro (a0.Strokes.map cSStroke), .i a0.Wait], .live .norm 1 (l1.map cB)]⟩) (by kernel_rfl) ?_
  refine Gh_trunc0 (by kernel_rfl) ?_
  refine Gh_nil ?_
  refine W_seq ?_
  refine W_seq ?_
  refine W_reg ?_
  refine O_p 1 ?_
  refine O_nil ?_
  refine W_loopS (fun s2 : (List Bool) × Int => ⟨⟨32, [(2, .po 0 0), (5, .own 1 s2.1.length 0 s2.1.length), (6, .i s2.2)]⟩, [.lv 2 [.ro (a0.Strokes.map cSStroke), .i a0.Wait], .live .norm 1 (s2.1.map cB)]⟩) (fun w3 : (List Bool) => ⟨⟨32, [(5, .own 1 w3.length 0 w3.length)]⟩, [.lv 2 [.ro (a0.Strokes.map cSStroke), .i a0.Wait], .live .norm 1 (w3.map cB)]⟩) h (by kernel_rfl) (fun s2 c h => ?_) (fun w3 e_w3 h => ?_)
  · refine W_gh ?_
    refine W_seq ?_
    refine W_seq ?_
    refine W_gh ?_
    refine W_reg ?_
    refine O_p 3 ?_
    refine O_len (l := a0.Strokes) cSStroke (by kernel_rfl) (by kernel_rfl) ?_
    refine O_p 1 ?_
    refine O_nil ?_
    refine Gh_e ⟨⟨32, [(2, .po 0 0), (5, .own 1 s2.1.length 0 s2.1.length), (6, .i s2.2), (14, .bool (decide (s2.2 < (a0.Strokes.length : Int))))]⟩, [.lv 2 [.ro (a0.Strokes.map cSStroke), .i a0.Wait], .live .norm 1 (s2.1.map cB)]⟩ ?_
    refine W_gh ?_
    refine W_cond (c := (decide (s2.2 < (a0.Strokes.length : Int)))) (by kernel_rfl) (fun c4 => ?_) (fun c4 => ?_)
    · replace h := fork_t c4 h
      refine W_skip ?_
      refine Gh_e ⟨⟨32, [(2, .po 0 0), (5, .own 1 s2.1.length 0 s2.1.length), (6, .i s2.2)]⟩, [.lv 2 [.ro (a0.Strokes.map cSStroke), .i a0.Wait], .live .norm 1 (s2.1.map cB)]⟩ ?_
      refine W_seq ?_
      refine W_block ?_
      refine W_gh ?_
      refine W_draw ?_
      refine O_p 4 ?_
      refine O_idx (kd := .i64) cSStroke h (fun _ => rfl) (by kernel_rfl) (by kernel_rfl) (by kernel_rfl) (fun v5 e_v5 h => ?_)
      refine O_p 5 ?_
      refine O_idx (kd := .i64) cSStroke h (fun _ => rfl) (by kernel_rfl) (by kernel_rfl) (by kernel_rfl) (fun v6 e_v6 h => ?_)
      refine O_p 2 ?_
      refine O_iadO (kd := .i64) (id := 1) (nl := .norm) cB h rfl (by kernel_rfl) (by kernel_rfl) (by kernel_rfl) (by kernel_rfl) (fun v7 e_v7 h => ?_)
      refine O_stW (id := 1) (nl := .norm) (v' := v6.Out) cB e_v7 rfl rfl (fun _ => rfl) (by kernel_rfl) (by kernel_rfl) (by kernel_rfl) (cs := [.bool v6.Out]) (by kernel_rfl) (by kernel_rfl) rfl rfl rfl ?_
      refine O_nil ?_
      refine Gh_endn (s1 := ⟨⟨32, [(2, .po 0 0), (5, .own 1 s2.1.length 0 s2.1.length), (6, .i s2.2)]⟩, [.lv 2 [.ro (a0.Strokes.map cSStroke), .i a0.Wait], .live .norm 1 ((s2.1.set v5.Actuator.toNat v6.Out).map cB)]⟩) (s2 := ⟨⟨32, [(2, .po 0 0), (5, .own 1 ((s2.1.set v5.Actuator.toNat v6.Out).length) 0 ((s2.1.set v5.Actuator.toNat v6.Out).length)), (6, .i s2.2)]⟩, [.lv 2 [.ro (a0.Strokes.map cSStroke), .i a0.Wait], .live .norm 1 ((s2.1.set v5.Actuator.toNat v6.Out).map cB)]⟩) _ (by kernel_rfl) (by simp only [List.length_set]) ?_
      refine W_gh ?_
      refine W_reg ?_
      refine O_p 3 ?_
      refine O_nil ?_
      refine Gh_e ⟨⟨32, [(2, .po 0 0), (5, .own 1 ((s2.1.set v5.Actuator.toNat v6.Out).length) 0 ((s2.1.set v5.Actuator.toNat v6.Out).length)), (6, .i (addI .i64 s2.2 1))]⟩, [.lv 2 [.ro (a0.Strokes.map cSStroke), .i a0.Wait], .live .norm 1 ((s2.1.set v5.Actuator.toNat v6.Out).map cB)]⟩ ?_
      refine Gh_e ⟨⟨32, [(2, .po 0 0), (5, .own 1 ((s2.1.set v5.Actuator.toNat v6.Out).length) 0 ((s2.1.set v5.Actuator.toNat v6.Out).length)), (6, .i (addI .i64 s2.2 1))]⟩, [.lv 2 [.ro (a0.Strokes.map cSStroke), .i a0.Wait], .live .norm 1 ((s2.1.set v5.Actuator.toNat v6.Out).map cB)]⟩ ?_
      replace h := Option.some.inj h; subst h
      exact ⟨_, rfl, by kernel_rfl⟩
    · replace h := fork_f c4 h
      refine W_exit ?_
      refine X_hit ?_
      refine Gh_e ⟨⟨32, [(5, .own 1 s2.1.length 0 s2.1.length)]⟩, [.lv 2 [.ro (a0.Strokes.map cSStroke), .i a0.Wait], .live .norm 1 (s2.1.map cB)]⟩ ?_
      replace h := Option.some.inj h; subst h
      exact ⟨_, rfl, by kernel_rfl⟩
  · refine W_seq ?_
    refine W_gh ?_
    refine W_reg ?_
    refine O_p 2 ?_
    refine O_nil ?_
    refine Gh_e ⟨⟨32, [(4, .own 1 w3.length 0 w3.length)]⟩, [.lv 2 [.ro (a0.Strokes.map cSStroke), .i a0.Wait], .live .norm 1 (w3.map cB)]⟩ ?_
    refine W_ret ?_
    replace h := Option.some.inj h; subst h
    exact Fin_pk (l := [.own 1 w3.length 0 w3.length]) (by kernel_rfl) (pk_own (d := 5) (id := 1) (nl := .norm) (sz := 1) (l := w3) okB.bel (by kernel_rfl) rfl)

theorem p68 (a0 : SSequence) (r : Int) (h : m68 a0 = some r) : Pt E0 hp 68 [.agg (cSSequence a0)] (.i r) := by
  unfold m68 at h
  refine Pt_W (fn68) rfl (by decide) ?_
  refine W_seq ?_
  refine W_gh ?_
  refine W_reg ?_
  refine O_p 2 ?_
  refine O_nil ?_
  refine Gh_e ⟨⟨62, [(1, .po 0 0)]⟩, [.lv 2 [.i a0.Actuators, .ro (a0.Steps.map cSStep)]]⟩ ?_
  refine W_seq ?_
  refine W_gh ?_
  refine W_reg ?_
  refine O_p 2 ?_
  refine O_mks (C := cB) okB (z0 := false) (by kernel_rfl) h (by kernel_rfl) (by kernel_rfl) (by kernel_rfl) (fun l1 e_l1 h => ?_)
  refine O_p 1 ?_
  refine O_nil ?_
  refine Gh_one (frz_own (id := 1) (nl := .norm) (sz := 1) (l := l1) okB.bel (by kernel_rfl) (by kernel_rfl) rfl rfl (s1 := ⟨⟨62, [(1, .po 0 0), (3, .ro (l1.map cB)), (9, .po 0 0), (10, .i a0.Actuators), (11, .own 1 l1.length 0 l1.length)]⟩, [.lv 2 [.i a0.Actuators, .ro (a0.Steps.map cSStep)], .dead]⟩) (by kernel_rfl)) ?_
  refine Gh_one (s1 := ⟨⟨62, [(1, .po 0 0), (3, .ro (l1.map cB))]⟩, [.lv 2 [.i a0.Actuators, .ro (a0.Steps.map cSStep)], .dead]⟩) (by kernel_rfl) ?_
  refine Gh_at (s1 := ⟨⟨62, [(1, .po 0 0), (3, .ro (l1.map cB))]⟩, [.lv 2 [.i a0.Actuators, .ro (a0.Steps.map cSStep)], .dead]⟩) (by kernel_rfl) ?_
  refine Gh_trunc (s1 := ⟨⟨62, [(1, .po 0 0), (3, .ro (l1.map cB))]⟩, [.lv 2 [.i a0.Actuators, .ro (a0.Steps.map cSStep)]]⟩) (by kernel_rfl) (tb_ref rfl (tb_free (ro_bel okB.bel _) rfl)) (H1 := [.lv 2 [.i a0.Actuators, .ro (a0.Steps.map cSStep)]]) (by kernel_rfl) (ob_boxn (bn_free rfl (bn_free (ro_bel okSStep.bel _) rfl)) rfl) (by kernel_rfl) ?_
  refine Gh_nil ?_
  refine W_seq ?_
  refine W_seq ?_
  refine W_reg ?_
  refine O_p 1 ?_
  refine O_nil ?_
  refine W_loop (fun s2 : (List Bool) × Int => ⟨⟨62, [(1, .po 0 0), (3, .ro (s2.1.map cB)), (4, .i s2.2)]⟩, [.lv 2 [.i a0.Actuators, .ro (a0.Steps.map cSStep)]]⟩) (fun w3 : (List Bool) => ⟨⟨62, [(1, .po 0 0), (3, .ro (w3.map cB))]⟩, [.lv 2 [.i a0.Actuators, .ro (a0.Steps.map cSStep)]]⟩) h (by kernel_rfl) (fun s2 c h => ?_) (fun w3 h => ?_)
  · refine W_gh ?_
    refine W_seq ?_
    refine W_seq ?_
    refine W_gh ?_
    refine W_reg ?_
    refine O_p 3 ?_
    refine O_len (l := a0.Steps) cSStep (by kernel_rfl) (by kernel_rfl) ?_
    refine O_p 1 ?_
    refine O_nil ?_
    refine Gh_e ⟨⟨62, [(1, .po 0 0), (3, .ro (s2.1.map cB)), (4, .i s2.2), (16, .bool (decide (s2.2 < (a0.Steps.length : Int))))]⟩, [.lv 2 [.i a0.Actuators, .ro (a0.Steps.map cSStep)]]⟩ ?_
    refine W_gh ?_
    refine W_cond (c := (decide (s2.2 < (a0.Steps.length : Int)))) (by kernel_rfl) (fun c4 => ?_) (fun c4 => ?_)
    · replace h := fork_t c4 h
      refine W_skip ?_
      refine Gh_e ⟨⟨62, [(1, .po 0 0), (3, .ro (s2.1.map cB)), (4, .i s2.2)]⟩, [.lv 2 [.i a0.Actuators, .ro (a0.Steps.map cSStep)]]⟩ ?_
      refine W_seq ?_
      refine W_gh ?_
      refine W_block ?_
      refine W_seq ?_
      refine W_gh ?_
      refine W_reg ?_
      refine O_p 3 ?_
      refine O_idx (kd := .i64) cSStep h (fun _ => rfl) (by kernel_rfl) (by kernel_rfl) (by kernel_rfl) (fun v5 e_v5 h => ?_)
      refine O_p 3 ?_
      refine O_nil ?_
      refine Gh_e ⟨⟨62, [(1, .po 0 0), (3, .ro (s2.1.map cB)), (4, .i s2.2), (5, .po 1 0)]⟩, [.lv 2 [.i a0.Actuators, .ro (a0.Steps.map cSStep)], .lv 2 [.ro (v5.Strokes.map cSStroke), .i v5.Wait]]⟩ ?_
      refine W_seq ?_
      refine W_seq ?_
      refine W_gh ?_
      refine W_reg ?_
      refine O_p 1 ?_
      refine O_call (fun v => .i v) h (.inr rfl) (ys := [.agg (cSStep v5)]) (fun _ e => p81 _ _ e) (by kernel_rfl) (by kernel_rfl) (bels_cons (okSStep.bel _) rfl) (fun v6 e_v6 h => ?_)
      refine O_p 1 ?_
      refine O_nil ?_
      refine Gh_e ⟨⟨62, [(1, .po 0 0), (3, .ro (s2.1.map cB)), (4, .i s2.2), (5, .po 1 0), (6, .i v6)]⟩, [.lv 2 [.i a0.Actuators, .ro (a0.Steps.map cSStep)], .lv 2 [.ro (v5.Strokes.map cSStroke), .i v5.Wait]]⟩ ?_
      refine W_seq ?_
      refine W_gh ?_
      refine W_reg ?_
      refine O_p 2 ?_
      refine O_nil ?_
      refine Gh_e ⟨⟨62, [(1, .po 0 0), (3, .ro (s2.1.map cB)), (4, .i s2.2), (5, .po 1 0), (6, .i v6), (27, .bool (v6 != 0))]⟩, [.lv 2 [.i a0.Actuators, .ro (a0.Steps.map cSStep)], .lv 2 [.ro (v5.Strokes.map cSStroke), .i v5.Wait]]⟩ ?_
      refine W_gh ?_
      refine W_cond (c := (v6 != 0)) (by kernel_rfl) (fun c7 => ?_) (fun c7 => ?_)
      · replace h := fork_t c7 h
        refine W_seq ?_
        refine W_gh ?_
        refine W_reg ?_
        refine O_p 2 ?_
        refine O_nil ?_
        refine Gh_e ⟨⟨62, [(1, .po 0 0), (2, .i v6), (3, .ro (s2.1.map cB)), (4, .i s2.2), (5, .po 1 0), (27, .bool (v6 != 0))]⟩, [.lv 2 [.i a0.Actuators, .ro (a0.Steps.map cSStep)], .lv 2 [.ro (v5.Strokes.map cSStroke), .i v5.Wait]]⟩ ?_
        refine W_ret ?_
        replace h := Option.some.inj h; subst h
        refine ⟨_, rfl, fun h => ?_⟩
        replace h := Option.some.inj h; subst h
        exact Fin_free (l := [.i v6]) (by kernel_rfl) (by kernel_rfl) rfl
      · replace h := fork_f c7 h
        refine W_skip ?_
        refine Gh_e ⟨⟨62, [(1, .po 0 0), (3, .ro (s2.1.map cB)), (4, .i s2.2), (5, .po 1 0)]⟩, [.lv 2 [.i a0.Actuators, .ro (a0.Steps.map cSStep)], .lv 2 [.ro (v5.Strokes.map cSStroke), .i v5.Wait]]⟩ ?_
        refine W_seq ?_
        refine W_seq ?_
        refine W_reg ?_
        refine O_p 1 ?_
        refine O_nil ?_
        refine W_loop (fun s8 : Int => ⟨⟨62, [(1, .po 0 0), (3, .ro (s2.1.map cB)), (4, .i s2.2), (5, .po 1 0), (7, .i s8)]⟩, [.lv 2 [.i a0.Actuators, .ro (a0.Steps.map cSStep)], .lv 2 [.ro (v5.Strokes.map cSStroke), .i v5.Wait]]⟩) (fun w9 : Unit => ⟨⟨62, [(1, .po 0 0), (3, .ro (s2.1.map cB)), (4, .i s2.2), (5, .po 1 0)]⟩, [.lv 2 [.i a0.Actuators, .ro (a0.Steps.map cSStep)], .lv 2 [.ro (v5.Strokes.map cSStroke), .i v5.Wait]]⟩) h (by kernel_rfl) (fun s8 c h => ?_) (fun w9 h => ?_)
        · refine W_gh ?_
          refine W_seq ?_
          refine W_seq ?_
          refine W_gh ?_
          refine W_reg ?_
          refine O_p 3 ?_
          refine O_len (l := v5.Strokes) cSStroke (by kernel_rfl) (by kernel_rfl) ?_
          refine O_p 1 ?_
          refine O_nil ?_
          refine Gh_e ⟨⟨62, [(1, .po 0 0), (3, .ro (s2.1.map cB)), (4, .i s2.2), (5, .po 1 0), (7, .i s8), (33, .bool (decide (s8 < (v5.Strokes.length : Int))))]⟩, [.lv 2 [.i a0.Actuators, .ro (a0.Steps.map cSStep)], .lv 2 [.ro (v5.Strokes.map cSStroke), .i v5.Wait]]⟩ ?_
          refine W_gh ?_
          refine W_cond (c := (decide (s8 < (v5.Strokes.length : Int)))) (by kernel_rfl) (fun c10 => ?_) (fun c10 => ?_)
          · replace h := fork_t c10 h
            refine W_skip ?_
            refine Gh_e ⟨⟨62, [(1, .po 0 0), (3, .ro (s2.1.map cB)), (4, .i s2.2), (5, .po 1 0), (7, .i s8)]⟩, [.lv 2 [.i a0.Actuators, .ro (a0.Steps.map cSStep)], .lv 2 [.ro (v5.Strokes.map cSStroke), .i v5.Wait]]⟩ ?_
            refine W_seq ?_
            refine W_gh ?_
            refine W_block ?_
            refine W_seq ?_
            refine W_gh ?_
            refine W_draw ?_
            refine O_p 3 ?_
            refine O_idx (kd := .i64) cSStroke h (fun _ => rfl) (by kernel_rfl) (by kernel_rfl) (by kernel_rfl) (fun v11 e_v11 h => ?_)
            refine O_p 5 ?_
            refine O_nil ?_
            refine Gh_e ⟨⟨62, [(1, .po 0 0), (3, .ro (s2.1.map cB)), (4, .i s2.2), (5, .po 1 0), (7, .i s8), (44, .bool (decide (v11.Actuator ≥ a0.Actuators)))]⟩, [.lv 2 [.i a0.Actuators, .ro (a0.Steps.map cSStep)], .lv 2 [.ro (v5.Strokes.map cSStroke), .i v5.Wait]]⟩ ?_
            refine W_gh ?_
            refine W_cond (c := (decide (v11.Actuator ≥ a0.Actuators))) (by kernel_rfl) (fun c12 => ?_) (fun c12 => ?_)
            · replace h := fork_t c12 h
              refine W_seq ?_
              refine W_reg ?_
              refine O_p 1 ?_
              refine O_nil ?_
              refine W_ret ?_
              replace h := Option.some.inj h; subst h
              refine ⟨_, rfl, fun h => ?_⟩
              replace h := Option.some.inj h; subst h
              refine ⟨_, rfl, fun h => ?_⟩
              replace h := Option.some.inj h; subst h
              exact Fin_free (l := [.i 6]) (by kernel_rfl) (by kernel_rfl) rfl
            · replace h := fork_f c12 h
              refine W_skip ?_
              refine Gh_e ⟨⟨62, [(1, .po 0 0), (3, .ro (s2.1.map cB)), (4, .i s2.2), (5, .po 1 0), (7, .i s8)]⟩, [.lv 2 [.i a0.Actuators, .ro (a0.Steps.map cSStep)], .lv 2 [.ro (v5.Strokes.map cSStroke), .i v5.Wait]]⟩ ?_
              refine Gh_e ⟨⟨62, [(1, .po 0 0), (3, .ro (s2.1.map cB)), (4, .i s2.2), (5, .po 1 0), (7, .i s8)]⟩, [.lv 2 [.i a0.Actuators, .ro (a0.Steps.map cSStep)], .lv 2 [.ro (v5.Strokes.map cSStroke), .i v5.Wait]]⟩ ?_
              refine W_gh ?_
              refine W_reg ?_
              refine O_p 3 ?_
              refine O_nil ?_
              refine Gh_e ⟨⟨62, [(1, .po 0 0), (3, .ro (s2.1.map cB)), (4, .i s2.2), (5, .po 1 0), (7, .i (addI .i64 s8 1))]⟩, [.lv 2 [.i a0.Actuators, .ro (a0.Steps.map cSStep)], .lv 2 [.ro (v5.Strokes.map cSStroke), .i v5.Wait]]⟩ ?_
              refine Gh_e ⟨⟨62, [(1, .po 0 0), (3, .ro (s2.1.map cB)), (4, .i s2.2), (5, .po 1 0), (7, .i (addI .i64 s8 1))]⟩, [.lv 2 [.i a0.Actuators, .ro (a0.Steps.map cSStep)], .lv 2 [.ro (v5.Strokes.map cSStroke), .i v5.Wait]]⟩ ?_
              replace h := Option.some.inj h; subst h
              exact ⟨_, rfl, by kernel_rfl⟩
          · replace h := fork_f c10 h
            refine W_exit ?_
            refine X_hit ?_
            refine Gh_e ⟨⟨62, [(1, .po 0 0), (3, .ro (s2.1.map cB)), (4, .i s2.2), (5, .po 1 0)]⟩, [.lv 2 [.i a0.Actuators, .ro (a0.Steps.map cSStep)], .lv 2 [.ro (v5.Strokes.map cSStroke), .i v5.Wait]]⟩ ?_
            replace h := Option.some.inj h; subst h
            exact ⟨_, rfl, by kernel_rfl⟩
        · refine W_seq ?_
          refine W_seq ?_
          refine W_gh ?_
          refine W_reg ?_
          refine O_p 2 ?_
          refine O_call (fun v => .bool v) h (.inr rfl) (ys := [.agg (cSStep v5), .ro (s2.1.map cB)]) (fun _ e => p82 _ _ _ e) (by kernel_rfl) (by kernel_rfl) (bels_cons (okSStep.bel _) (bels_cons (ro_bel okB.bel _) rfl)) (fun v13 e_v13 h => ?_)
          refine O_p 1 ?_
          refine O_nil ?_
          refine Gh_e ⟨⟨62, [(1, .po 0 0), (3, .ro (s2.1.map cB)), (4, .i s2.2), (5, .po 1 0), (48, .bool (!v13))]⟩, [.lv 2 [.i a0.Actuators, .ro (a0.Steps.map cSStep)], .lv 2 [.ro (v5.Strokes.map cSStroke), .i v5.Wait]]⟩ ?_
          refine W_gh ?_
          refine W_cond (c := (!v13)) (by kernel_rfl) (fun c14 => ?_) (fun c14 => ?_)
          · replace h := fork_t c14 h
            refine W_seq ?_
            refine W_reg ?_
            refine O_p 1 ?_
            refine O_nil ?_
            refine W_ret ?_
            replace h := Option.some.inj h; subst h
            refine ⟨_, rfl, fun h => ?_⟩
            replace h := Option.some.inj h; subst h
            exact Fin_free (l := [.i 14]) (by kernel_rfl) (by kernel_rfl) rfl
          · replace h := fork_f c14 h
            refine W_skip ?_
            refine Gh_e ⟨⟨62, [(1, .po 0 0), (3, .ro (s2.1.map cB)), (4, .i s2.2), (5, .po 1 0)]⟩, [.lv 2 [.i a0.Actuators, .ro (a0.Steps.map cSStep)], .lv 2 [.ro (v5.Strokes.map cSStroke), .i v5.Wait]]⟩ ?_
            refine W_gh ?_
            refine W_reg ?_
            refine O_p 2 ?_
            refine O_call (fun v => .ro (v.map cB)) h (.inr rfl) (ys := [.agg (cSStep v5), .ro (s2.1.map cB)]) (fun _ e => p83 _ _ _ e) (by kernel_rfl) (by kernel_rfl) (bels_cons (okSStep.bel _) (bels_cons (ro_bel okB.bel _) rfl)) (fun v15 e_v15 h => ?_)
            refine O_p 1 ?_
            refine O_nil ?_
            refine Gh_e ⟨⟨62, [(1, .po 0 0), (3, .ro (v15.map cB)), (4, .i s2.2)]⟩, [.lv 2 [.i a0.Actuators, .ro (a0.Steps.map cSStep)], .lv 2 [.ro (v5.Strokes.map cSStroke), .i v5.Wait]]⟩ ?_
            refine Gh_one (s1 := ⟨⟨62, [(1, .po 0 0), (3, .ro (v15.map cB)), (4, .i s2.2)]⟩, [.lv 2 [.i a0.Actuators, .ro (a0.Steps.map cSStep)], .lv 2 [.ro (v5.Strokes.map cSStroke), .i v5.Wait]]⟩) (by kernel_rfl) ?_
            refine Gh_at (s1 := ⟨⟨62, [(1, .po 0 0), (3, .ro (v15.map cB)), (4, .i s2.2)]⟩, [.lv 2 [.i a0.Actuators, .ro (a0.Steps.map cSStep)], .lv 2 [.ro (v5.Strokes.map cSStroke), .i v5.Wait]]⟩) (by kernel_rfl) ?_
            refine Gh_trunc (s1 := ⟨⟨62, [(1, .po 0 0), (3, .ro (v15.map cB)), (4, .i s2.2)]⟩, [.lv 2 [.i a0.Actuators, .ro (a0.Steps.map cSStep)]]⟩) (by kernel_rfl) (tb_ref rfl (tb_free (ro_bel okB.bel _) (tb_free rfl rfl))) (H1 := [.lv 2 [.i a0.Actuators, .ro (a0.Steps.map cSStep)]]) (by kernel_rfl) (ob_boxn (bn_free rfl (bn_free (ro_bel okSStep.bel _) rfl)) rfl) (by kernel_rfl) ?_
            refine Gh_nil ?_
            refine W_gh ?_
            refine W_reg ?_
            refine O_p 3 ?_
            refine O_nil ?_
            refine Gh_e ⟨⟨62, [(1, .po 0 0), (3, .ro (v15.map cB)), (4, .i (addI .i64 s2.2 1))]⟩, [.lv 2 [.i a0.Actuators, .ro (a0.Steps.map cSStep)]]⟩ ?_
            refine Gh_one (s1 := ⟨⟨62, [(1, .po 0 0), (3, .ro (v15.map cB)), (4, .i (addI .i64 s2.2 1))]⟩, [.lv 2 [.i a0.Actuators, .ro (a0.Steps.map cSStep)]]⟩) (by kernel_rfl) ?_
            refine Gh_trunc0 (by kernel_rfl) ?_
            refine Gh_nil ?_
            replace h := Option.some.inj h; subst h
            exact ⟨_, rfl, by kernel_rfl⟩
    · replace h := fork_f c4 h
      refine W_exit ?_
      refine X_hit ?_
      refine Gh_one (s1 := ⟨⟨62, [(1, .po 0 0), (3, .ro (s2.1.map cB))]⟩, [.lv 2 [.i a0.Actuators, .ro (a0.Steps.map cSStep)]]⟩) (by kernel_rfl) ?_
      refine Gh_trunc0 (by kernel_rfl) ?_
      refine Gh_nil ?_
      replace h := Option.some.inj h; subst h
      exact ⟨_, rfl, by kernel_rfl⟩
  · refine W_seq ?_
    refine W_seq ?_
    refine W_reg ?_
    refine O_p 1 ?_
    refine O_nil ?_
    refine W_loop (fun s16 : Int => ⟨⟨62, [(1, .po 0 0), (3, .ro (w3.map cB)), (8, .i s16)]⟩, [.lv 2 [.i a0.Actuators, .ro (a0.Steps.map cSStep)]]⟩) (fun w17 : Unit => ⟨⟨62, []⟩, [.lv 2 [.i a0.Actuators, .ro (a0.Steps.map cSStep)]]⟩) h (by kernel_rfl) (fun s16 c h => ?_) (fun w17 h => ?_)
    · refine W_gh ?_
      refine W_seq ?_
      refine W_seq ?_
      refine W_gh ?_
      refine W_reg ?_
      refine O_p 4 ?_
      refine O_nil ?_
      refine Gh_e ⟨⟨62, [(1, .po 0 0), (3, .ro (w3.map cB)), (8, .i s16), (55, .bool (decide (s16 < a0.Actuators)))]⟩, [.lv 2 [.i a0.Actuators, .ro (a0.Steps.map cSStep)]]⟩ ?_
      refine W_gh ?_
      refine W_cond (c := (decide (s16 < a0.Actuators))) (by kernel_rfl) (fun c18 => ?_) (fun c18 => ?_)
      · replace h := fork_t c18 h
        refine W_skip ?_
        refine Gh_e ⟨⟨62, [(1, .po 0 0), (3, .ro (w3.map cB)), (8, .i s16)]⟩, [.lv 2 [.i a0.Actuators, .ro (a0.Steps.map cSStep)]]⟩ ?_
        refine W_seq ?_
        refine W_gh ?_
        refine W_block ?_
        refine W_seq ?_
        refine W_gh ?_
        refine W_reg ?_
        refine O_p 2 ?_
        refine O_idx (kd := .i64) cB h (fun _ => rfl) (by kernel_rfl) (by kernel_rfl) (by kernel_rfl) (fun v19 e_v19 h => ?_)
        refine O_p 1 ?_
        refine O_nil ?_
        refine Gh_e ⟨⟨62, [(1, .po 0 0), (3, .ro (w3.map cB)), (8, .i s16), (61, .bool v19)]⟩, [.lv 2 [.i a0.Actuators, .ro (a0.Steps.map cSStep)]]⟩ ?_
        refine W_gh ?_
        refine W_cond (c := v19) (by kernel_rfl) (fun c20 => ?_) (fun c20 => ?_)
        · replace h := fork_t c20 h
          refine W_seq ?_
          refine W_reg ?_
          refine O_p 1 ?_
          refine O_nil ?_
          refine W_ret ?_
          replace h := Option.some.inj h; subst h
          refine ⟨_, rfl, fun h => ?_⟩
          replace h := Option.some.inj h; subst h
          exact Fin_free (l := [.i 9]) (by kernel_rfl) (by kernel_rfl) rfl
        · replace h := fork_f c20 h
          refine W_skip ?_
          refine Gh_e ⟨⟨62, [(1, .po 0 0), (3, .ro (w3.map cB)), (8, .i s16)]⟩, [.lv 2 [.i a0.Actuators, .ro (a0.Steps.map cSStep)]]⟩ ?_
          refine Gh_e ⟨⟨62, [(1, .po 0 0), (3, .ro (w3.map cB)), (8, .i s16)]⟩, [.lv 2 [.i a0.Actuators, .ro (a0.Steps.map cSStep)]]⟩ ?_
          refine W_gh ?_
          refine W_reg ?_
          refine O_p 3 ?_
          refine O_nil ?_
          refine Gh_e ⟨⟨62, [(1, .po 0 0), (3, .ro (w3.map cB)), (8, .i (addI .i64 s16 1))]⟩, [.lv 2 [.i a0.Actuators, .ro (a0.Steps.map cSStep)]]⟩ ?_
          refine Gh_e ⟨⟨62, [(1, .po 0 0), (3, .ro (w3.map cB)), (8, .i (addI .i64 s16 1))]⟩, [.lv 2 [.i a0.Actuators, .ro (a0.Steps.map cSStep)]]⟩ ?_
          replace h := Option.some.inj h; subst h
          exact ⟨_, rfl, by kernel_rfl⟩
      · replace h := fork_f c18 h
        refine W_exit ?_
        refine X_hit ?_
        refine Gh_e ⟨⟨62, []⟩, [.lv 2 [.i a0.Actuators, .ro (a0.Steps.map cSStep)]]⟩ ?_
        replace h := Option.some.inj h; subst h
        exact ⟨_, rfl, by kernel_rfl⟩
    · refine W_seq ?_
      refine W_reg ?_
      refine O_p 1 ?_
      refine O_nil ?_
      refine W_ret ?_
      replace h := Option.some.inj h; subst h
      exact Fin_free (l := [.i 0]) (by kernel_rfl) (by kernel_rfl) rfl

theorem p78 (a0 : SStep) (a1 : Int) (r : Int) (h : m78 a0 a1 = some r) : Pt E0 hp 78 [.agg (cSStep a0), .i a1] (.i r) := by
  unfold m78 at h
  refine Pt_W (fn78) rfl (by decide) ?_
  refine W_seq ?_
  refine W_gh ?_
  refine W_reg ?_
  refine O_p 2 ?_
  refine O_nil ?_
  refine Gh_e ⟨⟨27, [(1, .i a1), (2, .po 0 0)]⟩, [.lv 2 [.ro (a0.Strokes.map cSStroke), .i a0.Wait]]⟩ ?_
  refine W_seq ?_
  refine W_seq ?_
  refine W_reg ?_
  refine O_p 1 ?_
  refine O_nil ?_
  refine W_loop (fun s1 : Int => ⟨⟨27, [(1, .i a1), (2, .po 0 0), (5, .i s1)]⟩, [.lv 2 [.ro (a0.Strokes.map cSStroke), .i a0.Wait]]⟩) (fun w2 : Unit => ⟨⟨27, [(1, .i a1)]⟩, [.lv 2 [.ro (a0.Strokes.map cSStroke), .i a0.Wait]]⟩) h (by kernel_rfl) (fun s1 c h => ?_) (fun w2 h => ?_)
  · refine W_gh ?_
    refine W_seq ?_
    refine W_seq ?_
    refine W_gh ?_
    refine W_reg ?_
    refine O_p 3 ?_
    refine O_len (l := a0.Strokes) cSStroke (by kernel_rfl) (by kernel_rfl) ?_
    refine O_p 1 ?_
    refine O_nil ?_
    refine Gh_e ⟨⟨27, [(1, .i a1), (2, .po 0 0), (5, .i s1), (10, .bool (decide (s1 < (a0.Strokes.length : Int))))]⟩, [.lv 2 [.ro (a0.Strokes.map cSStroke), .i a0.Wait]]⟩ ?_
    refine W_gh ?_
    refine W_cond (c := (decide (s1 < (a0.Strokes.length : Int)))) (by kernel_rfl) (fun c3 => ?_) (fun c3 => ?_)
    · replace h := fork_t c3 h
      refine W_skip ?_
      refine Gh_e ⟨⟨27, [(1, .i a1), (2, .po 0 0), (5, .i s1)]⟩, [.lv 2 [.ro (a0.Strokes.map cSStroke), .i a0.Wait]]⟩ ?_
      refine W_seq ?_
      refine W_gh ?_
      refine W_block ?_
      refine W_seq ?_
      refine W_gh ?_
      refine W_reg ?_
      refine O_p 3 ?_
      refine O_idx (kd := .i64) cSStroke h (fun _ => rfl) (by kernel_rfl) (by kernel_rfl) (by kernel_rfl) (fun v4 e_v4 h => ?_)
      refine O_p 4 ?_
      refine O_nil ?_
      refine Gh_e ⟨⟨27, [(1, .i a1), (2, .po 0 0), (5, .i s1), (20, .bool (v4.Actuator == a1))]⟩, [.lv 2 [.ro (a0.Strokes.map cSStroke), .i a0.Wait]]⟩ ?_
      refine W_gh ?_
      refine W_cond (c := (v4.Actuator == a1)) (by kernel_rfl) (fun c5 => ?_) (fun c5 => ?_)
      · replace h := fork_t c5 h
        refine W_seq ?_
        refine W_seq ?_
        refine W_gh ?_
        refine W_reg ?_
        refine O_p 3 ?_
        refine O_idx (kd := .i64) cSStroke h (fun _ => rfl) (by kernel_rfl) (by kernel_rfl) (by kernel_rfl) (fun v6 e_v6 h => ?_)
        refine O_p 2 ?_
        refine O_nil ?_
        refine Gh_e ⟨⟨27, [(1, .i a1), (20, .bool (v4.Actuator == a1)), (26, .bool v6.Out)]⟩, [.lv 2 [.ro (a0.Strokes.map cSStroke), .i a0.Wait]]⟩ ?_
        refine W_gh ?_
        refine W_cond (c := v6.Out) (by kernel_rfl) (fun c7 => ?_) (fun c7 => ?_)
        · replace h := fork_t c7 h
          refine W_seq ?_
          refine W_reg ?_
          refine O_p 1 ?_
          refine O_nil ?_
          refine W_ret ?_
          replace h := Option.some.inj h; subst h
          refine ⟨_, rfl, fun h => ?_⟩
          replace h := Option.some.inj h; subst h
          exact Fin_free (l := [.i 1]) (by kernel_rfl) (by kernel_rfl) rfl
        · replace h := fork_f c7 h
          refine W_skip ?_
          refine Gh_e ⟨⟨27, [(1, .i a1), (20, .bool (v4.Actuator == a1))]⟩, [.lv 2 [.ro (a0.Strokes.map cSStroke), .i a0.Wait]]⟩ ?_
          refine W_seq ?_
          refine W_reg ?_
          refine O_p 1 ?_
          refine O_nil ?_
          refine W_ret ?_
          replace h := Option.some.inj h; subst h
          refine ⟨_, rfl, fun h => ?_⟩
          replace h := Option.some.inj h; subst h
          exact Fin_free (l := [.i (-1)]) (by kernel_rfl) (by kernel_rfl) rfl
      · replace h := fork_f c5 h
        refine W_skip ?_
        refine Gh_e ⟨⟨27, [(1, .i a1), (2, .po 0 0), (5, .i s1)]⟩, [.lv 2 [.ro (a0.Strokes.map cSStroke), .i a0.Wait]]⟩ ?_
        refine Gh_e ⟨⟨27, [(1, .i a1), (2, .po 0 0), (5, .i s1)]⟩, [.lv 2 [.ro (a0.Strokes.map cSStroke), .i a0.Wait]]⟩ ?_
        refine W_gh ?_
        refine W_reg ?_
        refine O_p 3 ?_
        refine O_nil ?_
        refine Gh_e ⟨⟨27, [(1, .i a1), (2, .po 0 0), (5, .i (addI .i64 s1 1))]⟩, [.lv 2 [.ro (a0.Strokes.map cSStroke), .i a0.Wait]]⟩ ?_
        refine Gh_e ⟨⟨27, [(1, .i a1), (2, .po 0 0), (5, .i (addI .i64 s1 1))]⟩, [.lv 2 [.ro (a0.Strokes.map cSStroke), .i a0.Wait]]⟩ ?_
        replace h := Option.some.inj h; subst h
        exact ⟨_, rfl, by kernel_rfl⟩
    · replace h := fork_f c3 h
      refine W_exit ?_
      refine X_hit ?_
      refine Gh_e ⟨⟨27, [(1, .i a1)]⟩, [.lv 2 [.ro (a0.Strokes.map cSStroke), .i a0.Wait]]⟩ ?_
      replace h := Option.some.inj h; subst h
      exact ⟨_, rfl, by kernel_rfl⟩
  · refine W_seq ?_
    refine W_reg ?_
    refine O_p 1 ?_
    refine O_nil ?_
    refine W_ret ?_
    replace h := Option.some.inj h; subst h
    exact Fin_free (l := [.i 0]) (by kernel_rfl) (by kernel_rfl) rfl

theorem p69 (a0 : SSequence) (a1 : Int) (r : Bool) (h : m69 a0 a1 = some r) : Pt E0 hp 69 [.agg (cSSequence a0), .i a1] (.bool r) := by
  unfold m69 at h
  refine Pt_W (fn69) rfl (by decide) ?_
  refine W_seq ?_
  refine W_gh ?_
  refine W_reg ?_
  refine O_p 2 ?_
  refine O_nil ?_
  refine Gh_e ⟨⟨21, [(1, .i a1), (2, .po 0 0)]⟩, [.lv 2 [.i a0.Actuators, .ro (a0.Steps.map cSStep)]]⟩ ?_
  refine W_seq ?_
  refine W_seq ?_
  refine W_reg ?_
  refine O_p 1 ?_
  refine O_nil ?_
  refine W_loop (fun s1 : Int => ⟨⟨21, [(1, .i a1), (2, .po 0 0), (5, .i s1)]⟩, [.lv 2 [.i a0.Actuators, .ro (a0.Steps.map cSStep)]]⟩) (fun w2 : Unit => ⟨⟨21, [(1, .i a1)]⟩, [.lv 2 [.i a0.Actuators, .ro (a0.Steps.map cSStep)]]⟩) h (by kernel_rfl) (fun s1 c h => ?_) (fun w2 h => ?_)
  · refine W_gh ?_
    refine W_seq ?_
    refine W_seq ?_
    refine W_gh ?_
    refine W_reg ?_
    refine O_p 3 ?_
    refine O_len (l := a0.Steps) cSStep (by kernel_rfl) (by kernel_rfl) ?_
    refine O_p 1 ?_
    refine O_nil ?_
    refine Gh_e ⟨⟨21, [(1, .i a1), (2, .po 0 0), (5, .i s1), (10, .bool (decide (s1 < (a0.Steps.length : Int))))]⟩, [.lv 2 [.i a0.Actuators, .ro (a0.Steps.map cSStep)]]⟩ ?_
    refine W_gh ?_
    refine W_cond (c := (decide (s1 < (a0.Steps.length : Int)))) (by kernel_rfl) (fun c3 => ?_) (fun c3 => ?_)
    · replace h := fork_t c3 h
      refine W_skip ?_
      refine Gh_e ⟨⟨21, [(1, .i a1), (2, .po 0 0), (5, .i s1)]⟩, [.lv 2 [.i a0.Actuators, .ro (a0.Steps.map cSStep)]]⟩ ?_
      refine W_seq ?_
      refine W_gh ?_
      refine W_block ?_
      refine W_seq ?_
      refine W_gh ?_
      refine W_reg ?_
      refine O_p 3 ?_
      refine O_idx (kd := .i64) cSStep h (fun _ => rfl) (by kernel_rfl) (by kernel_rfl) (by kernel_rfl) (fun v4 e_v4 h => ?_)
      refine O_p 2 ?_
      refine O_call (fun v => .i v) h (.inr rfl) (ys := [.agg (cSStep v4), .i a1]) (fun _ e => p78 _ _ _ e) (by kernel_rfl) (by kernel_rfl) (bels_cons (okSStep.bel _) (bels_cons rfl rfl)) (fun v5 e_v5 h => ?_)
      refine O_p 1 ?_
      refine O_nil ?_
      refine Gh_e ⟨⟨21, [(1, .i a1), (2, .po 0 0), (5, .i s1), (20, .bool (v5 != 0))]⟩, [.lv 2 [.i a0.Actuators, .ro (a0.Steps.map cSStep)]]⟩ ?_
      refine W_gh ?_
      refine W_cond (c := (v5 != 0)) (by kernel_rfl) (fun c6 => ?_) (fun c6 => ?_)
      · replace h := fork_t c6 h
        refine W_seq ?_
        refine W_reg ?_
        refine O_p 1 ?_
        refine O_nil ?_
        refine W_ret ?_
        replace h := Option.some.inj h; subst h
        refine ⟨_, rfl, fun h => ?_⟩
        replace h := Option.some.inj h; subst h
        exact Fin_free (l := [.bool true]) (by kernel_rfl) (by kernel_rfl) rfl
      · replace h := fork_f c6 h
        refine W_skip ?_
        refine Gh_e ⟨⟨21, [(1, .i a1), (2, .po 0 0), (5, .i s1)]⟩, [.lv 2 [.i a0.Actuators, .ro (a0.Steps.map cSStep)]]⟩ ?_
        refine Gh_e ⟨⟨21, [(1, .i a1), (2, .po 0 0), (5, .i s1)]⟩, [.lv 2 [.i a0.Actuators, .ro (a0.Steps.map cSStep)]]⟩ ?_
        refine W_gh ?_
        refine W_reg ?_
        refine O_p 3 ?_
        refine O_nil ?_
        refine Gh_e ⟨⟨21, [(1, .i a1), (2, .po 0 0), (5, .i (addI .i64 s1 1))]⟩, [.lv 2 [.i a0.Actuators, .ro (a0.Steps.map cSStep)]]⟩ ?_
        refine Gh_e ⟨⟨21, [(1, .i a1), (2, .po 0 0), (5, .i (addI .i64 s1 1))]⟩, [.lv 2 [.i a0.Actuators, .ro (a0.Steps.map cSStep)]]⟩ ?_
        replace h := Option.some.inj h; subst h
        exact ⟨_, rfl, by kernel_rfl⟩
    · replace h := fork_f c3 h
      refine W_exit ?_
      refine X_hit ?_
      refine Gh_e ⟨⟨21, [(1, .i a1)]⟩, [.lv 2 [.i a0.Actuators, .ro (a0.Steps.map cSStep)]]⟩ ?_
      replace h := Option.some.inj h; subst h
      exact ⟨_, rfl, by kernel_rfl⟩
  · refine W_seq ?_
    refine W_reg ?_
    refine O_p 1 ?_
    refine O_nil ?_
    refine W_ret ?_
    replace h := Option.some.inj h; subst h
    exact Fin_free (l := [.bool false]) (by kernel_rfl) (by kernel_rfl) rfl

theorem p42 (a0 : SSequence) (r : Int) (h : m42 a0 = some r) : Pt E0 hp 42 [.agg (cSSequence a0)] (.i r) := by
  unfold m42 at h
  refine Pt_W (fn42) rfl (by decide) ?_
  refine W_seq ?_
  refine W_gh ?_
  refine W_reg ?_
  refine O_p 2 ?_
  refine O_nil ?_
  refine Gh_e ⟨⟨36, [(1, .po 0 0)]⟩, [.lv 2 [.i a0.Actuators, .ro (a0.Steps.map cSStep)]]⟩ ?_
  refine W_seq ?_
  refine W_seq ?_
  refine W_cut ⟨⟨36, [(1, .po 0 0), (12, .bool ((decide (a0.Actuators < 1)) || (decide (a0.Actuators > 6))))]⟩, [.lv 2 [.i a0.Actuators, .ro (a0.Steps.map cSStep)]]⟩ ?_ ?_
  · generalize e_g1 : ((decide (a0.Actuators < 1)) || (decide (a0.Actuators > 6))) = g1
    refine W_gh ?_
    refine W_reg ?_
    refine O_p 4 ?_
    refine O_fork (n := 8) (decide (a0.Actuators < 1)) (by kernel_rfl) (fun c2 => ?_) (fun c2 => ?_)
    · skip
      refine O_p 4 ?_
      refine O_nil ?_
      refine Gh_e ⟨⟨36, [(1, .po 0 0), (12, .bool true)]⟩, [.lv 2 [.i a0.Actuators, .ro (a0.Steps.map cSStep)]]⟩ ?_
      have q := e_g1; simp only [c2, cond_true, cond_false, Bool.true_and, Bool.false_and, Bool.true_or, Bool.false_or] at q; subst q
      show _ = _
      kernel_rfl
    · skip
      refine O_p 4 ?_
      refine O_nil ?_
      refine Gh_e ⟨⟨36, [(1, .po 0 0), (12, .bool (decide (a0.Actuators > 6)))]⟩, [.lv 2 [.i a0.Actuators, .ro (a0.Steps.map cSStep)]]⟩ ?_
      have q := e_g1; simp only [c2, cond_true, cond_false, Bool.true_and, Bool.false_and, Bool.true_or, Bool.false_or] at q; subst q
      show _ = _
      kernel_rfl
  · refine W_gh ?_
    refine W_cond (c := ((decide (a0.Actuators < 1)) || (decide (a0.Actuators > 6)))) (by kernel_rfl) (fun c3 => ?_) (fun c3 => ?_)
    · replace h := fork_t c3 h
      refine W_seq ?_
      refine W_reg ?_
      refine O_p 1 ?_
      refine O_nil ?_
      refine W_ret ?_
      replace h := Option.some.inj h; subst h
      exact Fin_free (l := [.i 2]) (by kernel_rfl) (by kernel_rfl) rfl
    · replace h := fork_f c3 h
      refine W_skip ?_
      refine Gh_e ⟨⟨36, [(1, .po 0 0)]⟩, [.lv 2 [.i a0.Actuators, .ro (a0.Steps.map cSStep)]]⟩ ?_
      refine W_seq ?_
      refine W_seq ?_
      refine W_gh ?_
      refine W_reg ?_
      refine O_p 2 ?_
      refine O_len (l := a0.Steps) cSStep (by kernel_rfl) (by kernel_rfl) ?_
      refine O_p 1 ?_
      refine O_nil ?_
      refine Gh_e ⟨⟨36, [(1, .po 0 0), (16, .bool ((a0.Steps.length : Int) == 0))]⟩, [.lv 2 [.i a0.Actuators, .ro (a0.Steps.map cSStep)]]⟩ ?_
      refine W_gh ?_
      refine W_cond (c := ((a0.Steps.length : Int) == 0)) (by kernel_rfl) (fun c4 => ?_) (fun c4 => ?_)
      · replace h := fork_t c4 h
        refine W_seq ?_
        refine W_reg ?_
        refine O_p 1 ?_
        refine O_nil ?_
        refine W_ret ?_
        replace h := Option.some.inj h; subst h
        exact Fin_free (l := [.i 13]) (by kernel_rfl) (by kernel_rfl) rfl
      · replace h := fork_f c4 h
        refine W_skip ?_
        refine Gh_e ⟨⟨36, [(1, .po 0 0)]⟩, [.lv 2 [.i a0.Actuators, .ro (a0.Steps.map cSStep)]]⟩ ?_
        refine W_seq ?_
        refine W_seq ?_
        refine W_gh ?_
        refine W_reg ?_
        refine O_p 2 ?_
        refine O_len (l := a0.Steps) cSStep (by kernel_rfl) (by kernel_rfl) ?_
        refine O_p 1 ?_
        refine O_nil ?_
        refine Gh_e ⟨⟨36, [(1, .po 0 0), (20, .bool (decide ((a0.Steps.length : Int) > 64)))]⟩, [.lv 2 [.i a0.Actuators, .ro (a0.Steps.map cSStep)]]⟩ ?_
        refine W_gh ?_
        refine W_cond (c := (decide ((a0.Steps.length : Int) > 64))) (by kernel_rfl) (fun c5 => ?_) (fun c5 => ?_)
        · replace h := fork_t c5 h
          refine W_seq ?_
          refine W_reg ?_
          refine O_p 1 ?_
          refine O_nil ?_
          refine W_ret ?_
          replace h := Option.some.inj h; subst h
          exact Fin_free (l := [.i 5]) (by kernel_rfl) (by kernel_rfl) rfl
        · replace h := fork_f c5 h
          refine W_skip ?_
          refine Gh_e ⟨⟨36, [(1, .po 0 0)]⟩, [.lv 2 [.i a0.Actuators, .ro (a0.Steps.map cSStep)]]⟩ ?_
          refine W_seq ?_
          refine W_seq ?_
          refine W_gh ?_
          refine W_reg ?_
          refine O_p 1 ?_
          refine O_call (fun v => .i v) h (.inr rfl) (ys := [.agg (cSSequence a0)]) (fun _ e => p68 _ _ e) (by kernel_rfl) (by kernel_rfl) (bels_cons (okSSequence.bel _) rfl) (fun v6 e_v6 h => ?_)
          refine O_p 1 ?_
          refine O_nil ?_
          refine Gh_e ⟨⟨36, [(1, .po 0 0), (3, .i v6)]⟩, [.lv 2 [.i a0.Actuators, .ro (a0.Steps.map cSStep)]]⟩ ?_
          refine W_seq ?_
          refine W_gh ?_
          refine W_reg ?_
          refine O_p 2 ?_
          refine O_nil ?_
          refine Gh_e ⟨⟨36, [(1, .po 0 0), (3, .i v6), (24, .bool (v6 != 0))]⟩, [.lv 2 [.i a0.Actuators, .ro (a0.Steps.map cSStep)]]⟩ ?_
          refine W_gh ?_
          refine W_cond (c := (v6 != 0)) (by kernel_rfl) (fun c7 => ?_) (fun c7 => ?_)
          · replace h := fork_t c7 h
            refine W_seq ?_
            refine W_gh ?_
            refine W_reg ?_
            refine O_p 2 ?_
            refine O_nil ?_
            refine Gh_e ⟨⟨36, [(1, .po 0 0), (2, .i v6), (24, .bool (v6 != 0))]⟩, [.lv 2 [.i a0.Actuators, .ro (a0.Steps.map cSStep)]]⟩ ?_
            refine W_ret ?_
            replace h := Option.some.inj h; subst h
            exact Fin_free (l := [.i v6]) (by kernel_rfl) (by kernel_rfl) rfl
          · replace h := fork_f c7 h
            refine W_skip ?_
            refine Gh_e ⟨⟨36, [(1, .po 0 0)]⟩, [.lv 2 [.i a0.Actuators, .ro (a0.Steps.map cSStep)]]⟩ ?_
            refine W_seq ?_
            refine W_seq ?_
            refine W_reg ?_
            refine O_p 1 ?_
            refine O_nil ?_
            refine W_loop (fun s8 : Int => ⟨⟨36, [(1, .po 0 0), (4, .i s8)]⟩, [.lv 2 [.i a0.Actuators, .ro (a0.Steps.map cSStep)]]⟩) (fun w9 : Unit => ⟨⟨36, []⟩, [.lv 2 [.i a0.Actuators, .ro (a0.Steps.map cSStep)]]⟩) h (by kernel_rfl) (fun s8 c h => ?_) (fun w9 h => ?_)
            · refine W_gh ?_
              refine W_seq ?_
              refine W_seq ?_
              refine W_gh ?_
              refine W_reg ?_
              refine O_p 4 ?_
              refine O_nil ?_
              refine Gh_e ⟨⟨36, [(1, .po 0 0), (4, .i s8), (29, .bool (decide (s8 < a0.Actuators)))]⟩, [.lv 2 [.i a0.Actuators, .ro (a0.Steps.map cSStep)]]⟩ ?_
              refine W_gh ?_
              refine W_cond (c := (decide (s8 < a0.Actuators))) (by kernel_rfl) (fun c10 => ?_) (fun c10 => ?_)
              · replace h := fork_t c10 h
                refine W_skip ?_
                refine Gh_e ⟨⟨36, [(1, .po 0 0), (4, .i s8)]⟩, [.lv 2 [.i a0.Actuators, .ro (a0.Steps.map cSStep)]]⟩ ?_
                refine W_seq ?_
                refine W_gh ?_
                refine W_block ?_
                refine W_seq ?_
                refine W_gh ?_
                refine W_reg ?_
                refine O_p 2 ?_
                refine O_call (fun v => .bool v) h (.inr rfl) (ys := [.agg (cSSequence a0), .i s8]) (fun _ e => p69 _ _ _ e) (by kernel_rfl) (by kernel_rfl) (bels_cons (okSSequence.bel _) (bels_cons rfl rfl)) (fun v11 e_v11 h => ?_)
                refine O_p 1 ?_
                refine O_nil ?_
                refine Gh_e ⟨⟨36, [(1, .po 0 0), (4, .i s8), (35, .bool (!v11))]⟩, [.lv 2 [.i a0.Actuators, .ro (a0.Steps.map cSStep)]]⟩ ?_
                refine W_gh ?_
                refine W_cond (c := (!v11)) (by kernel_rfl) (fun c12 => ?_) (fun c12 => ?_)
                · replace h := fork_t c12 h
                  refine W_seq ?_
                  refine W_reg ?_
                  refine O_p 1 ?_
                  refine O_nil ?_
                  refine W_ret ?_
                  replace h := Option.some.inj h; subst h
                  refine ⟨_, rfl, fun h => ?_⟩
                  replace h := Option.some.inj h; subst h
                  exact Fin_free (l := [.i 13]) (by kernel_rfl) (by kernel_rfl) rfl
                · replace h := fork_f c12 h
                  refine W_skip ?_
                  refine Gh_e ⟨⟨36, [(1, .po 0 0), (4, .i s8)]⟩, [.lv 2 [.i a0.Actuators, .ro (a0.Steps.map cSStep)]]⟩ ?_
                  refine Gh_e ⟨⟨36, [(1, .po 0 0), (4, .i s8)]⟩, [.lv 2 [.i a0.Actuators, .ro (a0.Steps.map cSStep)]]⟩ ?_
                  refine W_gh ?_
                  refine W_reg ?_
                  refine O_p 3 ?_
                  refine O_nil ?_
                  refine Gh_e ⟨⟨36, [(1, .po 0 0), (4, .i (addI .i64 s8 1))]⟩, [.lv 2 [.i a0.Actuators, .ro (a0.Steps.map cSStep)]]⟩ ?_
                  refine Gh_e ⟨⟨36, [(1, .po 0 0), (4, .i (addI .i64 s8 1))]⟩, [.lv 2 [.i a0.Actuators, .ro (a0.Steps.map cSStep)]]⟩ ?_
                  replace h := Option.some.inj h; subst h
                  exact ⟨_, rfl, by kernel_rfl⟩
              · replace h := fork_f c10 h
                refine W_exit ?_
                refine X_hit ?_
                refine Gh_e ⟨⟨36, []⟩, [.lv 2 [.i a0.Actuators, .ro (a0.Steps.map cSStep)]]⟩ ?_
                replace h := Option.some.inj h; subst h
                exact ⟨_, rfl, by kernel_rfl⟩
            · refine W_seq ?_
              refine W_reg ?_
              refine O_p 1 ?_
              refine O_nil ?_
              refine W_ret ?_
              replace h := Option.some.inj h; subst h
              exact Fin_free (l := [.i 0]) (by kernel_rfl) (by kernel_rfl) rfl

theorem p11 (a0 : SSequence) (a1 : SPlant) (r : Bool) (h : m11 a0 a1 = some r) : Pt E0 hp 11 [.agg (cSSequence a0), .agg (cSPlant a1)] (.bool r) := by
  unfold m11 at h
  refine Pt_W (fn11) rfl (by decide) ?_
  refine W_seq ?_
  refine W_gh ?_
  refine W_reg ?_
  refine O_p 3 ?_
  refine O_nil ?_
  refine Gh_e ⟨⟨24, [(2, .po 0 0), (3, .po 1 0)]⟩, [.lv 2 [.i a0.Actuators, .ro (a0.Steps.map cSStep)], .lv 1 [.ro (a1.Travels.map cSTravel)]]⟩ ?_
  refine W_seq ?_
  refine W_joinS (fun v : Bool => ⟨⟨24, [(4, .bool v)]⟩, [.lv 2 [.i a0.Actuators, .ro (a0.Steps.map cSStep)], .lv 1 [.ro (a1.Travels.map cSTravel)]]⟩) h (fun w h => ?_) (fun w1 e_w1 h => ?_)
  · refine W_gh ?_
    refine W_reg ?_
    refine O_p 1 ?_
    refine O_call (fun v => .bool v) h (.inr rfl) (ys := [.agg (cSSequence a0)]) (fun _ e => p43 _ _ e) (by kernel_rfl) (by kernel_rfl) (bels_cons (okSSequence.bel _) rfl) (fun v2 e_v2 h => ?_)
    refine O_p 1 ?_
    refine O_fork (n := 7) v2 (by kernel_rfl) (fun c3 => ?_) (fun c3 => ?_)
    · replace h := fork_t c3 h
      refine O_p 2 ?_
      refine O_len (l := a1.Travels) cSTravel (by kernel_rfl) (by kernel_rfl) ?_
      refine O_p 3 ?_
      refine O_fork (n := 13) (decide ((a1.Travels.length : Int) ≤ 20)) (by kernel_rfl) (fun c4 => ?_) (fun c4 => ?_)
      · replace h := fork_t c4 h
        refine O_p 2 ?_
        refine O_len (l := a0.Steps) cSStep (by kernel_rfl) (by kernel_rfl) ?_
        refine O_p 2 ?_
        refine O_fork (n := 18) (decide ((a0.Steps.length : Int) ≤ 12)) (by kernel_rfl) (fun c5 => ?_) (fun c5 => ?_)
        · replace h := fork_t c5 h
          refine O_p 6 ?_
          refine O_nil ?_
          refine Gh_e ⟨⟨24, [(4, .bool true)]⟩, [.lv 2 [.i a0.Actuators, .ro (a0.Steps.map cSStep)], .lv 1 [.ro (a1.Travels.map cSTravel)]]⟩ ?_
          replace h := Option.some.inj h; subst h
          show _ = _
          kernel_rfl
        · replace h := fork_f c5 h
          refine O_p 1 ?_
          refine O_call (fun v => .i v) h (.inr rfl) (ys := [.agg (cSSequence a0)]) (fun _ e => p42 _ _ e) (by kernel_rfl) (by kernel_rfl) (bels_cons (okSSequence.bel _) rfl) (fun v6 e_v6 h => ?_)
          refine O_p 4 ?_
          refine O_nil ?_
          refine Gh_e ⟨⟨24, [(4, .bool (v6 != 0))]⟩, [.lv 2 [.i a0.Actuators, .ro (a0.Steps.map cSStep)], .lv 1 [.ro (a1.Travels.map cSTravel)]]⟩ ?_
          replace h := Option.some.inj h; subst h
          show _ = _
          kernel_rfl
      · replace h := fork_f c4 h
        refine O_p 11 ?_
        refine O_nil ?_
        refine Gh_e ⟨⟨24, [(4, .bool false)]⟩, [.lv 2 [.i a0.Actuators, .ro (a0.Steps.map cSStep)], .lv 1 [.ro (a1.Travels.map cSTravel)]]⟩ ?_
        replace h := Option.some.inj h; subst h
        show _ = _
        kernel_rfl
    · replace h := fork_f c3 h
      refine O_p 17 ?_
      refine O_nil ?_
      refine Gh_e ⟨⟨24, [(4, .bool false)]⟩, [.lv 2 [.i a0.Actuators, .ro (a0.Steps.map cSStep)], .lv 1 [.ro (a1.Travels.map cSTravel)]]⟩ ?_
      replace h := Option.some.inj h; subst h
      show _ = _
      kernel_rfl
  · refine W_ret ?_
    replace h := Option.some.inj h; subst h
    exact Fin_free (l := [.bool w1]) (by kernel_rfl) (by kernel_rfl) rfl

theorem p45  (r : SPlant) (h : m45  = some r) : Pt E0 hp 45 [] (.agg [.ro (r.Travels.map cSTravel)]) := by
  unfold m45 at h
  refine Pt_W (fn45) rfl (by decide) ?_
  refine W_seq ?_
  refine W_gh ?_
  refine W_reg ?_
  refine O_p 1 ?_
  refine O_nil ?_
  refine Gh_e ⟨⟨9, [(0, .po 0 0)]⟩, [.lv 1 [.ro (([] : List STravel).map cSTravel)]]⟩ ?_
  refine W_seq ?_
  refine W_gh ?_
  refine W_reg ?_
  refine O_p 9 ?_
  refine O_nil ?_
  refine Gh_e ⟨⟨9, [(0, .po 0 0)]⟩, [.lv 1 [.own 1 2 0 2], .live .norm 4 (([(⟨(⟨200, 300⟩ : SSpan), (⟨150, 150⟩ : SSpan)⟩ : STravel), (⟨(⟨250, 250⟩ : SSpan), (⟨100, 400⟩ : SSpan)⟩ : STravel)] : List STravel).map cSTravel)]⟩ ?_
  refine W_ret ?_
  replace h := Option.some.inj h; subst h
  exact Fin_pk (l := [.agg [.own 1 2 0 2]]) (by kernel_rfl) (pk_agg (d := 5) (mapO_cons (pk_own (d := 4) (id := 1) (nl := .norm) (sz := 4) (l := ([(⟨(⟨200, 300⟩ : SSpan), (⟨150, 150⟩ : SSpan)⟩ : STravel), (⟨(⟨250, 250⟩ : SSpan), (⟨100, 400⟩ : SSpan)⟩ : STravel)] : List STravel)) okSTravel.bel (by kernel_rfl) rfl) rfl))

theorem p84 (a0 : Int) (r : Bool) (h : m84 a0 = some r) : Pt E0 hp 84 [.i a0] (.bool r) := by
  unfold m84 at h
  refine Pt_W (fn84) rfl (by decide) ?_
  refine W_seq ?_
  refine W_gh ?_
  refine W_reg ?_
  refine O_p 1 ?_
  refine O_nil ?_
  refine Gh_e ⟨⟨9, [(0, .i a0)]⟩, []⟩ ?_
  refine W_seq ?_
  refine W_cut ⟨⟨9, [(2, .bool ((decide (a0 ≥ 0)) && (decide (a0 < 6))))]⟩, []⟩ ?_ ?_
  · generalize e_g1 : ((decide (a0 ≥ 0)) && (decide (a0 < 6))) = g1
    refine W_gh ?_
    refine W_reg ?_
    refine O_p 3 ?_
    refine O_fork (n := 5) (decide (a0 ≥ 0)) (by kernel_rfl) (fun c2 => ?_) (fun c2 => ?_)
    · skip
      refine O_p 4 ?_
      refine O_nil ?_
      refine Gh_e ⟨⟨9, [(2, .bool (decide (a0 < 6)))]⟩, []⟩ ?_
      have q := e_g1; simp only [c2, cond_true, cond_false, Bool.true_and, Bool.false_and, Bool.true_or, Bool.false_or] at q; subst q
      show _ = _
      kernel_rfl
    · skip
      refine O_p 4 ?_
      refine O_nil ?_
      refine Gh_e ⟨⟨9, [(2, .bool false)]⟩, []⟩ ?_
      have q := e_g1; simp only [c2, cond_true, cond_false, Bool.true_and, Bool.false_and, Bool.true_or, Bool.false_or] at q; subst q
      show _ = _
      kernel_rfl
  · refine W_ret ?_
    replace h := Option.some.inj h; subst h
    exact Fin_free (l := [.bool ((decide (a0 ≥ 0)) && (decide (a0 < 6)))]) (by kernel_rfl) (by kernel_rfl) rfl

theorem p79 (a0 : SStep) (r : Int) (h : m79 a0 = some r) : Pt E0 hp 79 [.agg (cSStep a0)] (.i r) := by
  unfold m79 at h
  refine Pt_W (fn79) rfl (by decide) ?_
  refine W_seq ?_
  refine W_gh ?_
  refine W_reg ?_
  refine O_p 2 ?_
  refine O_nil ?_
  refine Gh_e ⟨⟨49, [(1, .po 0 0)]⟩, [.lv 2 [.ro (a0.Strokes.map cSStroke), .i a0.Wait]]⟩ ?_
  refine W_seq ?_
  refine W_seq ?_
  refine W_gh ?_
  refine W_reg ?_
  refine O_p 2 ?_
  refine O_len (l := a0.Strokes) cSStroke (by kernel_rfl) (by kernel_rfl) ?_
  refine O_p 1 ?_
  refine O_nil ?_
  refine Gh_e ⟨⟨49, [(1, .po 0 0), (3, .i (a0.Strokes.length : Int))]⟩, [.lv 2 [.ro (a0.Strokes.map cSStroke), .i a0.Wait]]⟩ ?_
  refine W_gh ?_
  refine W_block ?_
  refine W_seq ?_
  refine W_gh ?_
  refine W_reg ?_
  refine O_p 3 ?_
  refine O_nil ?_
  refine Gh_e ⟨⟨49, [(1, .po 0 0), (3, .i (a0.Strokes.length : Int)), (10, .bool ((a0.Strokes.length : Int) == 0))]⟩, [.lv 2 [.ro (a0.Strokes.map cSStroke), .i a0.Wait]]⟩ ?_
  refine W_gh ?_
  refine W_cond (c := ((a0.Strokes.length : Int) == 0)) (by kernel_rfl) (fun c1 => ?_) (fun c1 => ?_)
  · replace h := fork_t c1 h
    refine W_seq ?_
    refine W_reg ?_
    refine O_p 1 ?_
    refine O_nil ?_
    refine W_ret ?_
    replace h := Option.some.inj h; subst h
    exact Fin_free (l := [.i 13]) (by kernel_rfl) (by kernel_rfl) rfl
  · replace h := fork_f c1 h
    refine W_seq ?_
    refine W_gh ?_
    refine W_reg ?_
    refine O_p 3 ?_
    refine O_nil ?_
    refine Gh_e ⟨⟨49, [(1, .po 0 0), (10, .bool ((a0.Strokes.length : Int) == 0)), (13, .bool (decide ((a0.Strokes.length : Int) > 6)))]⟩, [.lv 2 [.ro (a0.Strokes.map cSStroke), .i a0.Wait]]⟩ ?_
    refine W_gh ?_
    refine W_cond (c := (decide ((a0.Strokes.length : Int) > 6))) (by kernel_rfl) (fun c2 => ?_) (fun c2 => ?_)
    · replace h := fork_t c2 h
      refine W_seq ?_
      refine W_reg ?_
      refine O_p 1 ?_
      refine O_nil ?_
      refine W_ret ?_
      replace h := Option.some.inj h; subst h
      exact Fin_free (l := [.i 5]) (by kernel_rfl) (by kernel_rfl) rfl
    · replace h := fork_f c2 h
      refine W_skip ?_
      refine Gh_e ⟨⟨49, [(1, .po 0 0), (10, .bool ((a0.Strokes.length : Int) == 0))]⟩, [.lv 2 [.ro (a0.Strokes.map cSStroke), .i a0.Wait]]⟩ ?_
      refine Gh_e ⟨⟨49, [(1, .po 0 0)]⟩, [.lv 2 [.ro (a0.Strokes.map cSStroke), .i a0.Wait]]⟩ ?_
      refine Gh_e ⟨⟨49, [(1, .po 0 0)]⟩, [.lv 2 [.ro (a0.Strokes.map cSStroke), .i a0.Wait]]⟩ ?_
      refine W_seq ?_
      refine W_reg ?_
      refine O_p 1 ?_
      refine O_nil ?_
      refine W_seq ?_
      refine W_seq ?_
      refine W_gh ?_
      refine W_reg ?_
      refine O_p 2 ?_
      refine O_len (l := a0.Strokes) cSStroke (by kernel_rfl) (by kernel_rfl) ?_
      refine O_p 1 ?_
      refine O_nil ?_
      refine Gh_e ⟨⟨49, [(1, .po 0 0), (4, .i (-1)), (17, .ro (a0.Strokes.map cSStroke)), (18, .i (a0.Strokes.length : Int)), (19, .i 0)]⟩, [.lv 2 [.ro (a0.Strokes.map cSStroke), .i a0.Wait]]⟩ ?_
      refine W_loop (fun s3 : Int × Int => ⟨⟨49, [(1, .po 0 0), (4, .i s3.2), (17, .ro (a0.Strokes.map cSStroke)), (18, .i (a0.Strokes.length : Int)), (19, .i s3.1)]⟩, [.lv 2 [.ro (a0.Strokes.map cSStroke), .i a0.Wait]]⟩) (fun w4 : Unit => ⟨⟨49, [(1, .po 0 0)]⟩, [.lv 2 [.ro (a0.Strokes.map cSStroke), .i a0.Wait]]⟩) h (by kernel_rfl) (fun s3 c h => ?_) (fun w4 h => ?_)
      · refine W_gh ?_
        refine W_seq ?_
        refine W_reg ?_
        refine O_p 1 ?_
        refine O_nil ?_
        refine W_seq ?_
        refine W_gh ?_
        refine W_cond (c := (decide (s3.1 < (a0.Strokes.length : Int)))) (by kernel_rfl) (fun c5 => ?_) (fun c5 => ?_)
        · replace h := fork_t c5 h
          refine W_skip ?_
          refine Gh_e ⟨⟨49, [(1, .po 0 0), (4, .i s3.2), (17, .ro (a0.Strokes.map cSStroke)), (18, .i (a0.Strokes.length : Int)), (19, .i s3.1)]⟩, [.lv 2 [.ro (a0.Strokes.map cSStroke), .i a0.Wait]]⟩ ?_
          refine W_seq ?_
          refine W_gh ?_
          refine W_block ?_
          refine W_seq ?_
          refine W_gh ?_
          refine W_reg ?_
          refine O_idx (kd := .i64) cSStroke h (fun _ => rfl) (by kernel_rfl) (by kernel_rfl) (by kernel_rfl) (fun v6 e_v6 h => ?_)
          refine O_p 3 ?_
          refine O_nil ?_
          refine Gh_e ⟨⟨49, [(1, .po 0 0), (4, .i s3.2), (6, .po 1 0), (17, .ro (a0.Strokes.map cSStroke)), (18, .i (a0.Strokes.length : Int)), (19, .i s3.1)]⟩, [.lv 2 [.ro (a0.Strokes.map cSStroke), .i a0.Wait], .lv 2 [.i v6.Actuator, .bool v6.Out]]⟩ ?_
          refine W_seq ?_
          refine W_gh ?_
          refine W_block ?_
          refine W_seq ?_
          refine W_gh ?_
          refine W_reg ?_
          refine O_p 2 ?_
          refine O_call (fun v => .bool v) h (.inr rfl) (ys := [.i v6.Actuator]) (fun _ e => p84 _ _ e) (by kernel_rfl) (by kernel_rfl) (bels_cons rfl rfl) (fun v7 e_v7 h => ?_)
          refine O_p 2 ?_
          refine O_nil ?_
          refine Gh_e ⟨⟨49, [(1, .po 0 0), (4, .i s3.2), (6, .po 1 0), (17, .ro (a0.Strokes.map cSStroke)), (18, .i (a0.Strokes.length : Int)), (19, .i s3.1), (23, .bool (!v7))]⟩, [.lv 2 [.ro (a0.Strokes.map cSStroke), .i a0.Wait], .lv 2 [.i v6.Actuator, .bool v6.Out]]⟩ ?_
          refine W_gh ?_
          refine W_cond (c := (!v7)) (by kernel_rfl) (fun c8 => ?_) (fun c8 => ?_)
          · replace h := fork_t c8 h
            refine W_seq ?_
            refine W_reg ?_
            refine O_p 1 ?_
            refine O_nil ?_
            refine W_ret ?_
            replace h := Option.some.inj h; subst h
            refine ⟨_, rfl, fun h => ?_⟩
            replace h := Option.some.inj h; subst h
            exact Fin_free (l := [.i 2]) (by kernel_rfl) (by kernel_rfl) rfl
          · replace h := fork_f c8 h
            refine W_seq ?_
            refine W_gh ?_
            refine W_reg ?_
            refine O_p 5 ?_
            refine O_nil ?_
            refine Gh_e ⟨⟨49, [(1, .po 0 0), (4, .i s3.2), (6, .po 1 0), (17, .ro (a0.Strokes.map cSStroke)), (18, .i (a0.Strokes.length : Int)), (19, .i s3.1), (23, .bool (!v7)), (28, .bool (v6.Actuator == s3.2))]⟩, [.lv 2 [.ro (a0.Strokes.map cSStroke), .i a0.Wait], .lv 2 [.i v6.Actuator, .bool v6.Out]]⟩ ?_
            refine W_gh ?_
            refine W_cond (c := (v6.Actuator == s3.2)) (by kernel_rfl) (fun c9 => ?_) (fun c9 => ?_)
            · replace h := fork_t c9 h
              refine W_seq ?_
              refine W_reg ?_
              refine O_p 1 ?_
              refine O_nil ?_
              refine W_ret ?_
              replace h := Option.some.inj h; subst h
              refine ⟨_, rfl, fun h => ?_⟩
              replace h := Option.some.inj h; subst h
              exact Fin_free (l := [.i 7]) (by kernel_rfl) (by kernel_rfl) rfl
            · replace h := fork_f c9 h
              refine W_seq ?_
              refine W_gh ?_
              refine W_reg ?_
              refine O_p 5 ?_
              refine O_nil ?_
              refine Gh_e ⟨⟨49, [(1, .po 0 0), (6, .po 1 0), (17, .ro (a0.Strokes.map cSStroke)), (18, .i (a0.Strokes.length : Int)), (19, .i s3.1), (23, .bool (!v7)), (28, .bool (v6.Actuator == s3.2)), (33, .bool (decide (v6.Actuator < s3.2)))]⟩, [.lv 2 [.ro (a0.Strokes.map cSStroke), .i a0.Wait], .lv 2 [.i v6.Actuator, .bool v6.Out]]⟩ ?_
              refine W_gh ?_
              refine W_cond (c := (decide (v6.Actuator < s3.2))) (by kernel_rfl) (fun c10 => ?_) (fun c10 => ?_)
              · replace h := fork_t c10 h
                refine W_seq ?_
                refine W_reg ?_
                refine O_p 1 ?_
                refine O_nil ?_
                refine W_ret ?_
                replace h := Option.some.inj h; subst h
                refine ⟨_, rfl, fun h => ?_⟩
                replace h := Option.some.inj h; subst h
                exact Fin_free (l := [.i 9]) (by kernel_rfl) (by kernel_rfl) rfl
              · replace h := fork_f c10 h
                refine W_skip ?_
                refine Gh_e ⟨⟨49, [(1, .po 0 0), (6, .po 1 0), (17, .ro (a0.Strokes.map cSStroke)), (18, .i (a0.Strokes.length : Int)), (19, .i s3.1), (23, .bool (!v7)), (28, .bool (v6.Actuator == s3.2))]⟩, [.lv 2 [.ro (a0.Strokes.map cSStroke), .i a0.Wait], .lv 2 [.i v6.Actuator, .bool v6.Out]]⟩ ?_
                refine Gh_e ⟨⟨49, [(1, .po 0 0), (6, .po 1 0), (17, .ro (a0.Strokes.map cSStroke)), (18, .i (a0.Strokes.length : Int)), (19, .i s3.1), (23, .bool (!v7))]⟩, [.lv 2 [.ro (a0.Strokes.map cSStroke), .i a0.Wait], .lv 2 [.i v6.Actuator, .bool v6.Out]]⟩ ?_
                refine Gh_e ⟨⟨49, [(1, .po 0 0), (6, .po 1 0), (17, .ro (a0.Strokes.map cSStroke)), (18, .i (a0.Strokes.length : Int)), (19, .i s3.1)]⟩, [.lv 2 [.ro (a0.Strokes.map cSStroke), .i a0.Wait], .lv 2 [.i v6.Actuator, .bool v6.Out]]⟩ ?_
                refine Gh_e ⟨⟨49, [(1, .po 0 0), (6, .po 1 0), (17, .ro (a0.Strokes.map cSStroke)), (18, .i (a0.Strokes.length : Int)), (19, .i s3.1)]⟩, [.lv 2 [.ro (a0.Strokes.map cSStroke), .i a0.Wait], .lv 2 [.i v6.Actuator, .bool v6.Out]]⟩ ?_
                refine W_gh ?_
                refine W_reg ?_
                refine O_p 3 ?_
                refine O_nil ?_
                refine Gh_e ⟨⟨49, [(1, .po 0 0), (4, .i v6.Actuator), (17, .ro (a0.Strokes.map cSStroke)), (18, .i (a0.Strokes.length : Int)), (19, .i s3.1)]⟩, [.lv 2 [.ro (a0.Strokes.map cSStroke), .i a0.Wait], .lv 2 [.i v6.Actuator, .bool v6.Out]]⟩ ?_
                refine Gh_one (s1 := ⟨⟨49, [(1, .po 0 0), (4, .i v6.Actuator), (17, .ro (a0.Strokes.map cSStroke)), (18, .i (a0.Strokes.length : Int)), (19, .i s3.1)]⟩, [.lv 2 [.ro (a0.Strokes.map cSStroke), .i a0.Wait], .lv 2 [.i v6.Actuator, .bool v6.Out]]⟩) (by kernel_rfl) ?_
                refine Gh_at (s1 := ⟨⟨49, [(1, .po 0 0), (4, .i v6.Actuator), (17, .ro (a0.Strokes.map cSStroke)), (18, .i (a0.Strokes.length : Int)), (19, .i s3.1)]⟩, [.lv 2 [.ro (a0.Strokes.map cSStroke), .i a0.Wait], .lv 2 [.i v6.Actuator, .bool v6.Out]]⟩) (by kernel_rfl) ?_
                refine Gh_trunc (s1 := ⟨⟨49, [(1, .po 0 0), (4, .i v6.Actuator), (17, .ro (a0.Strokes.map cSStroke)), (18, .i (a0.Strokes.length : Int)), (19, .i s3.1)]⟩, [.lv 2 [.ro (a0.Strokes.map cSStroke), .i a0.Wait]]⟩) (by kernel_rfl) (tb_ref rfl (tb_free rfl (tb_free (ro_bel okSStroke.bel _) (tb_free rfl (tb_free rfl rfl))))) (H1 := [.lv 2 [.ro (a0.Strokes.map cSStroke), .i a0.Wait]]) (by kernel_rfl) (ob_boxn (bn_free (ro_bel okSStroke.bel _) (bn_free rfl rfl)) rfl) (by kernel_rfl) ?_
                refine Gh_nil ?_
                refine W_gh ?_
                refine W_reg ?_
                refine O_p 2 ?_
                refine O_nil ?_
                refine Gh_e ⟨⟨49, [(1, .po 0 0), (4, .i v6.Actuator), (17, .ro (a0.Strokes.map cSStroke)), (18, .i (a0.Strokes.length : Int)), (19, .i (addI .i64 s3.1 1))]⟩, [.lv 2 [.ro (a0.Strokes.map cSStroke), .i a0.Wait]]⟩ ?_
                refine Gh_one (s1 := ⟨⟨49, [(1, .po 0 0), (4, .i v6.Actuator), (17, .ro (a0.Strokes.map cSStroke)), (18, .i (a0.Strokes.length : Int)), (19, .i (addI .i64 s3.1 1))]⟩, [.lv 2 [.ro (a0.Strokes.map cSStroke), .i a0.Wait]]⟩) (by kernel_rfl) ?_
                refine Gh_trunc0 (by kernel_rfl) ?_
                refine Gh_nil ?_
                replace h := Option.some.inj h; subst h
                exact ⟨_, rfl, by kernel_rfl⟩
        · replace h := fork_f c5 h
          refine W_exit ?_
          refine X_hit ?_
          refine Gh_one (s1 := ⟨⟨49, [(1, .po 0 0)]⟩, [.lv 2 [.ro (a0.Strokes.map cSStroke), .i a0.Wait]]⟩) (by kernel_rfl) ?_
          refine Gh_trunc0 (by kernel_rfl) ?_
          refine Gh_nil ?_
          replace h := Option.some.inj h; subst h
          exact ⟨_, rfl, by kernel_rfl⟩
      · refine W_seq ?_
        refine W_seq ?_
        refine W_cut ⟨⟨49, [(48, .bool ((decide (a0.Wait < 0)) || (decide (a0.Wait > 1000000))))]⟩, [.lv 2 [.ro (a0.Strokes.map cSStroke), .i a0.Wait]]⟩ ?_ ?_
        · generalize e_g11 : ((decide (a0.Wait < 0)) || (decide (a0.Wait > 1000000))) = g11
          refine W_gh ?_
          refine W_reg ?_
          refine O_p 4 ?_
          refine O_fork (n := 44) (decide (a0.Wait < 0)) (by kernel_rfl) (fun c12 => ?_) (fun c12 => ?_)
          · skip
            refine O_p 4 ?_
            refine O_nil ?_
            refine Gh_e ⟨⟨49, [(48, .bool true)]⟩, [.lv 2 [.ro (a0.Strokes.map cSStroke), .i a0.Wait]]⟩ ?_
            have q := e_g11; simp only [c1, c2, c12, cond_true, cond_false, Bool.true_and, Bool.false_and, Bool.true_or, Bool.false_or] at q; subst q
            show _ = _
            kernel_rfl
          · skip
            refine O_p 4 ?_
            refine O_nil ?_
            refine Gh_e ⟨⟨49, [(48, .bool (decide (a0.Wait > 1000000)))]⟩, [.lv 2 [.ro (a0.Strokes.map cSStroke), .i a0.Wait]]⟩ ?_
            have q := e_g11; simp only [c1, c2, c12, cond_true, cond_false, Bool.true_and, Bool.false_and, Bool.true_or, Bool.false_or] at q; subst q
            show _ = _
            kernel_rfl
        · refine W_gh ?_
          refine W_cond (c := ((decide (a0.Wait < 0)) || (decide (a0.Wait > 1000000)))) (by kernel_rfl) (fun c13 => ?_) (fun c13 => ?_)
          · replace h := fork_t c13 h
            refine W_seq ?_
            refine W_reg ?_
            refine O_p 1 ?_
            refine O_nil ?_
            refine W_ret ?_
            replace h := Option.some.inj h; subst h
            exact Fin_free (l := [.i 2]) (by kernel_rfl) (by kernel_rfl) rfl
          · replace h := fork_f c13 h
            refine W_skip ?_
            refine Gh_e ⟨⟨49, []⟩, [.lv 2 [.ro (a0.Strokes.map cSStroke), .i a0.Wait]]⟩ ?_
            refine W_seq ?_
            refine W_reg ?_
            refine O_p 1 ?_
            refine O_nil ?_
            refine W_ret ?_
            replace h := Option.some.inj h; subst h
            exact Fin_free (l := [.i 0]) (by kernel_rfl) (by kernel_rfl) rfl

theorem p65 (a0 : SSequence) (a1 : SStep) (a2 : (Arr 6 Bool)) (r : Int) (h : m65 a0 a1 a2 = some r) : Pt E0 hp 65 [.agg (cSSequence a0), .agg (cSStep a1), .agg ((cA AV.bool) a2)] (.i r) := by
  unfold m65 at h
  refine Pt_W (fn65) rfl (by decide) ?_
  refine W_seq ?_
  refine W_gh ?_
  refine W_reg ?_
  refine O_p 2 ?_
  refine O_boxA AV.bool (by kernel_rfl) (a := a2) (by kernel_rfl) (fun _ => rfl) ?_
  refine O_p 1 ?_
  refine O_nil ?_
  refine Gh_e ⟨⟨45, [(3, .po 0 0), (4, .po 1 0), (5, .po 2 0)]⟩, [.lv 2 [.i a0.Actuators, .ro (a0.Steps.map cSStep)], .lv 2 [.ro (a1.Strokes.map cSStroke), .i a1.Wait], .lv 6 (a2.1.map AV.bool)]⟩ ?_
  refine W_seq ?_
  refine W_seq ?_
  refine W_gh ?_
  refine W_reg ?_
  refine O_p 1 ?_
  refine O_call (fun v => .i v) h (.inr rfl) (ys := [.agg (cSStep a1)]) (fun _ e => p79 _ _ e) (by kernel_rfl) (by kernel_rfl) (bels_cons (okSStep.bel _) rfl) (fun v1 e_v1 h => ?_)
  refine O_p 1 ?_
  refine O_nil ?_
  refine Gh_e ⟨⟨45, [(3, .po 0 0), (4, .po 1 0), (5, .po 2 0), (7, .i v1)]⟩, [.lv 2 [.i a0.Actuators, .ro (a0.Steps.map cSStep)], .lv 2 [.ro (a1.Strokes.map cSStroke), .i a1.Wait], .lv 6 (a2.1.map AV.bool)]⟩ ?_
  refine W_seq ?_
  refine W_gh ?_
  refine W_reg ?_
  refine O_p 2 ?_
  refine O_nil ?_
  refine Gh_e ⟨⟨45, [(3, .po 0 0), (4, .po 1 0), (5, .po 2 0), (7, .i v1), (15, .bool (v1 != 0))]⟩, [.lv 2 [.i a0.Actuators, .ro (a0.Steps.map cSStep)], .lv 2 [.ro (a1.Strokes.map cSStroke), .i a1.Wait], .lv 6 (a2.1.map AV.bool)]⟩ ?_
  refine W_gh ?_
  refine W_cond (c := (v1 != 0)) (by kernel_rfl) (fun c2 => ?_) (fun c2 => ?_)
  · replace h := fork_t c2 h
    refine W_seq ?_
    refine W_gh ?_
    refine W_reg ?_
    refine O_p 2 ?_
    refine O_nil ?_
    refine Gh_e ⟨⟨45, [(3, .po 0 0), (4, .po 1 0), (5, .po 2 0), (6, .i v1), (15, .bool (v1 != 0))]⟩, [.lv 2 [.i a0.Actuators, .ro (a0.Steps.map cSStep)], .lv 2 [.ro (a1.Strokes.map cSStroke), .i a1.Wait], .lv 6 (a2.1.map AV.bool)]⟩ ?_
    refine W_ret ?_
    replace h := Option.some.inj h; subst h
    exact Fin_free (l := [.i v1]) (by kernel_rfl) (by kernel_rfl) rfl
  · replace h := fork_f c2 h
    refine W_skip ?_
    refine Gh_e ⟨⟨45, [(3, .po 0 0), (4, .po 1 0), (5, .po 2 0)]⟩, [.lv 2 [.i a0.Actuators, .ro (a0.Steps.map cSStep)], .lv 2 [.ro (a1.Strokes.map cSStroke), .i a1.Wait], .lv 6 (a2.1.map AV.bool)]⟩ ?_
    refine W_seq ?_
    refine W_seq ?_
    refine W_gh ?_
    refine W_reg ?_
    refine O_p 2 ?_
    refine O_len (l := a1.Strokes) cSStroke (by kernel_rfl) (by kernel_rfl) ?_
    refine O_p 1 ?_
    refine O_nil ?_
    refine Gh_e ⟨⟨45, [(3, .po 0 0), (4, .po 1 0), (5, .po 2 0), (18, .ro (a1.Strokes.map cSStroke)), (19, .i (a1.Strokes.length : Int)), (20, .i 0)]⟩, [.lv 2 [.i a0.Actuators, .ro (a0.Steps.map cSStep)], .lv 2 [.ro (a1.Strokes.map cSStroke), .i a1.Wait], .lv 6 (a2.1.map AV.bool)]⟩ ?_
    refine W_loop (fun s3 : Int => ⟨⟨45, [(3, .po 0 0), (4, .po 1 0), (5, .po 2 0), (18, .ro (a1.Strokes.map cSStroke)), (19, .i (a1.Strokes.length : Int)), (20, .i s3)]⟩, [.lv 2 [.i a0.Actuators, .ro (a0.Steps.map cSStep)], .lv 2 [.ro (a1.Strokes.map cSStroke), .i a1.Wait], .lv 6 (a2.1.map AV.bool)]⟩) (fun w4 : Unit => ⟨⟨45, [(4, .po 1 0), (5, .po 2 0)]⟩, [.lv 2 [.i a0.Actuators, .ro (a0.Steps.map cSStep)], .lv 2 [.ro (a1.Strokes.map cSStroke), .i a1.Wait], .lv 6 (a2.1.map AV.bool)]⟩) h (by kernel_rfl) (fun s3 c h => ?_) (fun w4 h => ?_)
    · refine W_gh ?_
      refine W_seq ?_
      refine W_reg ?_
      refine O_p 1 ?_
      refine O_nil ?_
      refine W_seq ?_
      refine W_gh ?_
      refine W_cond (c := (decide (s3 < (a1.Strokes.length : Int)))) (by kernel_rfl) (fun c5 => ?_) (fun c5 => ?_)
      · replace h := fork_t c5 h
        refine W_skip ?_
        refine Gh_e ⟨⟨45, [(3, .po 0 0), (4, .po 1 0), (5, .po 2 0), (18, .ro (a1.Strokes.map cSStroke)), (19, .i (a1.Strokes.length : Int)), (20, .i s3)]⟩, [.lv 2 [.i a0.Actuators, .ro (a0.Steps.map cSStep)], .lv 2 [.ro (a1.Strokes.map cSStroke), .i a1.Wait], .lv 6 (a2.1.map AV.bool)]⟩ ?_
        refine W_seq ?_
        refine W_gh ?_
        refine W_block ?_
        refine W_seq ?_
        refine W_gh ?_
        refine W_reg ?_
        refine O_idx (kd := .i64) cSStroke h (fun _ => rfl) (by kernel_rfl) (by kernel_rfl) (by kernel_rfl) (fun v6 e_v6 h => ?_)
        refine O_p 3 ?_
        refine O_nil ?_
        refine Gh_e ⟨⟨45, [(3, .po 0 0), (4, .po 1 0), (5, .po 2 0), (9, .po 3 0), (18, .ro (a1.Strokes.map cSStroke)), (19, .i (a1.Strokes.length : Int)), (20, .i s3)]⟩, [.lv 2 [.i a0.Actuators, .ro (a0.Steps.map cSStep)], .lv 2 [.ro (a1.Strokes.map cSStroke), .i a1.Wait], .lv 6 (a2.1.map AV.bool), .lv 2 [.i v6.Actuator, .bool v6.Out]]⟩ ?_
        refine W_seq ?_
        refine W_gh ?_
        refine W_reg ?_
        refine O_p 5 ?_
        refine O_nil ?_
        refine Gh_e ⟨⟨45, [(3, .po 0 0), (4, .po 1 0), (5, .po 2 0), (18, .ro (a1.Strokes.map cSStroke)), (19, .i (a1.Strokes.length : Int)), (20, .i s3), (28, .bool (decide (v6.Actuator ≥ a0.Actuators)))]⟩, [.lv 2 [.i a0.Actuators, .ro (a0.Steps.map cSStep)], .lv 2 [.ro (a1.Strokes.map cSStroke), .i a1.Wait], .lv 6 (a2.1.map AV.bool), .lv 2 [.i v6.Actuator, .bool v6.Out]]⟩ ?_
        refine W_gh ?_
        refine W_cond (c := (decide (v6.Actuator ≥ a0.Actuators))) (by kernel_rfl) (fun c7 => ?_) (fun c7 => ?_)
        · replace h := fork_t c7 h
          refine W_seq ?_
          refine W_reg ?_
          refine O_p 1 ?_
          refine O_nil ?_
          refine W_ret ?_
          replace h := Option.some.inj h; subst h
          refine ⟨_, rfl, fun h => ?_⟩
          replace h := Option.some.inj h; subst h
          exact Fin_free (l := [.i 6]) (by kernel_rfl) (by kernel_rfl) rfl
        · replace h := fork_f c7 h
          refine W_skip ?_
          refine Gh_e ⟨⟨45, [(3, .po 0 0), (4, .po 1 0), (5, .po 2 0), (18, .ro (a1.Strokes.map cSStroke)), (19, .i (a1.Strokes.length : Int)), (20, .i s3)]⟩, [.lv 2 [.i a0.Actuators, .ro (a0.Steps.map cSStep)], .lv 2 [.ro (a1.Strokes.map cSStroke), .i a1.Wait], .lv 6 (a2.1.map AV.bool), .lv 2 [.i v6.Actuator, .bool v6.Out]]⟩ ?_
          refine Gh_one (s1 := ⟨⟨45, [(3, .po 0 0), (4, .po 1 0), (5, .po 2 0), (18, .ro (a1.Strokes.map cSStroke)), (19, .i (a1.Strokes.length : Int)), (20, .i s3)]⟩, [.lv 2 [.i a0.Actuators, .ro (a0.Steps.map cSStep)], .lv 2 [.ro (a1.Strokes.map cSStroke), .i a1.Wait], .lv 6 (a2.1.map AV.bool), .lv 2 [.i v6.Actuator, .bool v6.Out]]⟩) (by kernel_rfl) ?_
          refine Gh_at (s1 := ⟨⟨45, [(3, .po 0 0), (4, .po 1 0), (5, .po 2 0), (18, .ro (a1.Strokes.map cSStroke)), (19, .i (a1.Strokes.length : Int)), (20, .i s3)]⟩, [.lv 2 [.i a0.Actuators, .ro (a0.Steps.map cSStep)], .lv 2 [.ro (a1.Strokes.map cSStroke), .i a1.Wait], .lv 6 (a2.1.map AV.bool), .lv 2 [.i v6.Actuator, .bool v6.Out]]⟩) (by kernel_rfl) ?_
          refine Gh_trunc (s1 := ⟨⟨45, [(3, .po 0 0), (4, .po 1 0), (5, .po 2 0), (18, .ro (a1.Strokes.map cSStroke)), (19, .i (a1.Strokes.length : Int)), (20, .i s3)]⟩, [.lv 2 [.i a0.Actuators, .ro (a0.Steps.map cSStep)], .lv 2 [.ro (a1.Strokes.map cSStroke), .i a1.Wait], .lv 6 (a2.1.map AV.bool)]⟩) (by kernel_rfl) (tb_ref rfl (tb_ref rfl (tb_ref rfl (tb_free (ro_bel okSStroke.bel _) (tb_free rfl (tb_free rfl rfl)))))) (H1 := [.lv 2 [.i a0.Actuators, .ro (a0.Steps.map cSStep)], .lv 2 [.ro (a1.Strokes.map cSStroke), .i a1.Wait], .lv 6 (a2.1.map AV.bool)]) (by kernel_rfl) (ob_boxn (bn_free rfl (bn_free (ro_bel okSStep.bel _) rfl)) (ob_boxn (bn_free (ro_bel okSStroke.bel _) (bn_free rfl rfl)) (ob_boxn (bels_mono (Nat.zero_le _) _ (bels_arr (fun _ => rfl) _)) rfl))) (by kernel_rfl) ?_
          refine Gh_nil ?_
          refine W_gh ?_
          refine W_reg ?_
          refine O_p 2 ?_
          refine O_nil ?_
          refine Gh_e ⟨⟨45, [(3, .po 0 0), (4, .po 1 0), (5, .po 2 0), (18, .ro (a1.Strokes.map cSStroke)), (19, .i (a1.Strokes.length : Int)), (20, .i (addI .i64 s3 1))]⟩, [.lv 2 [.i a0.Actuators, .ro (a0.Steps.map cSStep)], .lv 2 [.ro (a1.Strokes.map cSStroke), .i a1.Wait], .lv 6 (a2.1.map AV.bool)]⟩ ?_
          refine Gh_one (s1 := ⟨⟨45, [(3, .po 0 0), (4, .po 1 0), (5, .po 2 0), (18, .ro (a1.Strokes.map cSStroke)), (19, .i (a1.Strokes.length : Int)), (20, .i (addI .i64 s3 1))]⟩, [.lv 2 [.i a0.Actuators, .ro (a0.Steps.map cSStep)], .lv 2 [.ro (a1.Strokes.map cSStroke), .i a1.Wait], .lv 6 (a2.1.map AV.bool)]⟩) (by kernel_rfl) ?_
          refine Gh_trunc0 (by kernel_rfl) ?_
          refine Gh_nil ?_
          replace h := Option.some.inj h; subst h
          exact ⟨_, rfl, by kernel_rfl⟩
      · replace h := fork_f c5 h
        refine W_exit ?_
        refine X_hit ?_
        refine Gh_one (s1 := ⟨⟨45, [(4, .po 1 0), (5, .po 2 0)]⟩, [.lv 2 [.i a0.Actuators, .ro (a0.Steps.map cSStep)], .lv 2 [.ro (a1.Strokes.map cSStroke), .i a1.Wait], .lv 6 (a2.1.map AV.bool)]⟩) (by kernel_rfl) ?_
        refine Gh_trunc0 (by kernel_rfl) ?_
        refine Gh_nil ?_
        replace h := Option.some.inj h; subst h
        exact ⟨_, rfl, by kernel_rfl⟩
    · refine W_seq ?_
      refine W_seq ?_
      refine W_gh ?_
      refine W_reg ?_
      refine O_p 2 ?_
      refine O_len (l := a1.Strokes) cSStroke (by kernel_rfl) (by kernel_rfl) ?_
      refine O_p 1 ?_
      refine O_nil ?_
      refine Gh_e ⟨⟨45, [(5, .po 2 0), (31, .ro (a1.Strokes.map cSStroke)), (32, .i (a1.Strokes.length : Int)), (33, .i 0)]⟩, [.lv 2 [.i a0.Actuators, .ro (a0.Steps.map cSStep)], .lv 2 [.ro (a1.Strokes.map cSStroke), .i a1.Wait], .lv 6 (a2.1.map AV.bool)]⟩ ?_
      refine W_loop (fun s8 : Int => ⟨⟨45, [(5, .po 2 0), (31, .ro (a1.Strokes.map cSStroke)), (32, .i (a1.Strokes.length : Int)), (33, .i s8)]⟩, [.lv 2 [.i a0.Actuators, .ro (a0.Steps.map cSStep)], .lv 2 [.ro (a1.Strokes.map cSStroke), .i a1.Wait], .lv 6 (a2.1.map AV.bool)]⟩) (fun w9 : Unit => ⟨⟨45, []⟩, [.lv 2 [.i a0.Actuators, .ro (a0.Steps.map cSStep)], .lv 2 [.ro (a1.Strokes.map cSStroke), .i a1.Wait], .lv 6 (a2.1.map AV.bool)]⟩) h (by kernel_rfl) (fun s8 c h => ?_) (fun w9 h => ?_)
      · refine W_gh ?_
        refine W_seq ?_
        refine W_reg ?_
        refine O_p 1 ?_
        refine O_nil ?_
        refine W_seq ?_
        refine W_gh ?_
        refine W_cond (c := (decide (s8 < (a1.Strokes.length : Int)))) (by kernel_rfl) (fun c10 => ?_) (fun c10 => ?_)
        · replace h := fork_t c10 h
          refine W_skip ?_
          refine Gh_e ⟨⟨45, [(5, .po 2 0), (31, .ro (a1.Strokes.map cSStroke)), (32, .i (a1.Strokes.length : Int)), (33, .i s8)]⟩, [.lv 2 [.i a0.Actuators, .ro (a0.Steps.map cSStep)], .lv 2 [.ro (a1.Strokes.map cSStroke), .i a1.Wait], .lv 6 (a2.1.map AV.bool)]⟩ ?_
          refine W_seq ?_
          refine W_gh ?_
          refine W_block ?_
          refine W_seq ?_
          refine W_gh ?_
          refine W_reg ?_
          refine O_idx (kd := .i64) cSStroke h (fun _ => rfl) (by kernel_rfl) (by kernel_rfl) (by kernel_rfl) (fun v11 e_v11 h => ?_)
          refine O_p 3 ?_
          refine O_nil ?_
          refine Gh_e ⟨⟨45, [(5, .po 2 0), (11, .po 3 0), (31, .ro (a1.Strokes.map cSStroke)), (32, .i (a1.Strokes.length : Int)), (33, .i s8)]⟩, [.lv 2 [.i a0.Actuators, .ro (a0.Steps.map cSStep)], .lv 2 [.ro (a1.Strokes.map cSStroke), .i a1.Wait], .lv 6 (a2.1.map AV.bool), .lv 2 [.i v11.Actuator, .bool v11.Out]]⟩ ?_
          refine W_seq ?_
          refine W_gh ?_
          refine W_draw ?_
          refine O_p 2 ?_
          refine O_iadB (kd := .i64) (id := 2) AV.bool h (by kernel_rfl) (by kernel_rfl) (by kernel_rfl) (by kernel_rfl) (fun v12 e_v12 h => ?_)
          refine O_ldA (id := 2) AV.bool e_v12 (by kernel_rfl) (by kernel_rfl) (by kernel_rfl) ?_
          refine O_p 3 ?_
          refine O_nil ?_
          refine Gh_e ⟨⟨45, [(5, .po 2 0), (31, .ro (a1.Strokes.map cSStroke)), (32, .i (a1.Strokes.length : Int)), (33, .i s8), (43, .bool ((v12 == v11.Out) != false))]⟩, [.lv 2 [.i a0.Actuators, .ro (a0.Steps.map cSStep)], .lv 2 [.ro (a1.Strokes.map cSStroke), .i a1.Wait], .lv 6 (a2.1.map AV.bool), .lv 2 [.i v11.Actuator, .bool v11.Out]]⟩ ?_
          refine W_gh ?_
          refine W_cond (c := ((v12 == v11.Out) != false)) (by kernel_rfl) (fun c13 => ?_) (fun c13 => ?_)
          · replace h := fork_t c13 h
            refine W_seq ?_
            refine W_reg ?_
            refine O_p 1 ?_
            refine O_nil ?_
            refine W_ret ?_
            replace h := Option.some.inj h; subst h
            refine ⟨_, rfl, fun h => ?_⟩
            replace h := Option.some.inj h; subst h
            exact Fin_free (l := [.i 14]) (by kernel_rfl) (by kernel_rfl) rfl
          · replace h := fork_f c13 h
            refine W_skip ?_
            refine Gh_e ⟨⟨45, [(5, .po 2 0), (31, .ro (a1.Strokes.map cSStroke)), (32, .i (a1.Strokes.length : Int)), (33, .i s8)]⟩, [.lv 2 [.i a0.Actuators, .ro (a0.Steps.map cSStep)], .lv 2 [.ro (a1.Strokes.map cSStroke), .i a1.Wait], .lv 6 (a2.1.map AV.bool), .lv 2 [.i v11.Actuator, .bool v11.Out]]⟩ ?_
            refine Gh_one (s1 := ⟨⟨45, [(5, .po 2 0), (31, .ro (a1.Strokes.map cSStroke)), (32, .i (a1.Strokes.length : Int)), (33, .i s8)]⟩, [.lv 2 [.i a0.Actuators, .ro (a0.Steps.map cSStep)], .lv 2 [.ro (a1.Strokes.map cSStroke), .i a1.Wait], .lv 6 (a2.1.map AV.bool), .lv 2 [.i v11.Actuator, .bool v11.Out]]⟩) (by kernel_rfl) ?_
            refine Gh_at (s1 := ⟨⟨45, [(5, .po 2 0), (31, .ro (a1.Strokes.map cSStroke)), (32, .i (a1.Strokes.length : Int)), (33, .i s8)]⟩, [.lv 2 [.i a0.Actuators, .ro (a0.Steps.map cSStep)], .lv 2 [.ro (a1.Strokes.map cSStroke), .i a1.Wait], .lv 6 (a2.1.map AV.bool), .lv 2 [.i v11.Actuator, .bool v11.Out]]⟩) (by kernel_rfl) ?_
            refine Gh_trunc (s1 := ⟨⟨45, [(5, .po 2 0), (31, .ro (a1.Strokes.map cSStroke)), (32, .i (a1.Strokes.length : Int)), (33, .i s8)]⟩, [.lv 2 [.i a0.Actuators, .ro (a0.Steps.map cSStep)], .lv 2 [.ro (a1.Strokes.map cSStroke), .i a1.Wait], .lv 6 (a2.1.map AV.bool)]⟩) (by kernel_rfl) (tb_ref rfl (tb_free (ro_bel okSStroke.bel _) (tb_free rfl (tb_free rfl rfl)))) (H1 := [.lv 2 [.i a0.Actuators, .ro (a0.Steps.map cSStep)], .lv 2 [.ro (a1.Strokes.map cSStroke), .i a1.Wait], .lv 6 (a2.1.map AV.bool)]) (by kernel_rfl) (ob_boxn (bn_free rfl (bn_free (ro_bel okSStep.bel _) rfl)) (ob_boxn (bn_free (ro_bel okSStroke.bel _) (bn_free rfl rfl)) (ob_boxn (bels_mono (Nat.zero_le _) _ (bels_arr (fun _ => rfl) _)) rfl))) (by kernel_rfl) ?_
            refine Gh_nil ?_
            refine W_gh ?_
            refine W_reg ?_
            refine O_p 2 ?_
            refine O_nil ?_
            refine Gh_e ⟨⟨45, [(5, .po 2 0), (31, .ro (a1.Strokes.map cSStroke)), (32, .i (a1.Strokes.length : Int)), (33, .i (addI .i64 s8 1))]⟩, [.lv 2 [.i a0.Actuators, .ro (a0.Steps.map cSStep)], .lv 2 [.ro (a1.Strokes.map cSStroke), .i a1.Wait], .lv 6 (a2.1.map AV.bool)]⟩ ?_
            refine Gh_one (s1 := ⟨⟨45, [(5, .po 2 0), (31, .ro (a1.Strokes.map cSStroke)), (32, .i (a1.Strokes.length : Int)), (33, .i (addI .i64 s8 1))]⟩, [.lv 2 [.i a0.Actuators, .ro (a0.Steps.map cSStep)], .lv 2 [.ro (a1.Strokes.map cSStroke), .i a1.Wait], .lv 6 (a2.1.map AV.bool)]⟩) (by kernel_rfl) ?_
            refine Gh_trunc0 (by kernel_rfl) ?_
            refine Gh_nil ?_
            replace h := Option.some.inj h; subst h
            exact ⟨_, rfl, by kernel_rfl⟩
        · replace h := fork_f c10 h
          refine W_exit ?_
          refine X_hit ?_
          refine Gh_one (s1 := ⟨⟨45, []⟩, [.lv 2 [.i a0.Actuators, .ro (a0.Steps.map cSStep)], .lv 2 [.ro (a1.Strokes.map cSStroke), .i a1.Wait], .lv 6 (a2.1.map AV.bool)]⟩) (by kernel_rfl) ?_
          refine Gh_trunc0 (by kernel_rfl) ?_
          refine Gh_nil ?_
          replace h := Option.some.inj h; subst h
          exact ⟨_, rfl, by kernel_rfl⟩
      · refine W_seq ?_
        refine W_reg ?_
        refine O_p 1 ?_
        refine O_nil ?_
        refine W_ret ?_
        replace h := Option.some.inj h; subst h
        exact Fin_free (l := [.i 0]) (by kernel_rfl) (by kernel_rfl) rfl

theorem p66 (a0 : (Arr 6 Bool)) (a1 : SStep) (r : (Arr 6 Bool)) (h : m66 a0 a1 = some r) : Pt E0 hp 66 [.agg ((cA AV.bool) a0), .agg (cSStep a1)] (.agg (r.1.map AV.bool)) := by
  unfold m66 at h
  refine Pt_W (fn66) rfl (by decide) ?_
  refine W_seq ?_
  refine W_gh ?_
  refine W_reg ?_
  refine O_boxA AV.bool (by kernel_rfl) (a := a0) (by kernel_rfl) (fun _ => rfl) ?_
  refine O_p 2 ?_
  refine O_nil ?_
  refine Gh_e ⟨⟨21, [(2, .po 0 0), (3, .po 1 0), (4, .po 2 0)]⟩, [.lv 6 (a0.1.map AV.bool), .lv 2 [.ro (a1.Strokes.map cSStroke), .i a1.Wait], .lv 6 ((Arr.rep 6 false).1.map AV.bool)]⟩ ?_
  refine W_seq ?_
  refine W_seq ?_
  refine W_gh ?_
  refine W_reg ?_
  refine O_p 2 ?_
  refine O_len (l := a1.Strokes) cSStroke (by kernel_rfl) (by kernel_rfl) ?_
  refine O_p 1 ?_
  refine O_nil ?_
  refine Gh_e ⟨⟨21, [(2, .po 0 0), (4, .po 2 0), (8, .ro (a1.Strokes.map cSStroke)), (9, .i (a1.Strokes.length : Int)), (10, .i 0)]⟩, [.lv 6 (a0.1.map AV.bool), .lv 2 [.ro (a1.Strokes.map cSStroke), .i a1.Wait], .lv 6 ((Arr.rep 6 false).1.map AV.bool)]⟩ ?_
  refine W_loopS (fun s1 : (Arr 6 Bool) × Int => ⟨⟨21, [(2, .po 0 0), (4, .po 2 0), (8, .ro (a1.Strokes.map cSStroke)), (9, .i (a1.Strokes.length : Int)), (10, .i s1.2)]⟩, [.lv 6 (s1.1.1.map AV.bool), .lv 2 [.ro (a1.Strokes.map cSStroke), .i a1.Wait], .lv 6 ((Arr.rep 6 false).1.map AV.bool)]⟩) (fun w2 : (Arr 6 Bool) => ⟨⟨21, [(2, .po 0 0), (4, .po 2 0)]⟩, [.lv 6 (w2.1.map AV.bool), .lv 2 [.ro (a1.Strokes.map cSStroke), .i a1.Wait], .lv 6 ((Arr.rep 6 false).1.map AV.bool)]⟩) h (by kernel_rfl) (fun s1 c h => ?_) (fun w2 e_w2 h => ?_)
  · refine W_gh ?_
    refine W_seq ?_
    refine W_reg ?_
    refine O_p 1 ?_
    refine O_nil ?_
    refine W_seq ?_
    refine W_gh ?_
    refine W_cond (c := (decide (s1.2 < (a1.Strokes.length : Int)))) (by kernel_rfl) (fun c3 => ?_) (fun c3 => ?_)
    · replace h := fork_t c3 h
      refine W_skip ?_
      refine Gh_e ⟨⟨21, [(2, .po 0 0), (4, .po 2 0), (8, .ro (a1.Strokes.map cSStroke)), (9, .i (a1.Strokes.length : Int)), (10, .i s1.2)]⟩, [.lv 6 (s1.1.1.map AV.bool), .lv 2 [.ro (a1.Strokes.map cSStroke), .i a1.Wait], .lv 6 ((Arr.rep 6 false).1.map AV.bool)]⟩ ?_
      refine W_seq ?_
      refine W_gh ?_
      refine W_block ?_
      refine W_seq ?_
      refine W_gh ?_
      refine W_reg ?_
      refine O_idx (kd := .i64) cSStroke h (fun _ => rfl) (by kernel_rfl) (by kernel_rfl) (by kernel_rfl) (fun v4 e_v4 h => ?_)
      refine O_p 3 ?_
      refine O_nil ?_
      refine Gh_e ⟨⟨21, [(2, .po 0 0), (4, .po 2 0), (6, .po 3 0), (8, .ro (a1.Strokes.map cSStroke)), (9, .i (a1.Strokes.length : Int)), (10, .i s1.2)]⟩, [.lv 6 (s1.1.1.map AV.bool), .lv 2 [.ro (a1.Strokes.map cSStroke), .i a1.Wait], .lv 6 ((Arr.rep 6 false).1.map AV.bool), .lv 2 [.i v4.Actuator, .bool v4.Out]]⟩ ?_
      refine W_gh ?_
      refine W_reg ?_
      refine O_p 4 ?_
      refine O_iadB (kd := .i64) (id := 0) AV.bool h (by kernel_rfl) (by kernel_rfl) (by kernel_rfl) (by kernel_rfl) (fun v5 e_v5 h => ?_)
      refine O_stA (id := 0) AV.bool e_v5 (by kernel_rfl) (by kernel_rfl) (by kernel_rfl) (v := v4.Out) (by kernel_rfl) (fun _ => rfl) (fun _ => rfl) ?_
      refine O_nil ?_
      refine Gh_e ⟨⟨21, [(2, .po 0 0), (4, .po 2 0), (8, .ro (a1.Strokes.map cSStroke)), (9, .i (a1.Strokes.length : Int)), (10, .i s1.2)]⟩, [.lv 6 ((s1.1.put v4.Actuator.toNat v4.Out).1.map AV.bool), .lv 2 [.ro (a1.Strokes.map cSStroke), .i a1.Wait], .lv 6 ((Arr.rep 6 false).1.map AV.bool), .lv 2 [.i v4.Actuator, .bool v4.Out]]⟩ ?_
      refine Gh_one (s1 := ⟨⟨21, [(2, .po 0 0), (4, .po 2 0), (8, .ro (a1.Strokes.map cSStroke)), (9, .i (a1.Strokes.length : Int)), (10, .i s1.2)]⟩, [.lv 6 ((s1.1.put v4.Actuator.toNat v4.Out).1.map AV.bool), .lv 2 [.ro (a1.Strokes.map cSStroke), .i a1.Wait], .lv 6 ((Arr.rep 6 false).1.map AV.bool), .lv 2 [.i v4.Actuator, .bool v4.Out]]⟩) (by kernel_rfl) ?_
      refine Gh_at (s1 := ⟨⟨21, [(2, .po 0 0), (4, .po 2 0), (8, .ro (a1.Strokes.map cSStroke)), (9, .i (a1.Strokes.length : Int)), (10, .i s1.2)]⟩, [.lv 6 ((s1.1.put v4.Actuator.toNat v4.Out).1.map AV.bool), .lv 2 [.ro (a1.Strokes.map cSStroke), .i a1.Wait], .lv 6 ((Arr.rep 6 false).1.map AV.bool), .lv 2 [.i v4.Actuator, .bool v4.Out]]⟩) (by kernel_rfl) ?_
      refine Gh_trunc (s1 := ⟨⟨21, [(2, .po 0 0), (4, .po 2 0), (8, .ro (a1.Strokes.map cSStroke)), (9, .i (a1.Strokes.length : Int)), (10, .i s1.2)]⟩, [.lv 6 ((s1.1.put v4.Actuator.toNat v4.Out).1.map AV.bool), .lv 2 [.ro (a1.Strokes.map cSStroke), .i a1.Wait], .lv 6 ((Arr.rep 6 false).1.map AV.bool)]⟩) (by kernel_rfl) (tb_ref rfl (tb_ref rfl (tb_free (ro_bel okSStroke.bel _) (tb_free rfl (tb_free rfl rfl))))) (H1 := [.lv 6 ((s1.1.put v4.Actuator.toNat v4.Out).1.map AV.bool), .lv 2 [.ro (a1.Strokes.map cSStroke), .i a1.Wait], .lv 6 ((Arr.rep 6 false).1.map AV.bool)]) (by kernel_rfl) (ob_boxn (bels_mono (Nat.zero_le _) _ (bels_arr (fun _ => rfl) _)) (ob_boxn (bn_free (ro_bel okSStroke.bel _) (bn_free rfl rfl)) (ob_boxn (bels_mono (Nat.zero_le _) _ (bels_arr (fun _ => rfl) _)) rfl))) (by kernel_rfl) ?_
      refine Gh_nil ?_
      refine W_gh ?_
      refine W_reg ?_
      refine O_p 2 ?_
      refine O_nil ?_
      refine Gh_e ⟨⟨21, [(2, .po 0 0), (4, .po 2 0), (8, .ro (a1.Strokes.map cSStroke)), (9, .i (a1.Strokes.length : Int)), (10, .i (addI .i64 s1.2 1))]⟩, [.lv 6 ((s1.1.put v4.Actuator.toNat v4.Out).1.map AV.bool), .lv 2 [.ro (a1.Strokes.map cSStroke), .i a1.Wait], .lv 6 ((Arr.rep 6 false).1.map AV.bool)]⟩ ?_
      refine Gh_one (s1 := ⟨⟨21, [(2, .po 0 0), (4, .po 2 0), (8, .ro (a1.Strokes.map cSStroke)), (9, .i (a1.Strokes.length : Int)), (10, .i (addI .i64 s1.2 1))]⟩, [.lv 6 ((s1.1.put v4.Actuator.toNat v4.Out).1.map AV.bool), .lv 2 [.ro (a1.Strokes.map cSStroke), .i a1.Wait], .lv 6 ((Arr.rep 6 false).1.map AV.bool)]⟩) (by kernel_rfl) ?_
      refine Gh_trunc0 (by kernel_rfl) ?_
      refine Gh_nil ?_
      replace h := Option.some.inj h; subst h
      exact ⟨_, rfl, by kernel_rfl⟩
    · replace h := fork_f c3 h
      refine W_exit ?_
      refine X_hit ?_
      refine Gh_one (s1 := ⟨⟨21, [(2, .po 0 0), (4, .po 2 0)]⟩, [.lv 6 (s1.1.1.map AV.bool), .lv 2 [.ro (a1.Strokes.map cSStroke), .i a1.Wait], .lv 6 ((Arr.rep 6 false).1.map AV.bool)]⟩) (by kernel_rfl) ?_
      refine Gh_trunc0 (by kernel_rfl) ?_
      refine Gh_nil ?_
      replace h := Option.some.inj h; subst h
      exact ⟨_, rfl, by kernel_rfl⟩
  · refine W_seq ?_
    refine W_gh ?_
    refine W_reg ?_
    refine O_ldW (id := 0) (c1 := AV.bool) (a := w2) (by kernel_rfl) (by kernel_rfl) (by kernel_rfl) ?_
    refine O_stB (id := 2) (c1 := AV.bool) (a := w2) (old := ((Arr.rep 6 false).1.map AV.bool)) (by kernel_rfl) (by kernel_rfl) (by kernel_rfl) (by kernel_rfl) (fun _ => rfl) (by simp [Arr.len]) ?_
    refine O_nil ?_
    refine Gh_e ⟨⟨21, [(4, .po 2 0)]⟩, [.lv 6 (w2.1.map AV.bool), .lv 2 [.ro (a1.Strokes.map cSStroke), .i a1.Wait], .lv 6 (w2.1.map AV.bool)]⟩ ?_
    refine W_ret ?_
    replace h := Option.some.inj h; subst h
    exact Fin_free (l := [.agg (w2.1.map AV.bool)]) (res_arr (id := 2) (by kernel_rfl) (by kernel_rfl)) (by kernel_rfl) (bels_arr (fun _ => rfl) _)

theorem p80 (a0 : (List Bool)) (a1 : Bool) (r : Int) (h : m80 a0 a1 = some r) : Pt E0 hp 80 [.ro (a0.map cB), .bool a1] (.i r) := by
  unfold m80 at h
  refine Pt_W (fn80) rfl (by decide) ?_
  refine W_seq ?_
  refine W_gh ?_
  refine W_reg ?_
  refine O_p 1 ?_
  refine O_nil ?_
  refine Gh_e ⟨⟨19, [(0, .ro (a0.map cB)), (1, .bool a1)]⟩, []⟩ ?_
  refine W_seq ?_
  refine W_seq ?_
  refine W_gh ?_
  refine W_reg ?_
  refine O_p 1 ?_
  refine O_len (l := a0) cB (by kernel_rfl) (by kernel_rfl) ?_
  refine O_p 1 ?_
  refine O_nil ?_
  refine Gh_e ⟨⟨19, [(0, .ro (a0.map cB)), (1, .bool a1), (7, .i (a0.length : Int)), (8, .i 0)]⟩, []⟩ ?_
  refine W_loop (fun s1 : Int => ⟨⟨19, [(0, .ro (a0.map cB)), (1, .bool a1), (7, .i (a0.length : Int)), (8, .i s1)]⟩, []⟩) (fun w2 : Unit => ⟨⟨19, [(0, .ro (a0.map cB)), (1, .bool a1)]⟩, []⟩) h (by kernel_rfl) (fun s1 c h => ?_) (fun w2 h => ?_)
  · refine W_gh ?_
    refine W_seq ?_
    refine W_reg ?_
    refine O_p 1 ?_
    refine O_nil ?_
    refine W_seq ?_
    refine W_gh ?_
    refine W_cond (c := (decide (s1 < (a0.length : Int)))) (by kernel_rfl) (fun c3 => ?_) (fun c3 => ?_)
    · replace h := fork_t c3 h
      refine W_skip ?_
      refine Gh_e ⟨⟨19, [(0, .ro (a0.map cB)), (1, .bool a1), (7, .i (a0.length : Int)), (8, .i s1)]⟩, []⟩ ?_
      refine W_seq ?_
      refine W_gh ?_
      refine W_block ?_
      refine W_seq ?_
      refine W_gh ?_
      refine W_reg ?_
      refine O_p 2 ?_
      refine O_nil ?_
      refine Gh_e ⟨⟨19, [(0, .ro (a0.map cB)), (1, .bool a1), (5, .i s1), (7, .i (a0.length : Int)), (8, .i s1)]⟩, []⟩ ?_
      refine W_seq ?_
      refine W_gh ?_
      refine W_reg ?_
      refine O_p 3 ?_
      refine O_idx (kd := .i64) cB h (fun _ => rfl) (by kernel_rfl) (by kernel_rfl) (by kernel_rfl) (fun v4 e_v4 h => ?_)
      refine O_p 2 ?_
      refine O_nil ?_
      refine Gh_e ⟨⟨19, [(0, .ro (a0.map cB)), (1, .bool a1), (5, .i s1), (7, .i (a0.length : Int)), (8, .i s1), (16, .bool ((a1 == v4) != false))]⟩, []⟩ ?_
      refine W_gh ?_
      refine W_cond (c := ((a1 == v4) != false)) (by kernel_rfl) (fun c5 => ?_) (fun c5 => ?_)
      · replace h := fork_t c5 h
        refine W_seq ?_
        refine W_gh ?_
        refine W_reg ?_
        refine O_p 2 ?_
        refine O_nil ?_
        refine Gh_e ⟨⟨19, [(0, .ro (a0.map cB)), (1, .bool a1), (4, .i s1), (7, .i (a0.length : Int)), (8, .i s1), (16, .bool ((a1 == v4) != false))]⟩, []⟩ ?_
        refine W_ret ?_
        replace h := Option.some.inj h; subst h
        refine ⟨_, rfl, fun h => ?_⟩
        replace h := Option.some.inj h; subst h
        exact Fin_free (l := [.i s1]) (by kernel_rfl) (by kernel_rfl) rfl
      · replace h := fork_f c5 h
        refine W_skip ?_
        refine Gh_e ⟨⟨19, [(0, .ro (a0.map cB)), (1, .bool a1), (7, .i (a0.length : Int)), (8, .i s1)]⟩, []⟩ ?_
        refine Gh_e ⟨⟨19, [(0, .ro (a0.map cB)), (1, .bool a1), (7, .i (a0.length : Int)), (8, .i s1)]⟩, []⟩ ?_
        refine W_gh ?_
        refine W_reg ?_
        refine O_p 2 ?_
        refine O_nil ?_
        refine Gh_e ⟨⟨19, [(0, .ro (a0.map cB)), (1, .bool a1), (7, .i (a0.length : Int)), (8, .i (addI .i64 s1 1))]⟩, []⟩ ?_
        refine Gh_e ⟨⟨19, [(0, .ro (a0.map cB)), (1, .bool a1), (7, .i (a0.length : Int)), (8, .i (addI .i64 s1 1))]⟩, []⟩ ?_
        replace h := Option.some.inj h; subst h
        exact ⟨_, rfl, by kernel_rfl⟩
    · replace h := fork_f c3 h
      refine W_exit ?_
      refine X_hit ?_
      refine Gh_e ⟨⟨19, [(0, .ro (a0.map cB)), (1, .bool a1)]⟩, []⟩ ?_
      replace h := Option.some.inj h; subst h
      exact ⟨_, rfl, by kernel_rfl⟩
  · refine W_seq ?_
    refine W_reg ?_
    refine O_p 1 ?_
    refine O_nil ?_
    refine W_ret ?_
    replace h := Option.some.inj h; subst h
    exact Fin_free (l := [.i (-1)]) (by kernel_rfl) (by kernel_rfl) rfl

theorem p67 (a0 : (List Bool)) (a1 : Bool) (r : Bool) (h : m67 a0 a1 = some r) : Pt E0 hp 67 [.ro (a0.map cB), .bool a1] (.bool r) := by
  unfold m67 at h
  refine Pt_W (fn67) rfl (by decide) ?_
  refine W_seq ?_
  refine W_gh ?_
  refine W_reg ?_
  refine O_p 1 ?_
  refine O_nil ?_
  refine Gh_e ⟨⟨9, [(0, .ro (a0.map cB)), (1, .bool a1)]⟩, []⟩ ?_
  refine W_seq ?_
  refine W_gh ?_
  refine W_reg ?_
  refine O_p 2 ?_
  refine O_call (fun v => .i v) h (.inr rfl) (ys := [.ro (a0.map cB), .bool a1]) (fun _ e => p80 _ _ _ e) (by kernel_rfl) (by kernel_rfl) (bels_cons (ro_bel okB.bel _) (bels_cons rfl rfl)) (fun v1 e_v1 h => ?_)
  refine O_p 2 ?_
  refine O_nil ?_
  refine Gh_e ⟨⟨9, [(4, .bool (decide (v1 ≥ 0)))]⟩, []⟩ ?_
  refine W_ret ?_
  replace h := Option.some.inj h; subst h
  exact Fin_free (l := [.bool (decide (v1 ≥ 0))]) (by kernel_rfl) (by kernel_rfl) rfl

theorem p41 (a0 : SSequence) (r : Int) (h : m41 a0 = some r) : Pt E0 hp 41 [.agg (cSSequence a0)] (.i r) := by
  unfold m41 at h
  refine Pt_W (fn41) rfl (by decide) ?_
  refine W_seq ?_
  refine W_gh ?_
  refine W_reg ?_
  refine O_p 2 ?_
  refine O_nil ?_
  refine Gh_e ⟨⟨65, [(1, .po 0 0)]⟩, [.lv 2 [.i a0.Actuators, .ro (a0.Steps.map cSStep)]]⟩ ?_
  refine W_seq ?_
  refine W_gh ?_
  refine W_block ?_
  refine W_seq ?_
  refine W_cut ⟨⟨65, [(1, .po 0 0), (10, .bool ((decide (a0.Actuators < 1)) || (decide (a0.Actuators > 6))))]⟩, [.lv 2 [.i a0.Actuators, .ro (a0.Steps.map cSStep)]]⟩ ?_ ?_
  · generalize e_g1 : ((decide (a0.Actuators < 1)) || (decide (a0.Actuators > 6))) = g1
    refine W_gh ?_
    refine W_reg ?_
    refine O_p 4 ?_
    refine O_fork (n := 14) (decide (a0.Actuators < 1)) (by kernel_rfl) (fun c2 => ?_) (fun c2 => ?_)
    · skip
      refine O_p 5 ?_
      refine O_nil ?_
      refine Gh_e ⟨⟨65, [(1, .po 0 0), (10, .bool true)]⟩, [.lv 2 [.i a0.Actuators, .ro (a0.Steps.map cSStep)]]⟩ ?_
      have q := e_g1; simp only [c2, cond_true, cond_false, Bool.true_and, Bool.false_and, Bool.true_or, Bool.false_or] at q; subst q
      show _ = _
      kernel_rfl
    · skip
      refine O_p 5 ?_
      refine O_nil ?_
      refine Gh_e ⟨⟨65, [(1, .po 0 0), (10, .bool (decide (a0.Actuators > 6)))]⟩, [.lv 2 [.i a0.Actuators, .ro (a0.Steps.map cSStep)]]⟩ ?_
      have q := e_g1; simp only [c2, cond_true, cond_false, Bool.true_and, Bool.false_and, Bool.true_or, Bool.false_or] at q; subst q
      show _ = _
      kernel_rfl
  · refine W_gh ?_
    refine W_cond (c := ((decide (a0.Actuators < 1)) || (decide (a0.Actuators > 6)))) (by kernel_rfl) (fun c3 => ?_) (fun c3 => ?_)
    · replace h := fork_t c3 h
      refine W_seq ?_
      refine W_reg ?_
      refine O_p 1 ?_
      refine O_nil ?_
      refine W_ret ?_
      replace h := Option.some.inj h; subst h
      exact Fin_free (l := [.i 2]) (by kernel_rfl) (by kernel_rfl) rfl
    · replace h := fork_f c3 h
      refine W_seq ?_
      refine W_gh ?_
      refine W_reg ?_
      refine O_p 2 ?_
      refine O_len (l := a0.Steps) cSStep (by kernel_rfl) (by kernel_rfl) ?_
      refine O_p 2 ?_
      refine O_nil ?_
      refine Gh_e ⟨⟨65, [(1, .po 0 0), (10, .bool ((decide (a0.Actuators < 1)) || (decide (a0.Actuators > 6)))), (19, .bool ((a0.Steps.length : Int) == 0))]⟩, [.lv 2 [.i a0.Actuators, .ro (a0.Steps.map cSStep)]]⟩ ?_
      refine W_gh ?_
      refine W_cond (c := ((a0.Steps.length : Int) == 0)) (by kernel_rfl) (fun c4 => ?_) (fun c4 => ?_)
      · replace h := fork_t c4 h
        refine W_seq ?_
        refine W_reg ?_
        refine O_p 1 ?_
        refine O_nil ?_
        refine W_ret ?_
        replace h := Option.some.inj h; subst h
        exact Fin_free (l := [.i 13]) (by kernel_rfl) (by kernel_rfl) rfl
      · replace h := fork_f c4 h
        refine W_seq ?_
        refine W_gh ?_
        refine W_reg ?_
        refine O_p 2 ?_
        refine O_len (l := a0.Steps) cSStep (by kernel_rfl) (by kernel_rfl) ?_
        refine O_p 2 ?_
        refine O_nil ?_
        refine Gh_e ⟨⟨65, [(1, .po 0 0), (10, .bool ((decide (a0.Actuators < 1)) || (decide (a0.Actuators > 6)))), (19, .bool ((a0.Steps.length : Int) == 0)), (24, .bool (decide ((a0.Steps.length : Int) > 64)))]⟩, [.lv 2 [.i a0.Actuators, .ro (a0.Steps.map cSStep)]]⟩ ?_
        refine W_gh ?_
        refine W_cond (c := (decide ((a0.Steps.length : Int) > 64))) (by kernel_rfl) (fun c5 => ?_) (fun c5 => ?_)
        · replace h := fork_t c5 h
          refine W_seq ?_
          refine W_reg ?_
          refine O_p 1 ?_
          refine O_nil ?_
          refine W_ret ?_
          replace h := Option.some.inj h; subst h
          exact Fin_free (l := [.i 5]) (by kernel_rfl) (by kernel_rfl) rfl
        · replace h := fork_f c5 h
          refine W_skip ?_
          refine Gh_e ⟨⟨65, [(1, .po 0 0), (10, .bool ((decide (a0.Actuators < 1)) || (decide (a0.Actuators > 6)))), (19, .bool ((a0.Steps.length : Int) == 0))]⟩, [.lv 2 [.i a0.Actuators, .ro (a0.Steps.map cSStep)]]⟩ ?_
          refine Gh_e ⟨⟨65, [(1, .po 0 0), (10, .bool ((decide (a0.Actuators < 1)) || (decide (a0.Actuators > 6))))]⟩, [.lv 2 [.i a0.Actuators, .ro (a0.Steps.map cSStep)]]⟩ ?_
          refine Gh_e ⟨⟨65, [(1, .po 0 0)]⟩, [.lv 2 [.i a0.Actuators, .ro (a0.Steps.map cSStep)]]⟩ ?_
          refine Gh_e ⟨⟨65, [(1, .po 0 0)]⟩, [.lv 2 [.i a0.Actuators, .ro (a0.Steps.map cSStep)]]⟩ ?_
          refine W_seq ?_
          refine W_reg ?_
          refine O_p 2 ?_
          refine O_nil ?_
          refine W_seq ?_
          refine W_seq ?_
          refine W_gh ?_
          refine W_reg ?_
          refine O_p 2 ?_
          refine O_len (l := a0.Steps) cSStep (by kernel_rfl) (by kernel_rfl) ?_
          refine O_p 1 ?_
          refine O_nil ?_
          refine Gh_e ⟨⟨65, [(1, .po 0 0), (3, .po 1 0), (4, .po 2 0), (30, .ro (a0.Steps.map cSStep)), (31, .i (a0.Steps.length : Int)), (32, .i 0)]⟩, [.lv 2 [.i a0.Actuators, .ro (a0.Steps.map cSStep)], .lv 6 ((Arr.rep 6 false).1.map AV.bool), .lv 6 ((Arr.rep 6 false).1.map AV.bool)]⟩ ?_
          refine W_loop (fun s6 : (Arr 6 Bool) × (Arr 6 Bool) × Int => ⟨⟨65, [(1, .po 0 0), (3, .po 1 0), (4, .po 2 0), (30, .ro (a0.Steps.map cSStep)), (31, .i (a0.Steps.length : Int)), (32, .i s6.2.2)]⟩, [.lv 2 [.i a0.Actuators, .ro (a0.Steps.map cSStep)], .lv 6 (s6.1.1.map AV.bool), .lv 6 (s6.2.1.1.map AV.bool)]⟩) (fun w7 : (Arr 6 Bool) × (Arr 6 Bool) => ⟨⟨65, [(1, .po 0 0), (3, .po 1 0), (4, .po 2 0)]⟩, [.lv 2 [.i a0.Actuators, .ro (a0.Steps.map cSStep)], .lv 6 (w7.1.1.map AV.bool), .lv 6 (w7.2.1.map AV.bool)]⟩) h (by kernel_rfl) (fun s6 c h => ?_) (fun w7 h => ?_)
          · refine W_gh ?_
            refine W_seq ?_
            refine W_reg ?_
            refine O_p 1 ?_
            refine O_nil ?_
            refine W_seq ?_
            refine W_gh ?_
            refine W_cond (c := (decide (s6.2.2 < (a0.Steps.length : Int)))) (by kernel_rfl) (fun c8 => ?_) (fun c8 => ?_)
            · replace h := fork_t c8 h
              refine W_skip ?_
              refine Gh_e ⟨⟨65, [(1, .po 0 0), (3, .po 1 0), (4, .po 2 0), (30, .ro (a0.Steps.map cSStep)), (31, .i (a0.Steps.length : Int)), (32, .i s6.2.2)]⟩, [.lv 2 [.i a0.Actuators, .ro (a0.Steps.map cSStep)], .lv 6 (s6.1.1.map AV.bool), .lv 6 (s6.2.1.1.map AV.bool)]⟩ ?_
              refine W_seq ?_
              refine W_gh ?_
              refine W_block ?_
              refine W_seq ?_
              refine W_gh ?_
              refine W_reg ?_
              refine O_idx (kd := .i64) cSStep h (fun _ => rfl) (by kernel_rfl) (by kernel_rfl) (by kernel_rfl) (fun v9 e_v9 h => ?_)
              refine O_p 3 ?_
              refine O_nil ?_
              refine Gh_e ⟨⟨65, [(1, .po 0 0), (3, .po 1 0), (4, .po 2 0), (6, .po 3 0), (30, .ro (a0.Steps.map cSStep)), (31, .i (a0.Steps.length : Int)), (32, .i s6.2.2)]⟩, [.lv 2 [.i a0.Actuators, .ro (a0.Steps.map cSStep)], .lv 6 (s6.1.1.map AV.bool), .lv 6 (s6.2.1.1.map AV.bool), .lv 2 [.ro (v9.Strokes.map cSStroke), .i v9.Wait]]⟩ ?_
              refine W_seq ?_
              refine W_seq ?_
              refine W_gh ?_
              refine W_reg ?_
              refine O_p 2 ?_
              refine O_ldW (id := 1) (c1 := AV.bool) (a := s6.1) (by kernel_rfl) (by kernel_rfl) (by kernel_rfl) ?_
              refine O_call (fun v => .i v) h (.inr rfl) (ys := [.agg (cSSequence a0), .agg (cSStep v9), .agg ((cA AV.bool) s6.1)]) (fun _ e => p65 _ _ _ _ e) (by kernel_rfl) (by kernel_rfl) (bels_cons (okSSequence.bel _) (bels_cons (okSStep.bel _) (bels_cons ((okA 6 (fun _ => rfl) (fun _ => rfl)).bel _) rfl))) (fun v10 e_v10 h => ?_)
              refine O_p 1 ?_
              refine O_nil ?_
              refine Gh_e ⟨⟨65, [(1, .po 0 0), (3, .po 1 0), (4, .po 2 0), (6, .po 3 0), (7, .i v10), (30, .ro (a0.Steps.map cSStep)), (31, .i (a0.Steps.length : Int)), (32, .i s6.2.2)]⟩, [.lv 2 [.i a0.Actuators, .ro (a0.Steps.map cSStep)], .lv 6 (s6.1.1.map AV.bool), .lv 6 (s6.2.1.1.map AV.bool), .lv 2 [.ro (v9.Strokes.map cSStroke), .i v9.Wait]]⟩ ?_
              refine W_seq ?_
              refine W_gh ?_
              refine W_reg ?_
              refine O_p 2 ?_
              refine O_nil ?_
              refine Gh_e ⟨⟨65, [(1, .po 0 0), (3, .po 1 0), (4, .po 2 0), (6, .po 3 0), (7, .i v10), (30, .ro (a0.Steps.map cSStep)), (31, .i (a0.Steps.length : Int)), (32, .i s6.2.2), (41, .bool (v10 != 0))]⟩, [.lv 2 [.i a0.Actuators, .ro (a0.Steps.map cSStep)], .lv 6 (s6.1.1.map AV.bool), .lv 6 (s6.2.1.1.map AV.bool), .lv 2 [.ro (v9.Strokes.map cSStroke), .i v9.Wait]]⟩ ?_
              refine W_gh ?_
              refine W_cond (c := (v10 != 0)) (by kernel_rfl) (fun c11 => ?_) (fun c11 => ?_)
              · replace h := fork_t c11 h
                refine W_seq ?_
                refine W_gh ?_
                refine W_reg ?_
                refine O_p 2 ?_
                refine O_nil ?_
                refine Gh_e ⟨⟨65, [(1, .po 0 0), (2, .i v10), (3, .po 1 0), (4, .po 2 0), (6, .po 3 0), (30, .ro (a0.Steps.map cSStep)), (31, .i (a0.Steps.length : Int)), (32, .i s6.2.2), (41, .bool (v10 != 0))]⟩, [.lv 2 [.i a0.Actuators, .ro (a0.Steps.map cSStep)], .lv 6 (s6.1.1.map AV.bool), .lv 6 (s6.2.1.1.map AV.bool), .lv 2 [.ro (v9.Strokes.map cSStroke), .i v9.Wait]]⟩ ?_
                refine W_ret ?_
                replace h := Option.some.inj h; subst h
                refine ⟨_, rfl, fun h => ?_⟩
                replace h := Option.some.inj h; subst h
                exact Fin_free (l := [.i v10]) (by kernel_rfl) (by kernel_rfl) rfl
              · replace h := fork_f c11 h
                refine W_skip ?_
                refine Gh_e ⟨⟨65, [(1, .po 0 0), (3, .po 1 0), (4, .po 2 0), (6, .po 3 0), (30, .ro (a0.Steps.map cSStep)), (31, .i (a0.Steps.length : Int)), (32, .i s6.2.2)]⟩, [.lv 2 [.i a0.Actuators, .ro (a0.Steps.map cSStep)], .lv 6 (s6.1.1.map AV.bool), .lv 6 (s6.2.1.1.map AV.bool), .lv 2 [.ro (v9.Strokes.map cSStroke), .i v9.Wait]]⟩ ?_
                refine W_seq ?_
                refine W_gh ?_
                refine W_reg ?_
                refine O_ldW (id := 1) (c1 := AV.bool) (a := s6.1) (by kernel_rfl) (by kernel_rfl) (by kernel_rfl) ?_
                refine O_p 1 ?_
                refine O_call (fun v => .agg (v.1.map AV.bool)) h (.inr rfl) (ys := [.agg ((cA AV.bool) s6.1), .agg (cSStep v9)]) (fun _ e => p66 _ _ _ e) (by kernel_rfl) (by kernel_rfl) (bels_cons ((okA 6 (fun _ => rfl) (fun _ => rfl)).bel _) (bels_cons (okSStep.bel _) rfl)) (fun v12 e_v12 h => ?_)
                refine O_stB (id := 1) (c1 := AV.bool) (a := v12) (old := (s6.1.1.map AV.bool)) (by kernel_rfl) (by kernel_rfl) (by kernel_rfl) (by kernel_rfl) (fun _ => rfl) (by simp [Arr.len]) ?_
                refine O_nil ?_
                refine Gh_e ⟨⟨65, [(1, .po 0 0), (3, .po 1 0), (4, .po 2 0), (6, .po 3 0), (30, .ro (a0.Steps.map cSStep)), (31, .i (a0.Steps.length : Int)), (32, .i s6.2.2)]⟩, [.lv 2 [.i a0.Actuators, .ro (a0.Steps.map cSStep)], .lv 6 (v12.1.map AV.bool), .lv 6 (s6.2.1.1.map AV.bool), .lv 2 [.ro (v9.Strokes.map cSStroke), .i v9.Wait]]⟩ ?_
                refine W_seq ?_
                refine W_gh ?_
                refine W_reg ?_
                refine O_p 2 ?_
                refine O_len (l := v9.Strokes) cSStroke (by kernel_rfl) (by kernel_rfl) ?_
                refine O_p 1 ?_
                refine O_nil ?_
                refine Gh_e ⟨⟨65, [(1, .po 0 0), (3, .po 1 0), (4, .po 2 0), (30, .ro (a0.Steps.map cSStep)), (31, .i (a0.Steps.length : Int)), (32, .i s6.2.2), (47, .ro (v9.Strokes.map cSStroke)), (48, .i (v9.Strokes.length : Int)), (49, .i 0)]⟩, [.lv 2 [.i a0.Actuators, .ro (a0.Steps.map cSStep)], .lv 6 (v12.1.map AV.bool), .lv 6 (s6.2.1.1.map AV.bool), .lv 2 [.ro (v9.Strokes.map cSStroke), .i v9.Wait]]⟩ ?_
                refine W_loopS (fun s13 : (Arr 6 Bool) × Int => ⟨⟨65, [(1, .po 0 0), (3, .po 1 0), (4, .po 2 0), (30, .ro (a0.Steps.map cSStep)), (31, .i (a0.Steps.length : Int)), (32, .i s6.2.2), (47, .ro (v9.Strokes.map cSStroke)), (48, .i (v9.Strokes.length : Int)), (49, .i s13.2)]⟩, [.lv 2 [.i a0.Actuators, .ro (a0.Steps.map cSStep)], .lv 6 (v12.1.map AV.bool), .lv 6 (s13.1.1.map AV.bool), .lv 2 [.ro (v9.Strokes.map cSStroke), .i v9.Wait]]⟩) (fun w14 : (Arr 6 Bool) => ⟨⟨65, [(1, .po 0 0), (3, .po 1 0), (4, .po 2 0), (30, .ro (a0.Steps.map cSStep)), (31, .i (a0.Steps.length : Int)), (32, .i s6.2.2)]⟩, [.lv 2 [.i a0.Actuators, .ro (a0.Steps.map cSStep)], .lv 6 (v12.1.map AV.bool), .lv 6 (w14.1.map AV.bool), .lv 2 [.ro (v9.Strokes.map cSStroke), .i v9.Wait]]⟩) h (by kernel_rfl) (fun s13 c h => ?_) (fun w14 e_w14 h => ?_)
                · refine W_gh ?_
                  refine W_seq ?_
                  refine W_reg ?_
                  refine O_p 1 ?_
                  refine O_nil ?_
                  refine W_seq ?_
                  refine W_gh ?_
                  refine W_cond (c := (decide (s13.2 < (v9.Strokes.length : Int)))) (by kernel_rfl) (fun c15 => ?_) (fun c15 => ?_)
                  · replace h := fork_t c15 h
                    refine W_skip ?_
                    refine Gh_e ⟨⟨65, [(1, .po 0 0), (3, .po 1 0), (4, .po 2 0), (30, .ro (a0.Steps.map cSStep)), (31, .i (a0.Steps.length : Int)), (32, .i s6.2.2), (47, .ro (v9.Strokes.map cSStroke)), (48, .i (v9.Strokes.length : Int)), (49, .i s13.2)]⟩, [.lv 2 [.i a0.Actuators, .ro (a0.Steps.map cSStep)], .lv 6 (v12.1.map AV.bool), .lv 6 (s13.1.1.map AV.bool), .lv 2 [.ro (v9.Strokes.map cSStroke), .i v9.Wait]]⟩ ?_
                    refine W_seq ?_
                    refine W_gh ?_
                    refine W_block ?_
                    refine W_seq ?_
                    refine W_gh ?_
                    refine W_reg ?_
                    refine O_idx (kd := .i64) cSStroke h (fun _ => rfl) (by kernel_rfl) (by kernel_rfl) (by kernel_rfl) (fun v16 e_v16 h => ?_)
                    refine O_p 3 ?_
                    refine O_nil ?_
                    refine Gh_e ⟨⟨65, [(1, .po 0 0), (3, .po 1 0), (4, .po 2 0), (9, .po 4 0), (30, .ro (a0.Steps.map cSStep)), (31, .i (a0.Steps.length : Int)), (32, .i s6.2.2), (47, .ro (v9.Strokes.map cSStroke)), (48, .i (v9.Strokes.length : Int)), (49, .i s13.2)]⟩, [.lv 2 [.i a0.Actuators, .ro (a0.Steps.map cSStep)], .lv 6 (v12.1.map AV.bool), .lv 6 (s13.1.1.map AV.bool), .lv 2 [.ro (v9.Strokes.map cSStroke), .i v9.Wait], .lv 2 [.i v16.Actuator, .bool v16.Out]]⟩ ?_
                    refine W_gh ?_
                    refine W_reg ?_
                    refine O_p 2 ?_
                    refine O_iadB (kd := .i64) (id := 2) AV.bool h (by kernel_rfl) (by kernel_rfl) (by kernel_rfl) (by kernel_rfl) (fun v17 e_v17 h => ?_)
                    refine O_stA (id := 2) AV.bool e_v17 (by kernel_rfl) (by kernel_rfl) (by kernel_rfl) (v := true) (by kernel_rfl) (fun _ => rfl) (fun _ => rfl) ?_
                    refine O_nil ?_
                    refine Gh_e ⟨⟨65, [(1, .po 0 0), (3, .po 1 0), (4, .po 2 0), (30, .ro (a0.Steps.map cSStep)), (31, .i (a0.Steps.length : Int)), (32, .i s6.2.2), (47, .ro (v9.Strokes.map cSStroke)), (48, .i (v9.Strokes.length : Int)), (49, .i s13.2)]⟩, [.lv 2 [.i a0.Actuators, .ro (a0.Steps.map cSStep)], .lv 6 (v12.1.map AV.bool), .lv 6 ((s13.1.put v16.Actuator.toNat true).1.map AV.bool), .lv 2 [.ro (v9.Strokes.map cSStroke), .i v9.Wait], .lv 2 [.i v16.Actuator, .bool v16.Out]]⟩ ?_
                    refine Gh_one (s1 := ⟨⟨65, [(1, .po 0 0), (3, .po 1 0), (4, .po 2 0), (30, .ro (a0.Steps.map cSStep)), (31, .i (a0.Steps.length : Int)), (32, .i s6.2.2), (47, .ro (v9.Strokes.map cSStroke)), (48, .i (v9.Strokes.length : Int)), (49, .i s13.2)]⟩, [.lv 2 [.i a0.Actuators, .ro (a0.Steps.map cSStep)], .lv 6 (v12.1.map AV.bool), .lv 6 ((s13.1.put v16.Actuator.toNat true).1.map AV.bool), .lv 2 [.ro (v9.Strokes.map cSStroke), .i v9.Wait], .lv 2 [.i v16.Actuator, .bool v16.Out]]⟩) (by kernel_rfl) ?_
                    refine Gh_at (s1 := ⟨⟨65, [(1, .po 0 0), (3, .po 1 0), (4, .po 2 0), (30, .ro (a0.Steps.map cSStep)), (31, .i (a0.Steps.length : Int)), (32, .i s6.2.2), (47, .ro (v9.Strokes.map cSStroke)), (48, .i (v9.Strokes.length : Int)), (49, .i s13.2)]⟩, [.lv 2 [.i a0.Actuators, .ro (a0.Steps.map cSStep)], .lv 6 (v12.1.map AV.bool), .lv 6 ((s13.1.put v16.Actuator.toNat true).1.map AV.bool), .lv 2 [.ro (v9.Strokes.map cSStroke), .i v9.Wait], .lv 2 [.i v16.Actuator, .bool v16.Out]]⟩) (by kernel_rfl) ?_
                    refine Gh_trunc (s1 := ⟨⟨65, [(1, .po 0 0), (3, .po 1 0), (4, .po 2 0), (30, .ro (a0.Steps.map cSStep)), (31, .i (a0.Steps.length : Int)), (32, .i s6.2.2), (47, .ro (v9.Strokes.map cSStroke)), (48, .i (v9.Strokes.length : Int)), (49, .i s13.2)]⟩, [.lv 2 [.i a0.Actuators, .ro (a0.Steps.map cSStep)], .lv 6 (v12.1.map AV.bool), .lv 6 ((s13.1.put v16.Actuator.toNat true).1.map AV.bool), .lv 2 [.ro (v9.Strokes.map cSStroke), .i v9.Wait]]⟩) (by kernel_rfl) (tb_ref rfl (tb_ref rfl (tb_ref rfl (tb_free (ro_bel okSStep.bel _) (tb_free rfl (tb_free rfl (tb_free (ro_bel okSStroke.bel _) (tb_free rfl (tb_free rfl rfl))))))))) (H1 := [.lv 2 [.i a0.Actuators, .ro (a0.Steps.map cSStep)], .lv 6 (v12.1.map AV.bool), .lv 6 ((s13.1.put v16.Actuator.toNat true).1.map AV.bool), .lv 2 [.ro (v9.Strokes.map cSStroke), .i v9.Wait]]) (by kernel_rfl) (ob_boxn (bn_free rfl (bn_free (ro_bel okSStep.bel _) rfl)) (ob_boxn (bels_mono (Nat.zero_le _) _ (bels_arr (fun _ => rfl) _)) (ob_boxn (bels_mono (Nat.zero_le _) _ (bels_arr (fun _ => rfl) _)) (ob_boxn (bn_free (ro_bel okSStroke.bel _) (bn_free rfl rfl)) rfl)))) (by kernel_rfl) ?_
                    refine Gh_nil ?_
                    refine W_gh ?_
                    refine W_reg ?_
                    refine O_p 2 ?_
                    refine O_nil ?_
                    refine Gh_e ⟨⟨65, [(1, .po 0 0), (3, .po 1 0), (4, .po 2 0), (30, .ro (a0.Steps.map cSStep)), (31, .i (a0.Steps.length : Int)), (32, .i s6.2.2), (47, .ro (v9.Strokes.map cSStroke)), (48, .i (v9.Strokes.length : Int)), (49, .i (addI .i64 s13.2 1))]⟩, [.lv 2 [.i a0.Actuators, .ro (a0.Steps.map cSStep)], .lv 6 (v12.1.map AV.bool), .lv 6 ((s13.1.put v16.Actuator.toNat true).1.map AV.bool), .lv 2 [.ro (v9.Strokes.map cSStroke), .i v9.Wait]]⟩ ?_
                    refine Gh_one (s1 := ⟨⟨65, [(1, .po 0 0), (3, .po 1 0), (4, .po 2 0), (30, .ro (a0.Steps.map cSStep)), (31, .i (a0.Steps.length : Int)), (32, .i s6.2.2), (47, .ro (v9.Strokes.map cSStroke)), (48, .i (v9.Strokes.length : Int)), (49, .i (addI .i64 s13.2 1))]⟩, [.lv 2 [.i a0.Actuators, .ro (a0.Steps.map cSStep)], .lv 6 (v12.1.map AV.bool), .lv 6 ((s13.1.put v16.Actuator.toNat true).1.map AV.bool), .lv 2 [.ro (v9.Strokes.map cSStroke), .i v9.Wait]]⟩) (by kernel_rfl) ?_
                    refine Gh_trunc0 (by kernel_rfl) ?_
                    refine Gh_nil ?_
                    replace h := Option.some.inj h; subst h
                    exact ⟨_, rfl, by kernel_rfl⟩
                  · replace h := fork_f c15 h
                    refine W_exit ?_
                    refine X_hit ?_
                    refine Gh_one (s1 := ⟨⟨65, [(1, .po 0 0), (3, .po 1 0), (4, .po 2 0), (30, .ro (a0.Steps.map cSStep)), (31, .i (a0.Steps.length : Int)), (32, .i s6.2.2)]⟩, [.lv 2 [.i a0.Actuators, .ro (a0.Steps.map cSStep)], .lv 6 (v12.1.map AV.bool), .lv 6 (s13.1.1.map AV.bool), .lv 2 [.ro (v9.Strokes.map cSStroke), .i v9.Wait]]⟩) (by kernel_rfl) ?_
                    refine Gh_trunc0 (by kernel_rfl) ?_
                    refine Gh_nil ?_
                    replace h := Option.some.inj h; subst h
                    exact ⟨_, rfl, by kernel_rfl⟩
                · refine Gh_one (s1 := ⟨⟨65, [(1, .po 0 0), (3, .po 1 0), (4, .po 2 0), (30, .ro (a0.Steps.map cSStep)), (31, .i (a0.Steps.length : Int)), (32, .i s6.2.2)]⟩, [.lv 2 [.i a0.Actuators, .ro (a0.Steps.map cSStep)], .lv 6 (v12.1.map AV.bool), .lv 6 (w14.1.map AV.bool), .lv 2 [.ro (v9.Strokes.map cSStroke), .i v9.Wait]]⟩) (by kernel_rfl) ?_
                  refine Gh_at (s1 := ⟨⟨65, [(1, .po 0 0), (3, .po 1 0), (4, .po 2 0), (30, .ro (a0.Steps.map cSStep)), (31, .i (a0.Steps.length : Int)), (32, .i s6.2.2)]⟩, [.lv 2 [.i a0.Actuators, .ro (a0.Steps.map cSStep)], .lv 6 (v12.1.map AV.bool), .lv 6 (w14.1.map AV.bool), .lv 2 [.ro (v9.Strokes.map cSStroke), .i v9.Wait]]⟩) (by kernel_rfl) ?_
                  refine Gh_trunc (s1 := ⟨⟨65, [(1, .po 0 0), (3, .po 1 0), (4, .po 2 0), (30, .ro (a0.Steps.map cSStep)), (31, .i (a0.Steps.length : Int)), (32, .i s6.2.2)]⟩, [.lv 2 [.i a0.Actuators, .ro (a0.Steps.map cSStep)], .lv 6 (v12.1.map AV.bool), .lv 6 (w14.1.map AV.bool)]⟩) (by kernel_rfl) (tb_ref rfl (tb_ref rfl (tb_ref rfl (tb_free (ro_bel okSStep.bel _) (tb_free rfl (tb_free rfl rfl)))))) (H1 := [.lv 2 [.i a0.Actuators, .ro (a0.Steps.map cSStep)], .lv 6 (v12.1.map AV.bool), .lv 6 (w14.1.map AV.bool)]) (by kernel_rfl) (ob_boxn (bn_free rfl (bn_free (ro_bel okSStep.bel _) rfl)) (ob_boxn (bels_mono (Nat.zero_le _) _ (bels_arr (fun _ => rfl) _)) (ob_boxn (bels_mono (Nat.zero_le _) _ (bels_arr (fun _ => rfl) _)) rfl))) (by kernel_rfl) ?_
                  refine Gh_nil ?_
                  refine W_gh ?_
                  refine W_reg ?_
                  refine O_p 2 ?_
                  refine O_nil ?_
                  refine Gh_e ⟨⟨65, [(1, .po 0 0), (3, .po 1 0), (4, .po 2 0), (30, .ro (a0.Steps.map cSStep)), (31, .i (a0.Steps.length : Int)), (32, .i (addI .i64 s6.2.2 1))]⟩, [.lv 2 [.i a0.Actuators, .ro (a0.Steps.map cSStep)], .lv 6 (v12.1.map AV.bool), .lv 6 (w14.1.map AV.bool)]⟩ ?_
                  refine Gh_one (s1 := ⟨⟨65, [(1, .po 0 0), (3, .po 1 0), (4, .po 2 0), (30, .ro (a0.Steps.map cSStep)), (31, .i (a0.Steps.length : Int)), (32, .i (addI .i64 s6.2.2 1))]⟩, [.lv 2 [.i a0.Actuators, .ro (a0.Steps.map cSStep)], .lv 6 (v12.1.map AV.bool), .lv 6 (w14.1.map AV.bool)]⟩) (by kernel_rfl) ?_
                  refine Gh_trunc0 (by kernel_rfl) ?_
                  refine Gh_nil ?_
                  replace h := Option.some.inj h; subst h
                  exact ⟨_, rfl, by kernel_rfl⟩
            · replace h := fork_f c8 h
              refine W_exit ?_
              refine X_hit ?_
              refine Gh_one (s1 := ⟨⟨65, [(1, .po 0 0), (3, .po 1 0), (4, .po 2 0)]⟩, [.lv 2 [.i a0.Actuators, .ro (a0.Steps.map cSStep)], .lv 6 (s6.1.1.map AV.bool), .lv 6 (s6.2.1.1.map AV.bool)]⟩) (by kernel_rfl) ?_
              refine Gh_trunc0 (by kernel_rfl) ?_
              refine Gh_nil ?_
              replace h := Option.some.inj h; subst h
              exact ⟨_, rfl, by kernel_rfl⟩
          · refine W_seq ?_
            refine W_seq ?_
            refine W_gh ?_
            refine W_reg ?_
            refine O_ldW (id := 1) (c1 := AV.bool) (a := w7.1) (by kernel_rfl) (by kernel_rfl) (by kernel_rfl) ?_
            refine O_p 1 ?_
            refine O_eqArrB (a := w7.1) (b := (Arr.rep 6 false)) (by kernel_rfl) ⟨by kernel_rfl, by kernel_rfl⟩ (by kernel_rfl) ?_
            refine O_nil ?_
            refine Gh_e ⟨⟨65, [(1, .po 0 0), (4, .po 2 0), (60, .bool ((w7.1.1 == (Arr.rep 6 false).1) != true))]⟩, [.lv 2 [.i a0.Actuators, .ro (a0.Steps.map cSStep)], .lv 6 (w7.1.1.map AV.bool), .lv 6 (w7.2.1.map AV.bool)]⟩ ?_
            refine W_gh ?_
            refine W_cond (c := ((w7.1.1 == (Arr.rep 6 false).1) != true)) (by kernel_rfl) (fun c18 => ?_) (fun c18 => ?_)
            · replace h := fork_t c18 h
              refine W_seq ?_
              refine W_reg ?_
              refine O_p 1 ?_
              refine O_nil ?_
              refine W_ret ?_
              replace h := Option.some.inj h; subst h
              exact Fin_free (l := [.i 9]) (by kernel_rfl) (by kernel_rfl) rfl
            · replace h := fork_f c18 h
              refine W_skip ?_
              refine Gh_e ⟨⟨65, [(1, .po 0 0), (4, .po 2 0)]⟩, [.lv 2 [.i a0.Actuators, .ro (a0.Steps.map cSStep)], .lv 6 (w7.1.1.map AV.bool), .lv 6 (w7.2.1.map AV.bool)]⟩ ?_
              refine W_seq ?_
              refine W_seq ?_
              refine W_gh ?_
              refine W_reg ?_
              refine O_p 2 ?_
              refine O_slcA (id := 2) (kl := .i64) (kh := .i64) (c1 := AV.bool) cB (fun _ => rfl) (fun _ => rfl) (fun _ => rfl) h (by kernel_rfl) (by kernel_rfl) (by kernel_rfl) (by kernel_rfl) (by kernel_rfl) (fun v19 e_v19 y_v19 f_v19 h => ?_)
              refine O_lent (fun v => .bool v) h (.inr rfl) (ys := [.ro (v19.map cB), .bool false]) (fun _ e => p67 _ _ _ e) (by kernel_rfl) (snaps_of (xs := [y_v19, .bool false]) (by kernel_rfl) (mapO_cons (f_v19 (by kernel_rfl)) (mapO_cons (pk_free rfl) rfl))) (fun _ => rfl) (fun v20 e_v20 h => ?_)
              refine O_nil ?_
              refine Gh_e ⟨⟨65, [(64, .bool v20)]⟩, [.lv 2 [.i a0.Actuators, .ro (a0.Steps.map cSStep)], .lv 6 (w7.1.1.map AV.bool), .lv 6 (w7.2.1.map AV.bool)]⟩ ?_
              refine W_gh ?_
              refine W_cond (c := v20) (by kernel_rfl) (fun c21 => ?_) (fun c21 => ?_)
              · replace h := fork_t c21 h
                refine W_seq ?_
                refine W_reg ?_
                refine O_p 1 ?_
                refine O_nil ?_
                refine W_ret ?_
                replace h := Option.some.inj h; subst h
                exact Fin_free (l := [.i 13]) (by kernel_rfl) (by kernel_rfl) rfl
              · replace h := fork_f c21 h
                refine W_skip ?_
                refine Gh_e ⟨⟨65, []⟩, [.lv 2 [.i a0.Actuators, .ro (a0.Steps.map cSStep)], .lv 6 (w7.1.1.map AV.bool), .lv 6 (w7.2.1.map AV.bool)]⟩ ?_
                refine W_seq ?_
                refine W_reg ?_
                refine O_p 1 ?_
                refine O_nil ?_
                refine W_ret ?_
                replace h := Option.some.inj h; subst h
                exact Fin_free (l := [.i 0]) (by kernel_rfl) (by kernel_rfl) rfl

theorem p73 (a0 : Int) (r : Bool) (h : m73 a0 = some r) : Pt E0 hp 73 [.i a0] (.bool r) := by
  unfold m73 at h
  refine Pt_W (fn73) rfl (by decide) ?_
  refine W_seq ?_
  refine W_gh ?_
  refine W_reg ?_
  refine O_p 1 ?_
  refine O_nil ?_
  refine Gh_e ⟨⟨9, [(0, .i a0)]⟩, []⟩ ?_
  refine W_seq ?_
  refine W_cut ⟨⟨9, [(2, .bool ((decide (a0 ≥ 0)) && (decide (a0 ≤ 1000000))))]⟩, []⟩ ?_ ?_
  · generalize e_g1 : ((decide (a0 ≥ 0)) && (decide (a0 ≤ 1000000))) = g1
    refine W_gh ?_
    refine W_reg ?_
    refine O_p 3 ?_
    refine O_fork (n := 5) (decide (a0 ≥ 0)) (by kernel_rfl) (fun c2 => ?_) (fun c2 => ?_)
    · skip
      refine O_p 4 ?_
      refine O_nil ?_
      refine Gh_e ⟨⟨9, [(2, .bool (decide (a0 ≤ 1000000)))]⟩, []⟩ ?_
      have q := e_g1; simp only [c2, cond_true, cond_false, Bool.true_and, Bool.false_and, Bool.true_or, Bool.false_or] at q; subst q
      show _ = _
      kernel_rfl
    · skip
      refine O_p 4 ?_
      refine O_nil ?_
      refine Gh_e ⟨⟨9, [(2, .bool false)]⟩, []⟩ ?_
      have q := e_g1; simp only [c2, cond_true, cond_false, Bool.true_and, Bool.false_and, Bool.true_or, Bool.false_or] at q; subst q
      show _ = _
      kernel_rfl
  · refine W_ret ?_
    replace h := Option.some.inj h; subst h
    exact Fin_free (l := [.bool ((decide (a0 ≥ 0)) && (decide (a0 ≤ 1000000)))]) (by kernel_rfl) (by kernel_rfl) rfl

theorem p50 (a0 : SSpan) (r : Int) (h : m50 a0 = some r) : Pt E0 hp 50 [.agg (cSSpan a0)] (.i r) := by
  unfold m50 at h
  refine Pt_W (fn50) rfl (by decide) ?_
  refine W_seq ?_
  refine W_gh ?_
  refine W_reg ?_
  refine O_p 2 ?_
  refine O_nil ?_
  refine Gh_e ⟨⟨20, [(1, .po 0 0)]⟩, [.lv 2 [.i a0.Low, .i a0.High]]⟩ ?_
  refine W_seq ?_
  refine W_gh ?_
  refine W_block ?_
  refine W_seq ?_
  refine W_joinS (fun v : Bool => ⟨⟨20, [(1, .po 0 0), (3, .bool v)]⟩, [.lv 2 [.i a0.Low, .i a0.High]]⟩) h (fun w h => ?_) (fun w1 e_w1 h => ?_)
  · refine W_gh ?_
    refine W_reg ?_
    refine O_p 2 ?_
    refine O_call (fun v => .bool v) h (.inr rfl) (ys := [.i a0.Low]) (fun _ e => p73 _ _ e) (by kernel_rfl) (by kernel_rfl) (bels_cons rfl rfl) (fun v2 e_v2 h => ?_)
    refine O_p 2 ?_
    refine O_fork (n := 8) (!v2) (by kernel_rfl) (fun c3 => ?_) (fun c3 => ?_)
    · replace h := fork_t c3 h
      refine O_p 6 ?_
      refine O_nil ?_
      refine Gh_e ⟨⟨20, [(1, .po 0 0), (3, .bool true)]⟩, [.lv 2 [.i a0.Low, .i a0.High]]⟩ ?_
      replace h := Option.some.inj h; subst h
      show _ = _
      kernel_rfl
    · replace h := fork_f c3 h
      refine O_p 2 ?_
      refine O_call (fun v => .bool v) h (.inr rfl) (ys := [.i a0.High]) (fun _ e => p73 _ _ e) (by kernel_rfl) (by kernel_rfl) (bels_cons rfl rfl) (fun v4 e_v4 h => ?_)
      refine O_p 3 ?_
      refine O_nil ?_
      refine Gh_e ⟨⟨20, [(1, .po 0 0), (3, .bool (!v4))]⟩, [.lv 2 [.i a0.Low, .i a0.High]]⟩ ?_
      replace h := Option.some.inj h; subst h
      show _ = _
      kernel_rfl
  · refine W_gh ?_
    refine W_cond (c := w1) (by kernel_rfl) (fun c5 => ?_) (fun c5 => ?_)
    · replace h := fork_t c5 h
      refine W_seq ?_
      refine W_reg ?_
      refine O_p 1 ?_
      refine O_nil ?_
      refine W_ret ?_
      replace h := Option.some.inj h; subst h
      exact Fin_free (l := [.i 2]) (by kernel_rfl) (by kernel_rfl) rfl
    · replace h := fork_f c5 h
      refine W_seq ?_
      refine W_gh ?_
      refine W_reg ?_
      refine O_p 6 ?_
      refine O_nil ?_
      refine Gh_e ⟨⟨20, [(3, .bool w1), (14, .bool (decide (a0.Low > a0.High)))]⟩, [.lv 2 [.i a0.Low, .i a0.High]]⟩ ?_
      refine W_gh ?_
      refine W_cond (c := (decide (a0.Low > a0.High))) (by kernel_rfl) (fun c6 => ?_) (fun c6 => ?_)
      · replace h := fork_t c6 h
        refine W_seq ?_
        refine W_reg ?_
        refine O_p 1 ?_
        refine O_nil ?_
        refine W_ret ?_
        replace h := Option.some.inj h; subst h
        exact Fin_free (l := [.i 9]) (by kernel_rfl) (by kernel_rfl) rfl
      · replace h := fork_f c6 h
        refine W_skip ?_
        refine Gh_e ⟨⟨20, [(3, .bool w1)]⟩, [.lv 2 [.i a0.Low, .i a0.High]]⟩ ?_
        refine Gh_e ⟨⟨20, []⟩, [.lv 2 [.i a0.Low, .i a0.High]]⟩ ?_
        refine Gh_e ⟨⟨20, []⟩, [.lv 2 [.i a0.Low, .i a0.High]]⟩ ?_
        refine W_seq ?_
        refine W_reg ?_
        refine O_p 1 ?_
        refine O_nil ?_
        refine W_ret ?_
        replace h := Option.some.inj h; subst h
        exact Fin_free (l := [.i 0]) (by kernel_rfl) (by kernel_rfl) rfl

theorem p46 (a0 : SSequence) (a1 : SPlant) (r : (Int × (List SStep) × (List STravel))) (h : m46 a0 a1 = some r) : Pt E0 hp 46 [.agg (cSSequence a0), .agg (cSPlant a1)] (.fn 70 [.pro [.i r.1, .ro (r.2.1.map cSStep)], .pro [.ro (r.2.2.map cSTravel)]]) := by
  unfold m46 at h
  refine Pt_W (fn46) rfl (by decide) ?_
  refine W_seq ?_
  refine W_gh ?_
  refine W_reg ?_
  refine O_p 3 ?_
  refine O_nil ?_
  refine Gh_e ⟨⟨6, [(2, .po 0 0), (3, .po 1 0)]⟩, [.lv 2 [.i a0.Actuators, .ro (a0.Steps.map cSStep)], .lv 1 [.ro (a1.Travels.map cSTravel)]]⟩ ?_
  refine W_seq ?_
  refine W_gh ?_
  refine W_reg ?_
  refine O_p 2 ?_
  refine O_nil ?_
  refine Gh_e ⟨⟨6, [(4, .fn 70 [.po 0 0, .po 1 0])]⟩, [.lv 2 [.i a0.Actuators, .ro (a0.Steps.map cSStep)], .lv 1 [.ro (a1.Travels.map cSTravel)]]⟩ ?_
  refine W_ret ?_
  replace h := Option.some.inj h; subst h
  exact Fin_pk (l := [.fn 70 [.po 0 0, .po 1 0]]) (by kernel_rfl) (pk_fn (d := 5) (mapO_cons (pkc_box (id := 0) (nl := .norm) (sz := 2) (cs := [.i a0.Actuators, .ro (a0.Steps.map cSStep)]) (by kernel_rfl) (mapO_bels (bels_cons rfl (bels_cons (ro_bel okSStep.bel _) rfl)))) (mapO_cons (pkc_box (id := 1) (nl := .norm) (sz := 1) (cs := [.ro (a1.Travels.map cSTravel)]) (by kernel_rfl) (mapO_bels (bels_cons (ro_bel okSTravel.bel _) rfl))) rfl)))

theorem p55 (a0 : SPlant) (a1 : SStroke) (r : SSpan) (h : m55 a0 a1 = some r) : Pt E0 hp 55 [.agg (cSPlant a0), .agg (cSStroke a1)] (.agg [.i r.Low, .i r.High]) := by
  unfold m55 at h
  refine Pt_W (fn55) rfl (by decide) ?_
  refine W_seq ?_
  refine W_gh ?_
  refine W_reg ?_
  refine O_p 3 ?_
  refine O_nil ?_
  refine Gh_e ⟨⟨22, [(2, .po 0 0), (3, .po 1 0), (4, .po 2 0)]⟩, [.lv 1 [.ro (a0.Travels.map cSTravel)], .lv 2 [.i a1.Actuator, .bool a1.Out], .lv 2 [.i 0, .i 0]]⟩ ?_
  refine W_seq ?_
  refine W_reg ?_
  refine O_p 1 ?_
  refine O_nil ?_
  refine W_seq ?_
  refine W_seq ?_
  refine W_gh ?_
  refine W_reg ?_
  refine O_p 2 ?_
  refine O_nil ?_
  refine Gh_e ⟨⟨22, [(2, .po 0 0), (3, .po 1 0), (4, .po 2 0), (5, .i 0), (8, .bool a1.Out)]⟩, [.lv 1 [.ro (a0.Travels.map cSTravel)], .lv 2 [.i a1.Actuator, .bool a1.Out], .lv 2 [.i 0, .i 0]]⟩ ?_
  refine W_cut ⟨⟨22, [(2, .po 0 0), (3, .po 1 0), (4, .po 2 0), (5, .i (bif a1.Out then 1 else 0))]⟩, [.lv 1 [.ro (a0.Travels.map cSTravel)], .lv 2 [.i a1.Actuator, .bool a1.Out], .lv 2 [.i 0, .i 0]]⟩ ?_ ?_
  · generalize e_g1 : ((bif a1.Out then 1 else 0) : Int) = g1
    refine W_gh ?_
    refine W_cond (c := a1.Out) (by kernel_rfl) (fun c2 => ?_) (fun c2 => ?_)
    · skip
      refine W_reg ?_
      refine O_p 1 ?_
      refine O_nil ?_
      refine Gh_e ⟨⟨22, [(2, .po 0 0), (3, .po 1 0), (4, .po 2 0), (5, .i 1)]⟩, [.lv 1 [.ro (a0.Travels.map cSTravel)], .lv 2 [.i a1.Actuator, .bool a1.Out], .lv 2 [.i 0, .i 0]]⟩ ?_
      have q := e_g1; simp only [c2, cond_true, cond_false, Bool.true_and, Bool.false_and, Bool.true_or, Bool.false_or] at q; subst q
      show _ = _
      kernel_rfl
    · skip
      refine W_skip ?_
      refine Gh_e ⟨⟨22, [(2, .po 0 0), (3, .po 1 0), (4, .po 2 0), (5, .i 0)]⟩, [.lv 1 [.ro (a0.Travels.map cSTravel)], .lv 2 [.i a1.Actuator, .bool a1.Out], .lv 2 [.i 0, .i 0]]⟩ ?_
      have q := e_g1; simp only [c2, cond_true, cond_false, Bool.true_and, Bool.false_and, Bool.true_or, Bool.false_or] at q; subst q
      show _ = _
      kernel_rfl
  · refine W_seq ?_
    refine W_gh ?_
    refine W_reg ?_
    refine O_p 4 ?_
    refine O_idx (kd := .i64) cSTravel h (fun _ => rfl) (by kernel_rfl) (by kernel_rfl) (by kernel_rfl) (fun v3 e_v3 h => ?_)
    refine O_p 3 ?_
    refine O_nil ?_
    refine Gh_e ⟨⟨22, [(4, .po 2 0), (5, .i (bif a1.Out then 1 else 0)), (6, .po 3 0)]⟩, [.lv 1 [.ro (a0.Travels.map cSTravel)], .lv 2 [.i a1.Actuator, .bool a1.Out], .lv 2 [.i 0, .i 0], .lv 4 [.i v3.Out.Low, .i v3.Out.High, .i v3.In.Low, .i v3.In.High]]⟩ ?_
    refine W_seq ?_
    refine W_gh ?_
    refine W_reg ?_
    refine O_p 6 ?_
    refine O_idxL (kd := .i64) (l := [(v3.In.Low, v3.In.High), (v3.Out.Low, v3.Out.High)]) (cP2 cI_i64) h (fun _ => rfl) rfl (by kernel_rfl) (by kernel_rfl) (by kernel_rfl) (fun v4 e_v4 h => ?_)
    refine O_p 1 ?_
    refine O_nil ?_
    refine Gh_e ⟨⟨22, [(4, .po 2 0)]⟩, [.lv 1 [.ro (a0.Travels.map cSTravel)], .lv 2 [.i a1.Actuator, .bool a1.Out], .lv 2 [.i v4.1, .i v4.2], .lv 4 [.i v3.Out.Low, .i v3.Out.High, .i v3.In.Low, .i v3.In.High]]⟩ ?_
    refine W_ret ?_
    replace h := Option.some.inj h; subst h
    exact Fin_free (l := [.agg [.i v4.1, .i v4.2]]) (by kernel_rfl) (by kernel_rfl) rfl

theorem p76 (a0 : SStroke) (a1 : (List STravel)) (r : Int) (h : m76 a0 a1 = some r) : Pt E0 hp 76 [.agg (cSStroke a0), .pro [.ro (a1.map cSTravel)]] (.i r) := by
  unfold m76 at h
  refine Pt_W (fn76) rfl (by decide) ?_
  refine W_seq ?_
  refine W_gh ?_
  refine W_reg ?_
  refine O_p 2 ?_
  refine O_nil ?_
  refine Gh_e ⟨⟨8, [(1, .pro [.ro (a1.map cSTravel)]), (2, .po 0 0)]⟩, [.lv 2 [.i a0.Actuator, .bool a0.Out]]⟩ ?_
  refine W_seq ?_
  refine W_gh ?_
  refine W_reg ?_
  refine O_p 2 ?_
  refine O_call (fun v => .agg [.i v.Low, .i v.High]) h (.inr rfl) (ys := [.agg (cSPlant (⟨a1⟩ : SPlant)), .agg (cSStroke a0)]) (fun _ e => p55 _ _ _ e) (by kernel_rfl) (by kernel_rfl) (bels_cons (okSPlant.bel _) (bels_cons (okSStroke.bel _) rfl)) (fun v1 e_v1 h => ?_)
  refine O_p 2 ?_
  refine O_nil ?_
  refine Gh_e ⟨⟨8, [(3, .i v1.Low)]⟩, [.lv 2 [.i a0.Actuator, .bool a0.Out]]⟩ ?_
  refine W_ret ?_
  replace h := Option.some.inj h; subst h
  exact Fin_free (l := [.i v1.Low]) (by kernel_rfl) (by kernel_rfl) rfl

theorem p75_76 (a0 : (List SStroke)) (a1 : (List STravel)) (r : Int) (h : m75_76 a0 a1 = some r) : Pt E0 hp 75 [.ro (a0.map cSStroke), .fn 76 [.pro [.ro (a1.map cSTravel)]]] (.i r) := by
  unfold m75_76 at h
  refine Pt_W (fn75) rfl (by decide) ?_
  refine W_seq ?_
  refine W_gh ?_
  refine W_reg ?_
  refine O_p 1 ?_
  refine O_nil ?_
  refine Gh_e ⟨⟨21, [(0, .ro (a0.map cSStroke)), (1, .fn 76 [.pro [.ro (a1.map cSTravel)]])]⟩, []⟩ ?_
  refine W_seq ?_
  refine W_reg ?_
  refine O_p 1 ?_
  refine O_nil ?_
  refine W_seq ?_
  refine W_seq ?_
  refine W_gh ?_
  refine W_reg ?_
  refine O_p 1 ?_
  refine O_len (l := a0) cSStroke (by kernel_rfl) (by kernel_rfl) ?_
  refine O_p 1 ?_
  refine O_nil ?_
  refine Gh_e ⟨⟨21, [(1, .fn 76 [.pro [.ro (a1.map cSTravel)]]), (5, .i 0), (8, .ro (a0.map cSStroke)), (9, .i (a0.length : Int)), (10, .i 0)]⟩, []⟩ ?_
  refine W_loopS (fun s1 : Int × Int => ⟨⟨21, [(1, .fn 76 [.pro [.ro (a1.map cSTravel)]]), (5, .i s1.2), (8, .ro (a0.map cSStroke)), (9, .i (a0.length : Int)), (10, .i s1.1)]⟩, []⟩) (fun w2 : Int => ⟨⟨21, [(1, .fn 76 [.pro [.ro (a1.map cSTravel)]]), (5, .i w2)]⟩, []⟩) h (by kernel_rfl) (fun s1 c h => ?_) (fun w2 e_w2 h => ?_)
  · refine W_gh ?_
    refine W_seq ?_
    refine W_reg ?_
    refine O_p 1 ?_
    refine O_nil ?_
    refine W_seq ?_
    refine W_gh ?_
    refine W_cond (c := (decide (s1.1 < (a0.length : Int)))) (by kernel_rfl) (fun c3 => ?_) (fun c3 => ?_)
    · replace h := fork_t c3 h
      refine W_skip ?_
      refine Gh_e ⟨⟨21, [(1, .fn 76 [.pro [.ro (a1.map cSTravel)]]), (5, .i s1.2), (8, .ro (a0.map cSStroke)), (9, .i (a0.length : Int)), (10, .i s1.1)]⟩, []⟩ ?_
      refine W_seq ?_
      refine W_gh ?_
      refine W_block ?_
      refine W_seq ?_
      refine W_gh ?_
      refine W_reg ?_
      refine O_idx (kd := .i64) cSStroke h (fun _ => rfl) (by kernel_rfl) (by kernel_rfl) (by kernel_rfl) (fun v4 e_v4 h => ?_)
      refine O_p 3 ?_
      refine O_nil ?_
      refine Gh_e ⟨⟨21, [(1, .fn 76 [.pro [.ro (a1.map cSTravel)]]), (5, .i s1.2), (7, .po 0 0), (8, .ro (a0.map cSStroke)), (9, .i (a0.length : Int)), (10, .i s1.1)]⟩, [.lv 2 [.i v4.Actuator, .bool v4.Out]]⟩ ?_
      refine W_gh ?_
      refine W_reg ?_
      refine O_p 3 ?_
      refine O_callv (f := 76) (cap := [.pro [.ro (a1.map cSTravel)]]) (fun v => .i v) h (.inr rfl) (by kernel_rfl) (ys := [.agg (cSStroke v4), .pro [.ro (a1.map cSTravel)]]) (fun _ e => p76 _ _ _ e) (by kernel_rfl) (by kernel_rfl) (bels_cons (okSStroke.bel _) (bels_cons (bels_cons (ro_bel okSTravel.bel _) rfl) rfl)) (fun v5 e_v5 h => ?_)
      refine O_p 2 ?_
      refine O_nil ?_
      refine Gh_one (s1 := ⟨⟨21, [(1, .fn 76 [.pro [.ro (a1.map cSTravel)]]), (5, .i (maxI s1.2 v5)), (8, .ro (a0.map cSStroke)), (9, .i (a0.length : Int)), (10, .i s1.1)]⟩, [.lv 2 [.i v4.Actuator, .bool v4.Out]]⟩) (by kernel_rfl) ?_
      refine Gh_trunc0 (by kernel_rfl) ?_
      refine Gh_nil ?_
      refine Gh_one (s1 := ⟨⟨21, [(1, .fn 76 [.pro [.ro (a1.map cSTravel)]]), (5, .i (maxI s1.2 v5)), (8, .ro (a0.map cSStroke)), (9, .i (a0.length : Int)), (10, .i s1.1)]⟩, [.lv 2 [.i v4.Actuator, .bool v4.Out]]⟩) (by kernel_rfl) ?_
      refine Gh_at (s1 := ⟨⟨21, [(1, .fn 76 [.pro [.ro (a1.map cSTravel)]]), (5, .i (maxI s1.2 v5)), (8, .ro (a0.map cSStroke)), (9, .i (a0.length : Int)), (10, .i s1.1)]⟩, [.lv 2 [.i v4.Actuator, .bool v4.Out]]⟩) (by kernel_rfl) ?_
      refine Gh_trunc (s1 := ⟨⟨21, [(1, .fn 76 [.pro [.ro (a1.map cSTravel)]]), (5, .i (maxI s1.2 v5)), (8, .ro (a0.map cSStroke)), (9, .i (a0.length : Int)), (10, .i s1.1)]⟩, []⟩) (by kernel_rfl) (tb_free (bels_cons (bels_cons (ro_bel okSTravel.bel _) rfl) rfl) (tb_free rfl (tb_free (ro_bel okSStroke.bel _) (tb_free rfl (tb_free rfl rfl))))) (H1 := []) (by kernel_rfl) rfl (by kernel_rfl) ?_
      refine Gh_nil ?_
      refine W_gh ?_
      refine W_reg ?_
      refine O_p 2 ?_
      refine O_nil ?_
      refine Gh_e ⟨⟨21, [(1, .fn 76 [.pro [.ro (a1.map cSTravel)]]), (5, .i (maxI s1.2 v5)), (8, .ro (a0.map cSStroke)), (9, .i (a0.length : Int)), (10, .i (addI .i64 s1.1 1))]⟩, []⟩ ?_
      refine Gh_one (s1 := ⟨⟨21, [(1, .fn 76 [.pro [.ro (a1.map cSTravel)]]), (5, .i (maxI s1.2 v5)), (8, .ro (a0.map cSStroke)), (9, .i (a0.length : Int)), (10, .i (addI .i64 s1.1 1))]⟩, []⟩) (by kernel_rfl) ?_
      refine Gh_trunc0 (by kernel_rfl) ?_
      refine Gh_nil ?_
      replace h := Option.some.inj h; subst h
      exact ⟨_, rfl, by kernel_rfl⟩
    · replace h := fork_f c3 h
      refine W_exit ?_
      refine X_hit ?_
      refine Gh_one (s1 := ⟨⟨21, [(1, .fn 76 [.pro [.ro (a1.map cSTravel)]]), (5, .i s1.2)]⟩, []⟩) (by kernel_rfl) ?_
      refine Gh_trunc0 (by kernel_rfl) ?_
      refine Gh_nil ?_
      replace h := Option.some.inj h; subst h
      exact ⟨_, rfl, by kernel_rfl⟩
  · refine W_seq ?_
    refine W_gh ?_
    refine W_reg ?_
    refine O_p 2 ?_
    refine O_nil ?_
    refine Gh_e ⟨⟨21, [(1, .fn 76 [.pro [.ro (a1.map cSTravel)]]), (4, .i w2)]⟩, []⟩ ?_
    refine W_ret ?_
    replace h := Option.some.inj h; subst h
    exact Fin_free (l := [.i w2]) (by kernel_rfl) (by kernel_rfl) rfl

theorem p77 (a0 : SStroke) (a1 : (List STravel)) (r : Int) (h : m77 a0 a1 = some r) : Pt E0 hp 77 [.agg (cSStroke a0), .pro [.ro (a1.map cSTravel)]] (.i r) := by
  unfold m77 at h
  refine Pt_W (fn77) rfl (by decide) ?_
  refine W_seq ?_
  refine W_gh ?_
  refine W_reg ?_
  refine O_p 2 ?_
  refine O_nil ?_
  refine Gh_e ⟨⟨8, [(1, .pro [.ro (a1.map cSTravel)]), (2, .po 0 0)]⟩, [.lv 2 [.i a0.Actuator, .bool a0.Out]]⟩ ?_
  refine W_seq ?_
  refine W_gh ?_
  refine W_reg ?_
  refine O_p 2 ?_
  refine O_call (fun v => .agg [.i v.Low, .i v.High]) h (.inr rfl) (ys := [.agg (cSPlant (⟨a1⟩ : SPlant)), .agg (cSStroke a0)]) (fun _ e => p55 _ _ _ e) (by kernel_rfl) (by kernel_rfl) (bels_cons (okSPlant.bel _) (bels_cons (okSStroke.bel _) rfl)) (fun v1 e_v1 h => ?_)
  refine O_p 2 ?_
  refine O_nil ?_
  refine Gh_e ⟨⟨8, [(3, .i v1.High)]⟩, [.lv 2 [.i a0.Actuator, .bool a0.Out]]⟩ ?_
  refine W_ret ?_
  replace h := Option.some.inj h; subst h
  exact Fin_free (l := [.i v1.High]) (by kernel_rfl) (by kernel_rfl) rfl

theorem p75_77 (a0 : (List SStroke)) (a1 : (List STravel)) (r : Int) (h : m75_77 a0 a1 = some r) : Pt E0 hp 75 [.ro (a0.map cSStroke), .fn 77 [.pro [.ro (a1.map cSTravel)]]] (.i r) := by
  unfold m75_77 at h
  refine Pt_W (fn75) rfl (by decide) ?_
  refine W_seq ?_
  refine W_gh ?_
  refine W_reg ?_
  refine O_p 1 ?_
  refine O_nil ?_
  refine Gh_e ⟨⟨21, [(0, .ro (a0.map cSStroke)), (1, .fn 77 [.pro [.ro (a1.map cSTravel)]])]⟩, []⟩ ?_
  refine W_seq ?_
  refine W_reg ?_
  refine O_p 1 ?_
  refine O_nil ?_
  refine W_seq ?_
  refine W_seq ?_
  refine W_gh ?_
  refine W_reg ?_
  refine O_p 1 ?_
  refine O_len (l := a0) cSStroke (by kernel_rfl) (by kernel_rfl) ?_
  refine O_p 1 ?_
  refine O_nil ?_
  refine Gh_e ⟨⟨21, [(1, .fn 77 [.pro [.ro (a1.map cSTravel)]]), (5, .i 0), (8, .ro (a0.map cSStroke)), (9, .i (a0.length : Int)), (10, .i 0)]⟩, []⟩ ?_
  refine W_loopS (fun s1 : Int × Int => ⟨⟨21, [(1, .fn 77 [.pro [.ro (a1.map cSTravel)]]), (5, .i s1.2), (8, .ro (a0.map cSStroke)), (9, .i (a0.length : Int)), (10, .i s1.1)]⟩, []⟩) (fun w2 : Int => ⟨⟨21, [(1, .fn 77 [.pro [.ro (a1.map cSTravel)]]), (5, .i w2)]⟩, []⟩) h (by kernel_rfl) (fun s1 c h => ?_) (fun w2 e_w2 h => ?_)
  · refine W_gh ?_
    refine W_seq ?_
    refine W_reg ?_
    refine O_p 1 ?_
    refine O_nil ?_
    refine W_seq ?_
    refine W_gh ?_
    refine W_cond (c := (decide (s1.1 < (a0.length : Int)))) (by kernel_rfl) (fun c3 => ?_) (fun c3 => ?_)
    · replace h := fork_t c3 h
      refine W_skip ?_
      refine Gh_e ⟨⟨21, [(1, .fn 77 [.pro [.ro (a1.map cSTravel)]]), (5, .i s1.2), (8, .ro (a0.map cSStroke)), (9, .i (a0.length : Int)), (10, .i s1.1)]⟩, []⟩ ?_
      refine W_seq ?_
      refine W_gh ?_
      refine W_block ?_
      refine W_seq ?_
      refine W_gh ?_
      refine W_reg ?_
      refine O_idx (kd := .i64) cSStroke h (fun _ => rfl) (by kernel_rfl) (by kernel_rfl) (by kernel_rfl) (fun v4 e_v4 h => ?_)
      refine O_p 3 ?_
      refine O_nil ?_
      refine Gh_e ⟨⟨21, [(1, .fn 77 [.pro [.ro (a1.map cSTravel)]]), (5, .i s1.2), (7, .po 0 0), (8, .ro (a0.map cSStroke)), (9, .i (a0.length : Int)), (10, .i s1.1)]⟩, [.lv 2 [.i v4.Actuator, .bool v4.Out]]⟩ ?_
      refine W_gh ?_
      refine W_reg ?_
      refine O_p 3 ?_
      refine O_callv (f := 77) (cap := [.pro [.ro (a1.map cSTravel)]]) (fun v => .i v) h (.inr rfl) (by kernel_rfl) (ys := [.agg (cSStroke v4), .pro [.ro (a1.map cSTravel)]]) (fun _ e => p77 _ _ _ e) (by kernel_rfl) (by kernel_rfl) (bels_cons (okSStroke.bel _) (bels_cons (bels_cons (ro_bel okSTravel.bel _) rfl) rfl)) (fun v5 e_v5 h => ?_)
      refine O_p 2 ?_
      refine O_nil ?_
      refine Gh_one (s1 := ⟨⟨21, [(1, .fn 77 [.pro [.ro (a1.map cSTravel)]]), (5, .i (maxI s1.2 v5)), (8, .ro (a0.map cSStroke)), (9, .i (a0.length : Int)), (10, .i s1.1)]⟩, [.lv 2 [.i v4.Actuator, .bool v4.Out]]⟩) (by kernel_rfl) ?_
      refine Gh_trunc0 (by kernel_rfl) ?_
      refine Gh_nil ?_
      refine Gh_one (s1 := ⟨⟨21, [(1, .fn 77 [.pro [.ro (a1.map cSTravel)]]), (5, .i (maxI s1.2 v5)), (8, .ro (a0.map cSStroke)), (9, .i (a0.length : Int)), (10, .i s1.1)]⟩, [.lv 2 [.i v4.Actuator, .bool v4.Out]]⟩) (by kernel_rfl) ?_
      refine Gh_at (s1 := ⟨⟨21, [(1, .fn 77 [.pro [.ro (a1.map cSTravel)]]), (5, .i (maxI s1.2 v5)), (8, .ro (a0.map cSStroke)), (9, .i (a0.length : Int)), (10, .i s1.1)]⟩, [.lv 2 [.i v4.Actuator, .bool v4.Out]]⟩) (by kernel_rfl) ?_
      refine Gh_trunc (s1 := ⟨⟨21, [(1, .fn 77 [.pro [.ro (a1.map cSTravel)]]), (5, .i (maxI s1.2 v5)), (8, .ro (a0.map cSStroke)), (9, .i (a0.length : Int)), (10, .i s1.1)]⟩, []⟩) (by kernel_rfl) (tb_free (bels_cons (bels_cons (ro_bel okSTravel.bel _) rfl) rfl) (tb_free rfl (tb_free (ro_bel okSStroke.bel _) (tb_free rfl (tb_free rfl rfl))))) (H1 := []) (by kernel_rfl) rfl (by kernel_rfl) ?_
      refine Gh_nil ?_
      refine W_gh ?_
      refine W_reg ?_
      refine O_p 2 ?_
      refine O_nil ?_
      refine Gh_e ⟨⟨21, [(1, .fn 77 [.pro [.ro (a1.map cSTravel)]]), (5, .i (maxI s1.2 v5)), (8, .ro (a0.map cSStroke)), (9, .i (a0.length : Int)), (10, .i (addI .i64 s1.1 1))]⟩, []⟩ ?_
      refine Gh_one (s1 := ⟨⟨21, [(1, .fn 77 [.pro [.ro (a1.map cSTravel)]]), (5, .i (maxI s1.2 v5)), (8, .ro (a0.map cSStroke)), (9, .i (a0.length : Int)), (10, .i (addI .i64 s1.1 1))]⟩, []⟩) (by kernel_rfl) ?_
      refine Gh_trunc0 (by kernel_rfl) ?_
      refine Gh_nil ?_
      replace h := Option.some.inj h; subst h
      exact ⟨_, rfl, by kernel_rfl⟩
    · replace h := fork_f c3 h
      refine W_exit ?_
      refine X_hit ?_
      refine Gh_one (s1 := ⟨⟨21, [(1, .fn 77 [.pro [.ro (a1.map cSTravel)]]), (5, .i s1.2)]⟩, []⟩) (by kernel_rfl) ?_
      refine Gh_trunc0 (by kernel_rfl) ?_
      refine Gh_nil ?_
      replace h := Option.some.inj h; subst h
      exact ⟨_, rfl, by kernel_rfl⟩
  · refine W_seq ?_
    refine W_gh ?_
    refine W_reg ?_
    refine O_p 2 ?_
    refine O_nil ?_
    refine Gh_e ⟨⟨21, [(1, .fn 77 [.pro [.ro (a1.map cSTravel)]]), (4, .i w2)]⟩, []⟩ ?_
    refine W_ret ?_
    replace h := Option.some.inj h; subst h
    exact Fin_free (l := [.i w2]) (by kernel_rfl) (by kernel_rfl) rfl

theorem p57 (a0 : SPlant) (a1 : SStep) (r : SSpan) (h : m57 a0 a1 = some r) : Pt E0 hp 57 [.agg (cSPlant a0), .agg (cSStep a1)] (.agg [.i r.Low, .i r.High]) := by
  unfold m57 at h
  refine Pt_W (fn57) rfl (by decide) ?_
  refine W_seq ?_
  refine W_gh ?_
  refine W_reg ?_
  refine O_p 3 ?_
  refine O_nil ?_
  refine Gh_e ⟨⟨14, [(2, .po 0 0), (3, .po 1 0), (4, .po 2 0)]⟩, [.lv 1 [.ro (a0.Travels.map cSTravel)], .lv 2 [.ro (a1.Strokes.map cSStroke), .i a1.Wait], .lv 2 [.i 0, .i 0]]⟩ ?_
  refine W_seq ?_
  refine W_gh ?_
  refine W_draw ?_
  refine O_p 3 ?_
  refine O_lent (fun v => .i v) h (.inr rfl) (ys := [.ro (a1.Strokes.map cSStroke), .fn 76 [.pro [.ro (a0.Travels.map cSTravel)]]]) (fun _ e => p75_76 _ _ _ e) (by kernel_rfl) (snaps_of (xs := [.ro (a1.Strokes.map cSStroke), .fn 76 [.po 0 0]]) (by kernel_rfl) (mapO_cons (pk_free (ro_bel okSStroke.bel _)) (mapO_cons (pk_fn (d := 5) (mapO_cons (pkc_box (id := 0) (nl := .norm) (sz := 1) (cs := [.ro (a0.Travels.map cSTravel)]) (by kernel_rfl) (mapO_bels (bels_cons (ro_bel okSTravel.bel _) rfl))) rfl)) rfl))) (fun _ => rfl) (fun v1 e_v1 h => ?_)
  refine O_p 3 ?_
  refine O_lent (fun v => .i v) h (.inr rfl) (ys := [.ro (a1.Strokes.map cSStroke), .fn 77 [.pro [.ro (a0.Travels.map cSTravel)]]]) (fun _ e => p75_77 _ _ _ e) (by kernel_rfl) (snaps_of (xs := [.ro (a1.Strokes.map cSStroke), .fn 77 [.po 0 0]]) (by kernel_rfl) (mapO_cons (pk_free (ro_bel okSStroke.bel _)) (mapO_cons (pk_fn (d := 5) (mapO_cons (pkc_box (id := 0) (nl := .norm) (sz := 1) (cs := [.ro (a0.Travels.map cSTravel)]) (by kernel_rfl) (mapO_bels (bels_cons (ro_bel okSTravel.bel _) rfl))) rfl)) rfl))) (fun _ => rfl) (fun v2 e_v2 h => ?_)
  refine O_p 2 ?_
  refine O_nil ?_
  refine Gh_e ⟨⟨14, [(4, .po 2 0)]⟩, [.lv 1 [.ro (a0.Travels.map cSTravel)], .lv 2 [.ro (a1.Strokes.map cSStroke), .i a1.Wait], .lv 2 [.i v1, .i v2]]⟩ ?_
  refine W_ret ?_
  replace h := Option.some.inj h; subst h
  exact Fin_free (l := [.agg [.i v1, .i v2]]) (by kernel_rfl) (by kernel_rfl) rfl

theorem p54 (a0 : SSpan) (a1 : SSpan) (r : SSpan) (h : m54 a0 a1 = some r) : Pt E0 hp 54 [.agg (cSSpan a0), .agg (cSSpan a1)] (.agg [.i r.Low, .i r.High]) := by
  unfold m54 at h
  refine Pt_W (fn54) rfl (by decide) ?_
  refine W_seq ?_
  refine W_gh ?_
  refine W_reg ?_
  refine O_p 3 ?_
  refine O_nil ?_
  refine Gh_e ⟨⟨16, [(2, .po 0 0), (3, .po 1 0), (4, .po 2 0)]⟩, [.lv 2 [.i a0.Low, .i a0.High], .lv 2 [.i a1.Low, .i a1.High], .lv 2 [.i 0, .i 0]]⟩ ?_
  refine W_seq ?_
  refine W_gh ?_
  refine W_reg ?_
  refine O_p 12 ?_
  refine O_nil ?_
  refine Gh_e ⟨⟨16, [(4, .po 2 0)]⟩, [.lv 2 [.i a0.Low, .i a0.High], .lv 2 [.i a1.Low, .i a1.High], .lv 2 [.i (addI .i64 a0.Low a1.Low), .i (addI .i64 a0.High a1.High)]]⟩ ?_
  refine W_ret ?_
  replace h := Option.some.inj h; subst h
  exact Fin_free (l := [.agg [.i (addI .i64 a0.Low a1.Low), .i (addI .i64 a0.High a1.High)]]) (by kernel_rfl) (by kernel_rfl) rfl

theorem p56 (a0 : SSpan) (a1 : Int) (r : SSpan) (h : m56 a0 a1 = some r) : Pt E0 hp 56 [.agg (cSSpan a0), .i a1] (.agg [.i r.Low, .i r.High]) := by
  unfold m56 at h
  refine Pt_W (fn56) rfl (by decide) ?_
  refine W_seq ?_
  refine W_gh ?_
  refine W_reg ?_
  refine O_p 2 ?_
  refine O_nil ?_
  refine Gh_e ⟨⟨10, [(1, .i a1), (2, .po 0 0), (4, .po 1 0)]⟩, [.lv 2 [.i a0.Low, .i a0.High], .lv 2 [.i 0, .i 0]]⟩ ?_
  refine W_seq ?_
  refine W_gh ?_
  refine W_reg ?_
  refine O_p 4 ?_
  refine O_call (fun v => .agg [.i v.Low, .i v.High]) h (.inr rfl) (ys := [.agg (cSSpan a0), .agg (cSSpan (⟨a1, a1⟩ : SSpan))]) (fun _ e => p54 _ _ _ e) (by kernel_rfl) (by kernel_rfl) (bels_cons (okSSpan.bel _) (bels_cons (okSSpan.bel _) rfl)) (fun v1 e_v1 h => ?_)
  refine O_p 1 ?_
  refine O_nil ?_
  refine Gh_e ⟨⟨10, [(4, .po 1 0)]⟩, [.lv 2 [.i a0.Low, .i a0.High], .lv 2 [.i v1.Low, .i v1.High]]⟩ ?_
  refine W_ret ?_
  replace h := Option.some.inj h; subst h
  exact Fin_free (l := [.agg [.i v1.Low, .i v1.High]]) (by kernel_rfl) (by kernel_rfl) rfl
end G17
