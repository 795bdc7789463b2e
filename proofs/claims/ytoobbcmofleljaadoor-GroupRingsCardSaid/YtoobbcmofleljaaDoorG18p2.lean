/- The code computes the models, printed by a program of mine (dec.py). No condition. -/
import Derived.Test.YtoobbcmofleljaaDoorG18p1
import Derived.Test.YtoobbcmofleljaaDoorG18x
namespace G18
open Go Go.Pl Go.Am Go.Am.As
set_option linter.unusedVariables false
set_option linter.unusedSimpArgs false
set_option maxHeartbeats 1000000

theorem p13 (a0 : SSequence) (a1 : (List (Int × Int))) (r : (Int × Int)) (h : m13 a0 a1 = some r) : Pt E0 hp 13 [.agg (cSSequence a0), .ro (a1.map (cP2 cI_i64))] (.tup [.i r.1, .i r.2]) := by
  unfold m13 at h
  refine Pt_W (fn13) rfl (by decide) ?_
  refine W_seq ?_
  refine W_gh ?_
  refine W_reg ?_
  refine O_p 3 ?_
  refine O_nil ?_
  refine Gh_e ⟨⟨85, [(1, .ro (a1.map (cP2 cI_i64))), (2, .po 0 0)]⟩, [.lv 2 [.i a0.Actuators, .ro (a0.Steps.map cSStep)]]⟩ ?_
  refine W_seq ?_
  refine W_seq ?_
  refine W_gh ?_
  refine W_reg ?_
  refine O_p 1 ?_
  refine O_call (fun v => .i v) h (.inr rfl) (ys := [.agg (cSSequence a0)]) (fun _ e => p35 _ _ e) (by kernel_rfl) (by kernel_rfl) (bels_cons (okSSequence.bel _) rfl) (fun v1 e_v1 h => ?_)
  refine O_p 1 ?_
  refine O_nil ?_
  refine Gh_e ⟨⟨85, [(1, .ro (a1.map (cP2 cI_i64))), (2, .po 0 0), (6, .i v1)]⟩, [.lv 2 [.i a0.Actuators, .ro (a0.Steps.map cSStep)]]⟩ ?_
  refine W_seq ?_
  refine W_gh ?_
  refine W_reg ?_
  refine O_p 2 ?_
  refine O_nil ?_
  refine Gh_e ⟨⟨85, [(1, .ro (a1.map (cP2 cI_i64))), (2, .po 0 0), (6, .i v1), (13, .bool (v1 != 0))]⟩, [.lv 2 [.i a0.Actuators, .ro (a0.Steps.map cSStep)]]⟩ ?_
  refine W_gh ?_
  refine W_cond (c := (v1 != 0)) (by kernel_rfl) (fun c2 => ?_) (fun c2 => ?_)
  · replace h := fork_t c2 h
    refine W_seq ?_
    refine W_gh ?_
    refine W_reg ?_
    refine O_p 3 ?_
    refine O_nil ?_
    refine Gh_e ⟨⟨85, [(1, .ro (a1.map (cP2 cI_i64))), (2, .po 0 0), (4, .i 0), (5, .i v1), (13, .bool (v1 != 0))]⟩, [.lv 2 [.i a0.Actuators, .ro (a0.Steps.map cSStep)]]⟩ ?_
    refine W_ret ?_
    replace h := Option.some.inj h; subst h
    exact Fin_free (l := [.i 0, .i v1]) (by kernel_rfl) (by kernel_rfl) rfl
  · replace h := fork_f c2 h
    refine W_skip ?_
    refine Gh_e ⟨⟨85, [(1, .ro (a1.map (cP2 cI_i64))), (2, .po 0 0)]⟩, [.lv 2 [.i a0.Actuators, .ro (a0.Steps.map cSStep)]]⟩ ?_
    refine W_seq ?_
    refine W_seq ?_
    refine W_gh ?_
    refine W_reg ?_
    refine O_p 1 ?_
    refine O_len (l := a1) (cP2 cI_i64) (by kernel_rfl) (by kernel_rfl) ?_
    refine O_p 2 ?_
    refine O_len (l := a0.Steps) cSStep (by kernel_rfl) (by kernel_rfl) ?_
    refine O_p 1 ?_
    refine O_nil ?_
    refine Gh_e ⟨⟨85, [(1, .ro (a1.map (cP2 cI_i64))), (2, .po 0 0), (20, .bool (decide ((a1.length : Int) > (a0.Steps.length : Int))))]⟩, [.lv 2 [.i a0.Actuators, .ro (a0.Steps.map cSStep)]]⟩ ?_
    refine W_gh ?_
    refine W_cond (c := (decide ((a1.length : Int) > (a0.Steps.length : Int)))) (by kernel_rfl) (fun c3 => ?_) (fun c3 => ?_)
    · replace h := fork_t c3 h
      refine W_seq ?_
      refine W_reg ?_
      refine O_p 2 ?_
      refine O_nil ?_
      refine W_ret ?_
      replace h := Option.some.inj h; subst h
      exact Fin_free (l := [.i 0, .i 5]) (by kernel_rfl) (by kernel_rfl) rfl
    · replace h := fork_f c3 h
      refine W_skip ?_
      refine Gh_e ⟨⟨85, [(1, .ro (a1.map (cP2 cI_i64))), (2, .po 0 0)]⟩, [.lv 2 [.i a0.Actuators, .ro (a0.Steps.map cSStep)]]⟩ ?_
      refine W_seq ?_
      refine W_reg ?_
      refine O_p 1 ?_
      refine O_nil ?_
      refine W_seq ?_
      refine W_seq ?_
      refine W_reg ?_
      refine O_p 1 ?_
      refine O_len (l := a1) (cP2 cI_i64) (by kernel_rfl) (by kernel_rfl) ?_
      refine O_p 1 ?_
      refine O_nil ?_
      refine W_loop (fun s4 : Int × Int => ⟨⟨85, [(1, .ro (a1.map (cP2 cI_i64))), (2, .po 0 0), (7, .i s4.2), (21, .ro (a1.map (cP2 cI_i64))), (22, .i (a1.length : Int)), (23, .i s4.1)]⟩, [.lv 2 [.i a0.Actuators, .ro (a0.Steps.map cSStep)]]⟩) (fun w5 : Unit => ⟨⟨85, [(1, .ro (a1.map (cP2 cI_i64)))]⟩, [.lv 2 [.i a0.Actuators, .ro (a0.Steps.map cSStep)]]⟩) h (by kernel_rfl) (fun s4 c h => ?_) (fun w5 h => ?_)
      · refine W_gh ?_
        refine W_seq ?_
        refine W_reg ?_
        refine O_p 1 ?_
        refine O_nil ?_
        refine W_seq ?_
        refine W_gh ?_
        refine W_cond (c := (decide (s4.1 < (a1.length : Int)))) (by kernel_rfl) (fun c6 => ?_) (fun c6 => ?_)
        · replace h := fork_t c6 h
          refine W_skip ?_
          refine Gh_e ⟨⟨85, [(1, .ro (a1.map (cP2 cI_i64))), (2, .po 0 0), (7, .i s4.2), (21, .ro (a1.map (cP2 cI_i64))), (22, .i (a1.length : Int)), (23, .i s4.1)]⟩, [.lv 2 [.i a0.Actuators, .ro (a0.Steps.map cSStep)]]⟩ ?_
          refine W_seq ?_
          refine W_gh ?_
          refine W_block ?_
          refine W_seq ?_
          refine W_gh ?_
          refine W_reg ?_
          refine O_p 1 ?_
          refine O_idx (kd := .i64) (cP2 cI_i64) h (fun _ => rfl) (by kernel_rfl) (by kernel_rfl) (by kernel_rfl) (fun v7 e_v7 h => ?_)
          refine O_p 4 ?_
          refine O_nil ?_
          refine Gh_e ⟨⟨85, [(1, .ro (a1.map (cP2 cI_i64))), (2, .po 0 0), (7, .i s4.2), (8, .i s4.1), (9, .po 1 0), (21, .ro (a1.map (cP2 cI_i64))), (22, .i (a1.length : Int)), (23, .i s4.1)]⟩, [.lv 2 [.i a0.Actuators, .ro (a0.Steps.map cSStep)], .lv 2 [.i v7.1, .i v7.2]]⟩ ?_
          refine W_seq ?_
          refine W_gh ?_
          refine W_block ?_
          refine W_seq ?_
          refine W_cut ⟨⟨85, [(1, .ro (a1.map (cP2 cI_i64))), (2, .po 0 0), (7, .i s4.2), (8, .i s4.1), (9, .po 1 0), (21, .ro (a1.map (cP2 cI_i64))), (22, .i (a1.length : Int)), (23, .i s4.1), (28, .bool ((decide ((minI v7.1 v7.2) < 0)) || (decide ((maxI v7.1 v7.2) ≥ (a0.Steps.length : Int)))))]⟩, [.lv 2 [.i a0.Actuators, .ro (a0.Steps.map cSStep)], .lv 2 [.i v7.1, .i v7.2]]⟩ ?_ ?_
          · generalize e_g8 : ((decide ((minI v7.1 v7.2) < 0)) || (decide ((maxI v7.1 v7.2) ≥ (a0.Steps.length : Int)))) = g8
            refine W_gh ?_
            refine W_reg ?_
            refine O_p 7 ?_
            refine O_fork (n := 35) (decide ((minI v7.1 v7.2) < 0)) (by kernel_rfl) (fun c9 => ?_) (fun c9 => ?_)
            · skip
              refine O_p 11 ?_
              refine O_nil ?_
              refine Gh_e ⟨⟨85, [(1, .ro (a1.map (cP2 cI_i64))), (2, .po 0 0), (7, .i s4.2), (8, .i s4.1), (9, .po 1 0), (21, .ro (a1.map (cP2 cI_i64))), (22, .i (a1.length : Int)), (23, .i s4.1), (28, .bool true)]⟩, [.lv 2 [.i a0.Actuators, .ro (a0.Steps.map cSStep)], .lv 2 [.i v7.1, .i v7.2]]⟩ ?_
              have q := e_g8; simp only [c2, c3, c6, c9, cond_true, cond_false, Bool.true_and, Bool.false_and, Bool.true_or, Bool.false_or] at q; subst q
              show _ = _
              kernel_rfl
            · skip
              refine O_p 7 ?_
              refine O_len (l := a0.Steps) cSStep (by kernel_rfl) (by kernel_rfl) ?_
              refine O_p 3 ?_
              refine O_nil ?_
              refine Gh_e ⟨⟨85, [(1, .ro (a1.map (cP2 cI_i64))), (2, .po 0 0), (7, .i s4.2), (8, .i s4.1), (9, .po 1 0), (21, .ro (a1.map (cP2 cI_i64))), (22, .i (a1.length : Int)), (23, .i s4.1), (28, .bool (decide ((maxI v7.1 v7.2) ≥ (a0.Steps.length : Int))))]⟩, [.lv 2 [.i a0.Actuators, .ro (a0.Steps.map cSStep)], .lv 2 [.i v7.1, .i v7.2]]⟩ ?_
              have q := e_g8; simp only [c2, c3, c6, c9, cond_true, cond_false, Bool.true_and, Bool.false_and, Bool.true_or, Bool.false_or] at q; subst q
              show _ = _
              kernel_rfl
          · refine W_gh ?_
            refine W_cond (c := ((decide ((minI v7.1 v7.2) < 0)) || (decide ((maxI v7.1 v7.2) ≥ (a0.Steps.length : Int))))) (by kernel_rfl) (fun c10 => ?_) (fun c10 => ?_)
            · replace h := fork_t c10 h
              refine W_seq ?_
              refine W_reg ?_
              refine O_p 2 ?_
              refine O_nil ?_
              refine W_ret ?_
              replace h := Option.some.inj h; subst h
              refine ⟨_, rfl, fun h => ?_⟩
              replace h := Option.some.inj h; subst h
              exact Fin_free (l := [.i 0, .i 2]) (by kernel_rfl) (by kernel_rfl) rfl
            · replace h := fork_f c10 h
              refine W_seq ?_
              refine W_cut ⟨⟨85, [(1, .ro (a1.map (cP2 cI_i64))), (2, .po 0 0), (9, .po 1 0), (21, .ro (a1.map (cP2 cI_i64))), (22, .i (a1.length : Int)), (23, .i s4.1), (28, .bool ((decide ((minI v7.1 v7.2) < 0)) || (decide ((maxI v7.1 v7.2) ≥ (a0.Steps.length : Int))))), (46, .bool ((decide (v7.1 ≥ v7.2)) || ((decide (s4.1 > 0)) && (decide (v7.1 < s4.2)))))]⟩, [.lv 2 [.i a0.Actuators, .ro (a0.Steps.map cSStep)], .lv 2 [.i v7.1, .i v7.2]]⟩ ?_ ?_
              · generalize e_g11 : ((decide (v7.1 ≥ v7.2)) || ((decide (s4.1 > 0)) && (decide (v7.1 < s4.2)))) = g11
                refine W_gh ?_
                refine W_reg ?_
                refine O_p 6 ?_
                refine O_fork (n := 52) (decide (v7.1 ≥ v7.2)) (by kernel_rfl) (fun c12 => ?_) (fun c12 => ?_)
                · skip
                  refine O_p 10 ?_
                  refine O_nil ?_
                  refine Gh_e ⟨⟨85, [(1, .ro (a1.map (cP2 cI_i64))), (2, .po 0 0), (9, .po 1 0), (21, .ro (a1.map (cP2 cI_i64))), (22, .i (a1.length : Int)), (23, .i s4.1), (28, .bool ((decide ((minI v7.1 v7.2) < 0)) || (decide ((maxI v7.1 v7.2) ≥ (a0.Steps.length : Int))))), (46, .bool true)]⟩, [.lv 2 [.i a0.Actuators, .ro (a0.Steps.map cSStep)], .lv 2 [.i v7.1, .i v7.2]]⟩ ?_
                  have q := e_g11; simp only [c2, c3, c6, c10, c12, cond_true, cond_false, Bool.true_and, Bool.false_and, Bool.true_or, Bool.false_or] at q; subst q
                  show _ = _
                  kernel_rfl
                · skip
                  refine O_p 3 ?_
                  refine O_fork (n := 55) (decide (s4.1 > 0)) (by kernel_rfl) (fun c13 => ?_) (fun c13 => ?_)
                  · skip
                    refine O_p 7 ?_
                    refine O_nil ?_
                    refine Gh_e ⟨⟨85, [(1, .ro (a1.map (cP2 cI_i64))), (2, .po 0 0), (9, .po 1 0), (21, .ro (a1.map (cP2 cI_i64))), (22, .i (a1.length : Int)), (23, .i s4.1), (28, .bool ((decide ((minI v7.1 v7.2) < 0)) || (decide ((maxI v7.1 v7.2) ≥ (a0.Steps.length : Int))))), (46, .bool (decide (v7.1 < s4.2)))]⟩, [.lv 2 [.i a0.Actuators, .ro (a0.Steps.map cSStep)], .lv 2 [.i v7.1, .i v7.2]]⟩ ?_
                    have q := e_g11; simp only [c2, c3, c6, c10, c12, c13, cond_true, cond_false, Bool.true_and, Bool.false_and, Bool.true_or, Bool.false_or] at q; subst q
                    show _ = _
                    kernel_rfl
                  · skip
                    refine O_p 7 ?_
                    refine O_nil ?_
                    refine Gh_e ⟨⟨85, [(1, .ro (a1.map (cP2 cI_i64))), (2, .po 0 0), (9, .po 1 0), (21, .ro (a1.map (cP2 cI_i64))), (22, .i (a1.length : Int)), (23, .i s4.1), (28, .bool ((decide ((minI v7.1 v7.2) < 0)) || (decide ((maxI v7.1 v7.2) ≥ (a0.Steps.length : Int))))), (46, .bool false)]⟩, [.lv 2 [.i a0.Actuators, .ro (a0.Steps.map cSStep)], .lv 2 [.i v7.1, .i v7.2]]⟩ ?_
                    have q := e_g11; simp only [c2, c3, c6, c10, c12, c13, cond_true, cond_false, Bool.true_and, Bool.false_and, Bool.true_or, Bool.false_or] at q; subst q
                    show _ = _
                    kernel_rfl
              · refine W_gh ?_
                refine W_cond (c := ((decide (v7.1 ≥ v7.2)) || ((decide (s4.1 > 0)) && (decide (v7.1 < s4.2))))) (by kernel_rfl) (fun c14 => ?_) (fun c14 => ?_)
                · replace h := fork_t c14 h
                  refine W_seq ?_
                  refine W_reg ?_
                  refine O_p 2 ?_
                  refine O_nil ?_
                  refine W_ret ?_
                  replace h := Option.some.inj h; subst h
                  refine ⟨_, rfl, fun h => ?_⟩
                  replace h := Option.some.inj h; subst h
                  exact Fin_free (l := [.i 0, .i 9]) (by kernel_rfl) (by kernel_rfl) rfl
                · replace h := fork_f c14 h
                  refine W_seq ?_
                  refine W_gh ?_
                  refine W_draw ?_
                  refine O_p 4 ?_
                  refine O_idx (kd := .i64) cSStep h (fun _ => rfl) (by kernel_rfl) (by kernel_rfl) (by kernel_rfl) (fun v15 e_v15 h => ?_)
                  refine O_p 1 ?_
                  refine O_call (fun v => .int .u64 v) h (.inr rfl) (ys := [.agg (cSStep v15)]) (fun _ e => p36 _ _ e) (by kernel_rfl) (by kernel_rfl) (bels_cons (okSStep.bel _) rfl) (fun v16 e_v16 h => ?_)
                  refine O_p 4 ?_
                  refine O_idx (kd := .i64) cSStep h (fun _ => rfl) (by kernel_rfl) (by kernel_rfl) (by kernel_rfl) (fun v17 e_v17 h => ?_)
                  refine O_p 1 ?_
                  refine O_call (fun v => .int .u64 v) h (.inr rfl) (ys := [.agg (cSStep v17)]) (fun _ e => p36 _ _ e) (by kernel_rfl) (by kernel_rfl) (bels_cons (okSStep.bel _) rfl) (fun v18 e_v18 h => ?_)
                  refine O_p 3 ?_
                  refine O_nil ?_
                  refine Gh_e ⟨⟨85, [(1, .ro (a1.map (cP2 cI_i64))), (2, .po 0 0), (9, .po 1 0), (21, .ro (a1.map (cP2 cI_i64))), (22, .i (a1.length : Int)), (23, .i s4.1), (28, .bool ((decide ((minI v7.1 v7.2) < 0)) || (decide ((maxI v7.1 v7.2) ≥ (a0.Steps.length : Int))))), (46, .bool ((decide (v7.1 ≥ v7.2)) || ((decide (s4.1 > 0)) && (decide (v7.1 < s4.2))))), (62, .bool ((andI .u64 v16 v18) == 0))]⟩, [.lv 2 [.i a0.Actuators, .ro (a0.Steps.map cSStep)], .lv 2 [.i v7.1, .i v7.2]]⟩ ?_
                  refine W_gh ?_
                  refine W_cond (c := ((andI .u64 v16 v18) == 0)) (by kernel_rfl) (fun c19 => ?_) (fun c19 => ?_)
                  · replace h := fork_t c19 h
                    refine W_seq ?_
                    refine W_reg ?_
                    refine O_p 2 ?_
                    refine O_nil ?_
                    refine W_ret ?_
                    replace h := Option.some.inj h; subst h
                    refine ⟨_, rfl, fun h => ?_⟩
                    replace h := Option.some.inj h; subst h
                    exact Fin_free (l := [.i 0, .i 15]) (by kernel_rfl) (by kernel_rfl) rfl
                  · replace h := fork_f c19 h
                    refine W_skip ?_
                    refine Gh_e ⟨⟨85, [(1, .ro (a1.map (cP2 cI_i64))), (2, .po 0 0), (9, .po 1 0), (21, .ro (a1.map (cP2 cI_i64))), (22, .i (a1.length : Int)), (23, .i s4.1), (28, .bool ((decide ((minI v7.1 v7.2) < 0)) || (decide ((maxI v7.1 v7.2) ≥ (a0.Steps.length : Int))))), (46, .bool ((decide (v7.1 ≥ v7.2)) || ((decide (s4.1 > 0)) && (decide (v7.1 < s4.2)))))]⟩, [.lv 2 [.i a0.Actuators, .ro (a0.Steps.map cSStep)], .lv 2 [.i v7.1, .i v7.2]]⟩ ?_
                    refine Gh_e ⟨⟨85, [(1, .ro (a1.map (cP2 cI_i64))), (2, .po 0 0), (9, .po 1 0), (21, .ro (a1.map (cP2 cI_i64))), (22, .i (a1.length : Int)), (23, .i s4.1), (28, .bool ((decide ((minI v7.1 v7.2) < 0)) || (decide ((maxI v7.1 v7.2) ≥ (a0.Steps.length : Int)))))]⟩, [.lv 2 [.i a0.Actuators, .ro (a0.Steps.map cSStep)], .lv 2 [.i v7.1, .i v7.2]]⟩ ?_
                    refine Gh_e ⟨⟨85, [(1, .ro (a1.map (cP2 cI_i64))), (2, .po 0 0), (9, .po 1 0), (21, .ro (a1.map (cP2 cI_i64))), (22, .i (a1.length : Int)), (23, .i s4.1)]⟩, [.lv 2 [.i a0.Actuators, .ro (a0.Steps.map cSStep)], .lv 2 [.i v7.1, .i v7.2]]⟩ ?_
                    refine Gh_e ⟨⟨85, [(1, .ro (a1.map (cP2 cI_i64))), (2, .po 0 0), (9, .po 1 0), (21, .ro (a1.map (cP2 cI_i64))), (22, .i (a1.length : Int)), (23, .i s4.1)]⟩, [.lv 2 [.i a0.Actuators, .ro (a0.Steps.map cSStep)], .lv 2 [.i v7.1, .i v7.2]]⟩ ?_
                    refine W_gh ?_
                    refine W_reg ?_
                    refine O_p 3 ?_
                    refine O_nil ?_
                    refine Gh_e ⟨⟨85, [(1, .ro (a1.map (cP2 cI_i64))), (2, .po 0 0), (7, .i v7.2), (21, .ro (a1.map (cP2 cI_i64))), (22, .i (a1.length : Int)), (23, .i s4.1)]⟩, [.lv 2 [.i a0.Actuators, .ro (a0.Steps.map cSStep)], .lv 2 [.i v7.1, .i v7.2]]⟩ ?_
                    refine Gh_one (s1 := ⟨⟨85, [(1, .ro (a1.map (cP2 cI_i64))), (2, .po 0 0), (7, .i v7.2), (21, .ro (a1.map (cP2 cI_i64))), (22, .i (a1.length : Int)), (23, .i s4.1)]⟩, [.lv 2 [.i a0.Actuators, .ro (a0.Steps.map cSStep)], .lv 2 [.i v7.1, .i v7.2]]⟩) (by kernel_rfl) ?_
                    refine Gh_at (s1 := ⟨⟨85, [(1, .ro (a1.map (cP2 cI_i64))), (2, .po 0 0), (7, .i v7.2), (21, .ro (a1.map (cP2 cI_i64))), (22, .i (a1.length : Int)), (23, .i s4.1)]⟩, [.lv 2 [.i a0.Actuators, .ro (a0.Steps.map cSStep)], .lv 2 [.i v7.1, .i v7.2]]⟩) (by kernel_rfl) ?_
                    refine Gh_trunc (s1 := ⟨⟨85, [(1, .ro (a1.map (cP2 cI_i64))), (2, .po 0 0), (7, .i v7.2), (21, .ro (a1.map (cP2 cI_i64))), (22, .i (a1.length : Int)), (23, .i s4.1)]⟩, [.lv 2 [.i a0.Actuators, .ro (a0.Steps.map cSStep)]]⟩) (by kernel_rfl) (tb_free (ro_bel (okP2 okI_i64).bel _) (tb_ref rfl (tb_free rfl (tb_free (ro_bel (okP2 okI_i64).bel _) (tb_free rfl (tb_free rfl rfl)))))) (H1 := [.lv 2 [.i a0.Actuators, .ro (a0.Steps.map cSStep)]]) (by kernel_rfl) (ob_boxn (bn_free rfl (bn_free (ro_bel okSStep.bel _) rfl)) rfl) (by kernel_rfl) ?_
                    refine Gh_nil ?_
                    refine W_gh ?_
                    refine W_reg ?_
                    refine O_p 2 ?_
                    refine O_nil ?_
                    refine Gh_e ⟨⟨85, [(1, .ro (a1.map (cP2 cI_i64))), (2, .po 0 0), (7, .i v7.2), (21, .ro (a1.map (cP2 cI_i64))), (22, .i (a1.length : Int)), (23, .i (addI .i64 s4.1 1))]⟩, [.lv 2 [.i a0.Actuators, .ro (a0.Steps.map cSStep)]]⟩ ?_
                    refine Gh_one (s1 := ⟨⟨85, [(1, .ro (a1.map (cP2 cI_i64))), (2, .po 0 0), (7, .i v7.2), (21, .ro (a1.map (cP2 cI_i64))), (22, .i (a1.length : Int)), (23, .i (addI .i64 s4.1 1))]⟩, [.lv 2 [.i a0.Actuators, .ro (a0.Steps.map cSStep)]]⟩) (by kernel_rfl) ?_
                    refine Gh_trunc0 (by kernel_rfl) ?_
                    refine Gh_nil ?_
                    replace h := Option.some.inj h; subst h
                    exact ⟨_, rfl, by kernel_rfl⟩
        · replace h := fork_f c6 h
          refine W_exit ?_
          refine X_hit ?_
          refine Gh_one (s1 := ⟨⟨85, [(1, .ro (a1.map (cP2 cI_i64)))]⟩, [.lv 2 [.i a0.Actuators, .ro (a0.Steps.map cSStep)]]⟩) (by kernel_rfl) ?_
          refine Gh_trunc0 (by kernel_rfl) ?_
          refine Gh_nil ?_
          replace h := Option.some.inj h; subst h
          exact ⟨_, rfl, by kernel_rfl⟩
      · refine W_seq ?_
        refine W_gh ?_
        refine W_reg ?_
        refine O_p 1 ?_
        refine O_len (l := a1) (cP2 cI_i64) (by kernel_rfl) (by kernel_rfl) ?_
        refine O_p 3 ?_
        refine O_nil ?_
        refine Gh_e ⟨⟨85, [(4, .i (addI .i64 (a1.length : Int) 1)), (5, .i 0)]⟩, [.lv 2 [.i a0.Actuators, .ro (a0.Steps.map cSStep)]]⟩ ?_
        refine W_ret ?_
        replace h := Option.some.inj h; subst h
        exact Fin_free (l := [.i (addI .i64 (a1.length : Int) 1), .i 0]) (by kernel_rfl) (by kernel_rfl) rfl

theorem p12  (r : Bool) (h : m12  = some r) : Pt E0 hp 12 [] (.bool r) := by
  unfold m12 at h
  refine Pt_W (fn12) rfl (by decide) ?_
  refine W_seq ?_
  refine W_gh ?_
  refine W_reg ?_
  refine O_p 1 ?_
  refine O_nil ?_
  refine Gh_e ⟨⟨90, []⟩, []⟩ ?_
  refine W_seq ?_
  refine W_gh ?_
  refine W_reg ?_
  refine O_call (fun v => .agg [.i v.Actuators, .ro (v.Steps.map cSStep)]) h (.inr rfl) (ys := [.str [65, 43, 59, 32, 66, 43, 59, 32, 66, 45, 59, 32, 65, 45]]) (fun _ e => p34 _ _ e) (by kernel_rfl) (by kernel_rfl) (bels_cons rfl rfl) (fun v1 e_v1 h => ?_)
  refine O_call (fun v => .tup [.ro (v.1.map cI_i64), .i v.2]) h (.inr rfl) (ys := [.agg (cSSequence v1)]) (fun _ e => p16 _ _ e) (by kernel_rfl) (by kernel_rfl) (bels_cons (okSSequence.bel _) rfl) (fun v2 e_v2 h => ?_)
  refine O_p 5 ?_
  refine O_nil ?_
  refine Gh_e ⟨⟨90, [(1, .ro (v2.1.map cI_i64)), (2, .i v2.2)]⟩, []⟩ ?_
  refine W_seq ?_
  refine W_gh ?_
  refine W_reg ?_
  refine O_call (fun v => .agg [.i v.Actuators, .ro (v.Steps.map cSStep)]) h (.inr rfl) (ys := [.str [65, 43, 59, 32, 65, 45, 59, 32, 66, 43, 59, 32, 66, 45]]) (fun _ e => p34 _ _ e) (by kernel_rfl) (by kernel_rfl) (bels_cons rfl rfl) (fun v3 e_v3 h => ?_)
  refine O_call (fun v => .tup [.ro (v.1.map cI_i64), .i v.2]) h (.inr rfl) (ys := [.agg (cSSequence v3)]) (fun _ e => p16 _ _ e) (by kernel_rfl) (by kernel_rfl) (bels_cons (okSSequence.bel _) rfl) (fun v4 e_v4 h => ?_)
  refine O_p 5 ?_
  refine O_nil ?_
  refine Gh_e ⟨⟨90, [(1, .ro (v2.1.map cI_i64)), (2, .i v2.2), (3, .ro (v4.1.map cI_i64)), (4, .i v4.2)]⟩, []⟩ ?_
  refine W_seq ?_
  refine W_gh ?_
  refine W_reg ?_
  refine O_call (fun v => .agg [.i v.Actuators, .ro (v.Steps.map cSStep)]) h (.inr rfl) (ys := [.str [65, 43, 59, 32, 65, 45, 59, 32, 66, 43, 59, 32, 66, 45]]) (fun _ e => p34 _ _ e) (by kernel_rfl) (by kernel_rfl) (bels_cons rfl rfl) (fun v5 e_v5 h => ?_)
  refine O_call (fun v => .tup [.ro (v.1.map cI_i64), .i v.2]) h (.inr rfl) (ys := [.agg (cSSequence v5)]) (fun _ e => p19 _ _ e) (by kernel_rfl) (by kernel_rfl) (bels_cons (okSSequence.bel _) rfl) (fun v6 e_v6 h => ?_)
  refine O_p 5 ?_
  refine O_nil ?_
  refine Gh_e ⟨⟨90, [(1, .ro (v2.1.map cI_i64)), (2, .i v2.2), (3, .ro (v4.1.map cI_i64)), (4, .i v4.2), (5, .ro (v6.1.map cI_i64)), (6, .i v6.2)]⟩, []⟩ ?_
  refine W_seq ?_
  refine W_gh ?_
  refine W_reg ?_
  refine O_call (fun v => .agg [.i v.Actuators, .ro (v.Steps.map cSStep)]) h (.inr rfl) (ys := [.str [65, 43, 59, 32, 66, 43, 59, 32, 65, 45, 59, 32, 67, 43, 59, 32, 66, 45, 59, 32, 67, 45]]) (fun _ e => p34 _ _ e) (by kernel_rfl) (by kernel_rfl) (bels_cons rfl rfl) (fun v7 e_v7 h => ?_)
  refine O_call (fun v => .tup [.ro (v.1.map cI_i64), .i v.2]) h (.inr rfl) (ys := [.agg (cSSequence v7)]) (fun _ e => p16 _ _ e) (by kernel_rfl) (by kernel_rfl) (bels_cons (okSSequence.bel _) rfl) (fun v8 e_v8 h => ?_)
  refine O_p 5 ?_
  refine O_nil ?_
  refine Gh_e ⟨⟨90, [(1, .ro (v2.1.map cI_i64)), (2, .i v2.2), (3, .ro (v4.1.map cI_i64)), (4, .i v4.2), (5, .ro (v6.1.map cI_i64)), (6, .i v6.2), (7, .ro (v8.1.map cI_i64)), (8, .i v8.2)]⟩, []⟩ ?_
  refine W_seq ?_
  refine W_seq ?_
  refine W_joinS (fun v : Bool => ⟨⟨90, [(62, .bool v)]⟩, []⟩) h (fun w h => ?_) (fun w9 e_w9 h => ?_)
  · refine W_gh ?_
    refine W_reg ?_
    refine O_p 9 ?_
    refine O_fork (n := 39) ((addI .i64 (addI .i64 (addI .i64 v2.2 v4.2) v6.2) v8.2) != 0) (by kernel_rfl) (fun c10 => ?_) (fun c10 => ?_)
    · replace h := fork_t c10 h
      refine O_p 23 ?_
      refine O_nil ?_
      refine Gh_one (s1 := ⟨⟨90, [(62, .bool true)]⟩, []⟩) (by kernel_rfl) ?_
      refine Gh_trunc0 (by kernel_rfl) ?_
      refine Gh_nil ?_
      replace h := Option.some.inj h; subst h
      show _ = _
      kernel_rfl
    · replace h := fork_f c10 h
      refine O_p 2 ?_
      refine O_lent (fun v => .bool v) h (.inr rfl) (ys := [.ro (v2.1.map cI_i64), .ro (([0, 2] : List Int).map cI_i64)]) (fun _ e => p18 _ _ _ e) (by kernel_rfl) (snaps_of (xs := [.ro (v2.1.map cI_i64), .own 0 2 0 2]) (by kernel_rfl) (mapO_cons (pk_free (ro_bel okI_i64.bel _)) (mapO_cons (pk_own (d := 5) (id := 0) (nl := .norm) (sz := 1) (l := ([0, 2] : List Int)) okI_i64.bel (by kernel_rfl) rfl) rfl))) (fun _ => rfl) (fun v11 e_v11 h => ?_)
      refine O_p 3 ?_
      refine O_fork (n := 45) (!v11) (by kernel_rfl) (fun c12 => ?_) (fun c12 => ?_)
      · replace h := fork_t c12 h
        refine O_p 17 ?_
        refine O_nil ?_
        refine Gh_one (s1 := ⟨⟨90, [(62, .bool true)]⟩, [.live .norm 1 (([0, 2] : List Int).map cI_i64)]⟩) (by kernel_rfl) ?_
        refine Gh_at (s1 := ⟨⟨90, [(62, .bool true)]⟩, [.live .norm 1 (([0, 2] : List Int).map cI_i64)]⟩) (by kernel_rfl) ?_
        refine Gh_trunc (s1 := ⟨⟨90, [(62, .bool true)]⟩, []⟩) (by kernel_rfl) (tb_free rfl rfl) (H1 := []) (by kernel_rfl) rfl (by kernel_rfl) ?_
        refine Gh_nil ?_
        replace h := Option.some.inj h; subst h
        show _ = _
        kernel_rfl
      · replace h := fork_f c12 h
        refine O_p 2 ?_
        refine O_lent (fun v => .bool v) h (.inr rfl) (ys := [.ro (v4.1.map cI_i64), .ro (([0, 1, 3] : List Int).map cI_i64)]) (fun _ e => p18 _ _ _ e) (by kernel_rfl) (snaps_of (xs := [.ro (v4.1.map cI_i64), .own 1 3 0 3]) (by kernel_rfl) (mapO_cons (pk_free (ro_bel okI_i64.bel _)) (mapO_cons (pk_own (d := 5) (id := 1) (nl := .norm) (sz := 1) (l := ([0, 1, 3] : List Int)) okI_i64.bel (by kernel_rfl) rfl) rfl))) (fun _ => rfl) (fun v13 e_v13 h => ?_)
        refine O_p 3 ?_
        refine O_fork (n := 51) (!v13) (by kernel_rfl) (fun c14 => ?_) (fun c14 => ?_)
        · replace h := fork_t c14 h
          refine O_p 11 ?_
          refine O_nil ?_
          refine Gh_one (s1 := ⟨⟨90, [(62, .bool true)]⟩, [.live .norm 1 (([0, 2] : List Int).map cI_i64), .live .norm 1 (([0, 1, 3] : List Int).map cI_i64)]⟩) (by kernel_rfl) ?_
          refine Gh_at (s1 := ⟨⟨90, [(62, .bool true)]⟩, [.live .norm 1 (([0, 2] : List Int).map cI_i64), .live .norm 1 (([0, 1, 3] : List Int).map cI_i64)]⟩) (by kernel_rfl) ?_
          refine Gh_trunc (s1 := ⟨⟨90, [(62, .bool true)]⟩, []⟩) (by kernel_rfl) (tb_free rfl rfl) (H1 := []) (by kernel_rfl) rfl (by kernel_rfl) ?_
          refine Gh_nil ?_
          replace h := Option.some.inj h; subst h
          show _ = _
          kernel_rfl
        · replace h := fork_f c14 h
          refine O_p 2 ?_
          refine O_lent (fun v => .bool v) h (.inr rfl) (ys := [.ro (v6.1.map cI_i64), .ro (([1, 3] : List Int).map cI_i64)]) (fun _ e => p18 _ _ _ e) (by kernel_rfl) (snaps_of (xs := [.ro (v6.1.map cI_i64), .own 2 2 0 2]) (by kernel_rfl) (mapO_cons (pk_free (ro_bel okI_i64.bel _)) (mapO_cons (pk_own (d := 5) (id := 2) (nl := .norm) (sz := 1) (l := ([1, 3] : List Int)) okI_i64.bel (by kernel_rfl) rfl) rfl))) (fun _ => rfl) (fun v15 e_v15 h => ?_)
          refine O_p 3 ?_
          refine O_fork (n := 57) (!v15) (by kernel_rfl) (fun c16 => ?_) (fun c16 => ?_)
          · replace h := fork_t c16 h
            refine O_p 5 ?_
            refine O_nil ?_
            refine Gh_one (s1 := ⟨⟨90, [(62, .bool true)]⟩, [.live .norm 1 (([0, 2] : List Int).map cI_i64), .live .norm 1 (([0, 1, 3] : List Int).map cI_i64), .live .norm 1 (([1, 3] : List Int).map cI_i64)]⟩) (by kernel_rfl) ?_
            refine Gh_at (s1 := ⟨⟨90, [(62, .bool true)]⟩, [.live .norm 1 (([0, 2] : List Int).map cI_i64), .live .norm 1 (([0, 1, 3] : List Int).map cI_i64), .live .norm 1 (([1, 3] : List Int).map cI_i64)]⟩) (by kernel_rfl) ?_
            refine Gh_trunc (s1 := ⟨⟨90, [(62, .bool true)]⟩, []⟩) (by kernel_rfl) (tb_free rfl rfl) (H1 := []) (by kernel_rfl) rfl (by kernel_rfl) ?_
            refine Gh_nil ?_
            replace h := Option.some.inj h; subst h
            show _ = _
            kernel_rfl
          · replace h := fork_f c16 h
            refine O_p 2 ?_
            refine O_lent (fun v => .bool v) h (.inr rfl) (ys := [.ro (v8.1.map cI_i64), .ro (([0, 2, 5] : List Int).map cI_i64)]) (fun _ e => p18 _ _ _ e) (by kernel_rfl) (snaps_of (xs := [.ro (v8.1.map cI_i64), .own 3 3 0 3]) (by kernel_rfl) (mapO_cons (pk_free (ro_bel okI_i64.bel _)) (mapO_cons (pk_own (d := 5) (id := 3) (nl := .norm) (sz := 1) (l := ([0, 2, 5] : List Int)) okI_i64.bel (by kernel_rfl) rfl) rfl))) (fun _ => rfl) (fun v17 e_v17 h => ?_)
            refine O_p 2 ?_
            refine O_nil ?_
            refine Gh_one (s1 := ⟨⟨90, [(62, .bool (!v17))]⟩, [.live .norm 1 (([0, 2] : List Int).map cI_i64), .live .norm 1 (([0, 1, 3] : List Int).map cI_i64), .live .norm 1 (([1, 3] : List Int).map cI_i64), .live .norm 1 (([0, 2, 5] : List Int).map cI_i64)]⟩) (by kernel_rfl) ?_
            refine Gh_at (s1 := ⟨⟨90, [(62, .bool (!v17))]⟩, [.live .norm 1 (([0, 2] : List Int).map cI_i64), .live .norm 1 (([0, 1, 3] : List Int).map cI_i64), .live .norm 1 (([1, 3] : List Int).map cI_i64), .live .norm 1 (([0, 2, 5] : List Int).map cI_i64)]⟩) (by kernel_rfl) ?_
            refine Gh_trunc (s1 := ⟨⟨90, [(62, .bool (!v17))]⟩, []⟩) (by kernel_rfl) (tb_free rfl rfl) (H1 := []) (by kernel_rfl) rfl (by kernel_rfl) ?_
            refine Gh_nil ?_
            replace h := Option.some.inj h; subst h
            show _ = _
            kernel_rfl
  · refine W_gh ?_
    refine W_cond (c := w9) (by kernel_rfl) (fun c18 => ?_) (fun c18 => ?_)
    · replace h := fork_t c18 h
      refine W_seq ?_
      refine W_reg ?_
      refine O_p 1 ?_
      refine O_nil ?_
      refine W_ret ?_
      replace h := Option.some.inj h; subst h
      exact Fin_free (l := [.bool false]) (by kernel_rfl) (by kernel_rfl) rfl
    · replace h := fork_f c18 h
      refine W_skip ?_
      refine Gh_e ⟨⟨90, []⟩, []⟩ ?_
      refine W_seq ?_
      refine W_gh ?_
      refine W_reg ?_
      refine O_call (fun v => .agg [.i v.Actuators, .ro (v.Steps.map cSStep)]) h (.inr rfl) (ys := [.str [65, 43, 59, 32, 66, 43, 59, 32, 66, 45, 59, 32, 65, 45]]) (fun _ e => p34 _ _ e) (by kernel_rfl) (by kernel_rfl) (bels_cons rfl rfl) (fun v19 e_v19 h => ?_)
      refine O_p 2 ?_
      refine O_lent (fun v => .tup [.i v.1, .i v.2]) h (.inr rfl) (ys := [.agg (cSSequence v19), .ro (([(1, 2)] : List (Int × Int)).map (cP2 cI_i64))]) (fun _ e => p13 _ _ _ e) (by kernel_rfl) (snaps_of (xs := [.agg [.i v19.Actuators, .ro (v19.Steps.map cSStep)], .own 0 1 0 1]) (by kernel_rfl) (mapO_cons (pk_free (okSSequence.bel _)) (mapO_cons (pk_own (d := 5) (id := 0) (nl := .norm) (sz := 2) (l := ([(1, 2)] : List (Int × Int))) (okP2 okI_i64).bel (by kernel_rfl) rfl) rfl))) (fun _ => rfl) (fun v20 e_v20 h => ?_)
      refine O_p 5 ?_
      refine O_nil ?_
      refine Gh_one (s1 := ⟨⟨90, [(2, .i v20.2), (9, .i v20.1)]⟩, [.live .norm 2 (([(1, 2)] : List (Int × Int)).map (cP2 cI_i64))]⟩) (by kernel_rfl) ?_
      refine Gh_at (s1 := ⟨⟨90, [(2, .i v20.2), (9, .i v20.1)]⟩, [.live .norm 2 (([(1, 2)] : List (Int × Int)).map (cP2 cI_i64))]⟩) (by kernel_rfl) ?_
      refine Gh_trunc (s1 := ⟨⟨90, [(2, .i v20.2), (9, .i v20.1)]⟩, []⟩) (by kernel_rfl) (tb_free rfl (tb_free rfl rfl)) (H1 := []) (by kernel_rfl) rfl (by kernel_rfl) ?_
      refine Gh_nil ?_
      refine W_seq ?_
      refine W_gh ?_
      refine W_reg ?_
      refine O_call (fun v => .agg [.i v.Actuators, .ro (v.Steps.map cSStep)]) h (.inr rfl) (ys := [.str [65, 43, 59, 32, 66, 43, 59, 32, 65, 45, 59, 32, 67, 43, 59, 32, 66, 45, 59, 32, 67, 45]]) (fun _ e => p34 _ _ e) (by kernel_rfl) (by kernel_rfl) (bels_cons rfl rfl) (fun v21 e_v21 h => ?_)
      refine O_p 3 ?_
      refine O_lent (fun v => .tup [.i v.1, .i v.2]) h (.inr rfl) (ys := [.agg (cSSequence v21), .ro (([(0, 2), (3, 5)] : List (Int × Int)).map (cP2 cI_i64))]) (fun _ e => p13 _ _ _ e) (by kernel_rfl) (snaps_of (xs := [.agg [.i v21.Actuators, .ro (v21.Steps.map cSStep)], .own 0 2 0 2]) (by kernel_rfl) (mapO_cons (pk_free (okSSequence.bel _)) (mapO_cons (pk_own (d := 5) (id := 0) (nl := .norm) (sz := 2) (l := ([(0, 2), (3, 5)] : List (Int × Int))) (okP2 okI_i64).bel (by kernel_rfl) rfl) rfl))) (fun _ => rfl) (fun v22 e_v22 h => ?_)
      refine O_p 5 ?_
      refine O_nil ?_
      refine Gh_one (s1 := ⟨⟨90, [(2, .i v20.2), (4, .i v22.2), (9, .i v20.1), (10, .i v22.1)]⟩, [.live .norm 2 (([(0, 2), (3, 5)] : List (Int × Int)).map (cP2 cI_i64))]⟩) (by kernel_rfl) ?_
      refine Gh_at (s1 := ⟨⟨90, [(2, .i v20.2), (4, .i v22.2), (9, .i v20.1), (10, .i v22.1)]⟩, [.live .norm 2 (([(0, 2), (3, 5)] : List (Int × Int)).map (cP2 cI_i64))]⟩) (by kernel_rfl) ?_
      refine Gh_trunc (s1 := ⟨⟨90, [(2, .i v20.2), (4, .i v22.2), (9, .i v20.1), (10, .i v22.1)]⟩, []⟩) (by kernel_rfl) (tb_free rfl (tb_free rfl (tb_free rfl (tb_free rfl rfl)))) (H1 := []) (by kernel_rfl) rfl (by kernel_rfl) ?_
      refine Gh_nil ?_
      refine W_seq ?_
      refine W_cut ⟨⟨90, [(0, .bool (((addI .i64 v20.2 v22.2) == 0) && ((v20.1 == 2) && (v22.1 == 3))))]⟩, []⟩ ?_ ?_
      · generalize e_g23 : (((addI .i64 v20.2 v22.2) == 0) && ((v20.1 == 2) && (v22.1 == 3))) = g23
        refine W_gh ?_
        refine W_reg ?_
        refine O_p 5 ?_
        refine O_fork (n := 82) ((addI .i64 v20.2 v22.2) == 0) (by kernel_rfl) (fun c24 => ?_) (fun c24 => ?_)
        · skip
          refine O_p 4 ?_
          refine O_fork (n := 86) (v20.1 == 2) (by kernel_rfl) (fun c25 => ?_) (fun c25 => ?_)
          · skip
            refine O_p 4 ?_
            refine O_nil ?_
            refine Gh_e ⟨⟨90, [(0, .bool (v22.1 == 3))]⟩, []⟩ ?_
            have q := e_g23; simp only [c18, c24, c25, cond_true, cond_false, Bool.true_and, Bool.false_and, Bool.true_or, Bool.false_or] at q; subst q
            show _ = _
            kernel_rfl
          · skip
            refine O_p 4 ?_
            refine O_nil ?_
            refine Gh_e ⟨⟨90, [(0, .bool false)]⟩, []⟩ ?_
            have q := e_g23; simp only [c18, c24, c25, cond_true, cond_false, Bool.true_and, Bool.false_and, Bool.true_or, Bool.false_or] at q; subst q
            show _ = _
            kernel_rfl
        · skip
          refine O_p 8 ?_
          refine O_nil ?_
          refine Gh_e ⟨⟨90, [(0, .bool false)]⟩, []⟩ ?_
          have q := e_g23; simp only [c18, c24, cond_true, cond_false, Bool.true_and, Bool.false_and, Bool.true_or, Bool.false_or] at q; subst q
          show _ = _
          kernel_rfl
      · refine W_ret ?_
        replace h := Option.some.inj h; subst h
        exact Fin_free (l := [.bool (((addI .i64 v20.2 v22.2) == 0) && ((v20.1 == 2) && (v22.1 == 3)))]) (by kernel_rfl) (by kernel_rfl) rfl

theorem p64 (a0 : Int) (r : (List (List Int))) (h : m64 a0 = some r) : Pt E0 hp 64 [.i a0] (.ro (r.map (cL cI_i64))) := by
  unfold m64 at h
  refine Pt_W (fn64) rfl (by decide) ?_
  refine W_seq ?_
  refine W_gh ?_
  refine W_reg ?_
  refine O_p 1 ?_
  refine O_nil ?_
  refine Gh_e ⟨⟨33, [(0, .i a0)]⟩, []⟩ ?_
  refine W_seq ?_
  refine W_gh ?_
  refine W_reg ?_
  refine O_p 2 ?_
  refine O_nil ?_
  refine Gh_one (s1 := ⟨⟨33, [(0, .i a0), (3, .own 0 1 0 1)]⟩, [.live .norm 1 [[.nils]]]⟩) (by kernel_rfl) ?_
  refine Gh_trunc0 (by kernel_rfl) ?_
  refine Gh_one (s1 := ⟨⟨33, [(0, .i a0), (3, .own 0 1 0 1)]⟩, [.live .norm 1 (([([] : List Int)] : List (List Int)).map (cL cI_i64))]⟩) (by kernel_rfl) ?_
  refine Gh_nil ?_
  refine W_seq ?_
  refine W_seq ?_
  refine W_reg ?_
  refine O_p 1 ?_
  refine O_nil ?_
  refine W_loopS (fun s1 : (List (List Int)) × Int => ⟨⟨33, [(0, .i a0), (3, .own 0 s1.1.length 0 s1.1.length), (4, .i s1.2)]⟩, [.live .norm 1 (s1.1.map (cL cI_i64))]⟩) (fun w2 : (List (List Int)) => ⟨⟨33, [(3, .own 0 w2.length 0 w2.length)]⟩, [.live .norm 1 (w2.map (cL cI_i64))]⟩) h (by kernel_rfl) (fun s1 c h => ?_) (fun w2 e_w2 h => ?_)
  · refine W_gh ?_
    refine W_seq ?_
    refine W_seq ?_
    refine W_gh ?_
    refine W_reg ?_
    refine O_p 3 ?_
    refine O_nil ?_
    refine Gh_e ⟨⟨33, [(0, .i a0), (3, .own 0 s1.1.length 0 s1.1.length), (4, .i s1.2), (10, .bool (decide (s1.2 < a0)))]⟩, [.live .norm 1 (s1.1.map (cL cI_i64))]⟩ ?_
    refine W_gh ?_
    refine W_cond (c := (decide (s1.2 < a0))) (by kernel_rfl) (fun c3 => ?_) (fun c3 => ?_)
    · replace h := fork_t c3 h
      refine W_skip ?_
      refine Gh_e ⟨⟨33, [(0, .i a0), (3, .own 0 s1.1.length 0 s1.1.length), (4, .i s1.2)]⟩, [.live .norm 1 (s1.1.map (cL cI_i64))]⟩ ?_
      refine W_seq ?_
      refine W_gh ?_
      refine W_block ?_
      refine W_seq ?_
      refine W_gh ?_
      refine W_reg ?_
      refine O_p 3 ?_
      refine O_nil ?_
      refine Gh_e ⟨⟨33, [(0, .i a0), (3, .own 0 s1.1.length 0 s1.1.length), (4, .i s1.2), (5, .i (s1.1.length : Int))]⟩, [.live .norm 1 (s1.1.map (cL cI_i64))]⟩ ?_
      refine W_seq ?_
      refine W_reg ?_
      refine O_p 1 ?_
      refine O_nil ?_
      refine W_loopS (fun s4 : (List (List Int)) × Int => ⟨⟨33, [(0, .i a0), (3, .own 0 s4.1.length 0 s4.1.length), (4, .i s1.2), (5, .i (s1.1.length : Int)), (6, .i s4.2)]⟩, [.live .norm 1 (s4.1.map (cL cI_i64))]⟩) (fun w5 : (List (List Int)) => ⟨⟨33, [(0, .i a0), (3, .own 0 w5.length 0 w5.length), (4, .i s1.2)]⟩, [.live .norm 1 (w5.map (cL cI_i64))]⟩) h (by kernel_rfl) (fun s4 c h => ?_) (fun w5 e_w5 h => ?_)
      · refine W_gh ?_
        refine W_seq ?_
        refine W_seq ?_
        refine W_gh ?_
        refine W_reg ?_
        refine O_p 3 ?_
        refine O_nil ?_
        refine Gh_e ⟨⟨33, [(0, .i a0), (3, .own 0 s4.1.length 0 s4.1.length), (4, .i s1.2), (5, .i (s1.1.length : Int)), (6, .i s4.2), (17, .bool (decide (s4.2 < (s1.1.length : Int))))]⟩, [.live .norm 1 (s4.1.map (cL cI_i64))]⟩ ?_
        refine W_gh ?_
        refine W_cond (c := (decide (s4.2 < (s1.1.length : Int)))) (by kernel_rfl) (fun c6 => ?_) (fun c6 => ?_)
        · replace h := fork_t c6 h
          refine W_skip ?_
          refine Gh_e ⟨⟨33, [(0, .i a0), (3, .own 0 s4.1.length 0 s4.1.length), (4, .i s1.2), (5, .i (s1.1.length : Int)), (6, .i s4.2)]⟩, [.live .norm 1 (s4.1.map (cL cI_i64))]⟩ ?_
          refine W_seq ?_
          refine W_gh ?_
          refine W_block ?_
          refine W_gh ?_
          refine W_seq ?_
          refine W_gh ?_
          refine W_reg ?_
          refine O_p 4 ?_
          refine O_iadO (kd := .i64) (id := 0) (nl := .norm) (cL cI_i64) h rfl (by kernel_rfl) (by kernel_rfl) (by kernel_rfl) (by kernel_rfl) (fun v7 e_v7 h => ?_)
          refine O_ldO (id := 0) (nl := .norm) (sz := 1) (o := 0) (cL cI_i64) e_v7 rfl (by kernel_rfl) (by kernel_rfl) (by kernel_rfl) (w := .ro (v7.map cI_i64)) (by kernel_rfl) ?_
          refine O_app (C := cI_i64) (id := 1) (nl := .norm) okI_i64 h rfl (by kernel_rfl) (by kernel_rfl) (by kernel_rfl) (by kernel_rfl) rfl (fun l8 e_l8 h => ?_)
          refine O_p 2 ?_
          refine O_app (C := cI_i64) (id := 1) (nl := .norm) okI_i64 h rfl (by kernel_rfl) (by kernel_rfl) (by kernel_rfl) (by kernel_rfl) rfl (fun l9 e_l9 h => ?_)
          refine O_nil ?_
          refine Gh_one (frz_own (id := 1) (nl := .norm) (sz := 1) (l := l9) okI_i64.bel (by kernel_rfl) (by kernel_rfl) rfl rfl (s1 := ⟨⟨33, [(0, .i a0), (3, .own 0 s4.1.length 0 s4.1.length), (4, .i s1.2), (5, .i (s1.1.length : Int)), (6, .i s4.2), (20, .own 0 s4.1.length 0 s4.1.length), (21, .own 1 0 0 0), (22, .own 0 s4.1.length 0 s4.1.length), (23, .i s4.2), (24, .pown 0 s4.1.length s4.2.toNat 0), (25, .ro (v7.map cI_i64)), (26, .own 1 l8.length 0 l8.length), (27, .i s1.2), (28, .own 2 1 0 1), (29, .ro (l9.map cI_i64))]⟩, [.live .norm 1 (s4.1.map (cL cI_i64)), .dead, .live .norm 1 (([s1.2] : List Int).map cI_i64)]⟩) (by kernel_rfl)) ?_
          refine Gh_nil ?_
          refine W_reg ?_
          refine O_p 1 ?_
          refine O_app (C := (cL cI_i64)) (id := 0) (nl := .norm) (okL okI_i64) h rfl (by kernel_rfl) (by kernel_rfl) (by kernel_rfl) (by kernel_rfl) rfl (fun l10 e_l10 h => ?_)
          refine O_p 1 ?_
          refine O_nil ?_
          refine Gh_one (s1 := ⟨⟨33, [(0, .i a0), (3, .own 0 l10.length 0 l10.length), (4, .i s1.2), (5, .i (s1.1.length : Int)), (6, .i s4.2)]⟩, [.live .norm 1 (l10.map (cL cI_i64)), .dead, .live .norm 1 (([s1.2] : List Int).map cI_i64), .live .norm 1 (([l9] : List (List Int)).map (cL cI_i64))]⟩) (by kernel_rfl) ?_
          refine Gh_at (s1 := ⟨⟨33, [(0, .i a0), (3, .own 0 l10.length 0 l10.length), (4, .i s1.2), (5, .i (s1.1.length : Int)), (6, .i s4.2)]⟩, [.live .norm 1 (l10.map (cL cI_i64)), .dead, .live .norm 1 (([s1.2] : List Int).map cI_i64), .live .norm 1 (([l9] : List (List Int)).map (cL cI_i64))]⟩) (by kernel_rfl) ?_
          refine Gh_trunc (s1 := ⟨⟨33, [(0, .i a0), (3, .own 0 l10.length 0 l10.length), (4, .i s1.2), (5, .i (s1.1.length : Int)), (6, .i s4.2)]⟩, [.live .norm 1 (l10.map (cL cI_i64))]⟩) (by kernel_rfl) (tb_free rfl (tb_ref rfl (tb_free rfl (tb_free rfl (tb_free rfl rfl))))) (H1 := [.live .norm 1 (l10.map (cL cI_i64))]) (by kernel_rfl) (ob_list (okL okI_i64).bel rfl) (by kernel_rfl) ?_
          refine Gh_nil ?_
          refine Gh_trunc0 (by kernel_rfl) ?_
          refine Gh_nil ?_
          refine W_gh ?_
          refine W_reg ?_
          refine O_p 3 ?_
          refine O_nil ?_
          refine Gh_e ⟨⟨33, [(0, .i a0), (3, .own 0 l10.length 0 l10.length), (4, .i s1.2), (5, .i (s1.1.length : Int)), (6, .i (addI .i64 s4.2 1))]⟩, [.live .norm 1 (l10.map (cL cI_i64))]⟩ ?_
          refine Gh_one (s1 := ⟨⟨33, [(0, .i a0), (3, .own 0 l10.length 0 l10.length), (4, .i s1.2), (5, .i (s1.1.length : Int)), (6, .i (addI .i64 s4.2 1))]⟩, [.live .norm 1 (l10.map (cL cI_i64))]⟩) (by kernel_rfl) ?_
          refine Gh_trunc0 (by kernel_rfl) ?_
          refine Gh_nil ?_
          replace h := Option.some.inj h; subst h
          exact ⟨_, rfl, by kernel_rfl⟩
        · replace h := fork_f c6 h
          refine W_exit ?_
          refine X_hit ?_
          refine Gh_one (s1 := ⟨⟨33, [(0, .i a0), (3, .own 0 s4.1.length 0 s4.1.length), (4, .i s1.2)]⟩, [.live .norm 1 (s4.1.map (cL cI_i64))]⟩) (by kernel_rfl) ?_
          refine Gh_trunc0 (by kernel_rfl) ?_
          refine Gh_nil ?_
          replace h := Option.some.inj h; subst h
          exact ⟨_, rfl, by kernel_rfl⟩
      · refine Gh_one (s1 := ⟨⟨33, [(0, .i a0), (3, .own 0 w5.length 0 w5.length), (4, .i s1.2)]⟩, [.live .norm 1 (w5.map (cL cI_i64))]⟩) (by kernel_rfl) ?_
        refine Gh_trunc0 (by kernel_rfl) ?_
        refine Gh_nil ?_
        refine W_gh ?_
        refine W_reg ?_
        refine O_p 3 ?_
        refine O_nil ?_
        refine Gh_e ⟨⟨33, [(0, .i a0), (3, .own 0 w5.length 0 w5.length), (4, .i (addI .i64 s1.2 1))]⟩, [.live .norm 1 (w5.map (cL cI_i64))]⟩ ?_
        refine Gh_one (s1 := ⟨⟨33, [(0, .i a0), (3, .own 0 w5.length 0 w5.length), (4, .i (addI .i64 s1.2 1))]⟩, [.live .norm 1 (w5.map (cL cI_i64))]⟩) (by kernel_rfl) ?_
        refine Gh_trunc0 (by kernel_rfl) ?_
        refine Gh_nil ?_
        replace h := Option.some.inj h; subst h
        exact ⟨_, rfl, by kernel_rfl⟩
    · replace h := fork_f c3 h
      refine W_exit ?_
      refine X_hit ?_
      refine Gh_one (s1 := ⟨⟨33, [(3, .own 0 s1.1.length 0 s1.1.length)]⟩, [.live .norm 1 (s1.1.map (cL cI_i64))]⟩) (by kernel_rfl) ?_
      refine Gh_trunc0 (by kernel_rfl) ?_
      refine Gh_nil ?_
      replace h := Option.some.inj h; subst h
      exact ⟨_, rfl, by kernel_rfl⟩
  · refine W_seq ?_
    refine W_gh ?_
    refine W_reg ?_
    refine O_p 2 ?_
    refine O_nil ?_
    refine Gh_e ⟨⟨33, [(2, .own 0 w2.length 0 w2.length)]⟩, [.live .norm 1 (w2.map (cL cI_i64))]⟩ ?_
    refine W_ret ?_
    replace h := Option.some.inj h; subst h
    exact Fin_pk (l := [.own 0 w2.length 0 w2.length]) (by kernel_rfl) (pk_own (d := 5) (id := 0) (nl := .norm) (sz := 1) (l := w2) (okL okI_i64).bel (by kernel_rfl) rfl)

theorem p65 (a0 : SSequence) (a1 : (List Int)) (a2 : Bool) (r : Int) (h : m65 a0 a1 a2 = some r) : Pt E0 hp 65 [.agg (cSSequence a0), .ro (a1.map cI_i64), .bool a2] (.i r) := by
  unfold m65 at h
  refine Pt_W (fn65) rfl (by decide) ?_
  refine W_seq ?_
  refine W_gh ?_
  refine W_reg ?_
  refine O_p 2 ?_
  refine O_nil ?_
  refine Gh_e ⟨⟨59, [(1, .ro (a1.map cI_i64)), (2, .bool a2), (3, .po 0 0)]⟩, [.lv 2 [.i a0.Actuators, .ro (a0.Steps.map cSStep)]]⟩ ?_
  refine W_seq ?_
  refine W_seq ?_
  refine W_gh ?_
  refine W_reg ?_
  refine O_p 1 ?_
  refine O_len (l := a1) cI_i64 (by kernel_rfl) (by kernel_rfl) ?_
  refine O_p 1 ?_
  refine O_nil ?_
  refine Gh_e ⟨⟨59, [(1, .ro (a1.map cI_i64)), (2, .bool a2), (3, .po 0 0), (10, .bool ((a1.length : Int) == 0))]⟩, [.lv 2 [.i a0.Actuators, .ro (a0.Steps.map cSStep)]]⟩ ?_
  refine W_gh ?_
  refine W_cond (c := ((a1.length : Int) == 0)) (by kernel_rfl) (fun c1 => ?_) (fun c1 => ?_)
  · replace h := fork_t c1 h
    refine W_seq ?_
    refine W_reg ?_
    refine O_p 1 ?_
    refine O_nil ?_
    refine W_ret ?_
    replace h := Option.some.inj h; subst h
    exact Fin_free (l := [.i 13]) (by kernel_rfl) (by kernel_rfl) rfl
  · replace h := fork_f c1 h
    refine W_skip ?_
    refine Gh_e ⟨⟨59, [(1, .ro (a1.map cI_i64)), (2, .bool a2), (3, .po 0 0)]⟩, [.lv 2 [.i a0.Actuators, .ro (a0.Steps.map cSStep)]]⟩ ?_
    refine W_seq ?_
    refine W_seq ?_
    refine W_gh ?_
    refine W_reg ?_
    refine O_p 1 ?_
    refine O_len (l := a1) cI_i64 (by kernel_rfl) (by kernel_rfl) ?_
    refine O_p 2 ?_
    refine O_len (l := a0.Steps) cSStep (by kernel_rfl) (by kernel_rfl) ?_
    refine O_p 1 ?_
    refine O_nil ?_
    refine Gh_e ⟨⟨59, [(1, .ro (a1.map cI_i64)), (2, .bool a2), (3, .po 0 0), (16, .bool (decide ((a1.length : Int) > (a0.Steps.length : Int))))]⟩, [.lv 2 [.i a0.Actuators, .ro (a0.Steps.map cSStep)]]⟩ ?_
    refine W_gh ?_
    refine W_cond (c := (decide ((a1.length : Int) > (a0.Steps.length : Int)))) (by kernel_rfl) (fun c2 => ?_) (fun c2 => ?_)
    · replace h := fork_t c2 h
      refine W_seq ?_
      refine W_reg ?_
      refine O_p 1 ?_
      refine O_nil ?_
      refine W_ret ?_
      replace h := Option.some.inj h; subst h
      exact Fin_free (l := [.i 5]) (by kernel_rfl) (by kernel_rfl) rfl
    · replace h := fork_f c2 h
      refine W_skip ?_
      refine Gh_e ⟨⟨59, [(1, .ro (a1.map cI_i64)), (2, .bool a2), (3, .po 0 0)]⟩, [.lv 2 [.i a0.Actuators, .ro (a0.Steps.map cSStep)]]⟩ ?_
      refine W_seq ?_
      refine W_seq ?_
      refine W_joinS (fun v : Bool => ⟨⟨59, [(1, .ro (a1.map cI_i64)), (3, .po 0 0), (23, .bool v)]⟩, [.lv 2 [.i a0.Actuators, .ro (a0.Steps.map cSStep)]]⟩) h (fun w h => ?_) (fun w3 e_w3 h => ?_)
      · refine W_gh ?_
        refine W_reg ?_
        refine O_p 2 ?_
        refine O_fork (n := 18) a2 (by kernel_rfl) (fun c4 => ?_) (fun c4 => ?_)
        · replace h := fork_t c4 h
          refine O_p 1 ?_
          refine O_idx (kd := .i64) cI_i64 h (fun _ => rfl) (by kernel_rfl) (by kernel_rfl) (by kernel_rfl) (fun v5 e_v5 h => ?_)
          refine O_p 3 ?_
          refine O_nil ?_
          refine Gh_e ⟨⟨59, [(1, .ro (a1.map cI_i64)), (3, .po 0 0), (23, .bool (v5 != 0))]⟩, [.lv 2 [.i a0.Actuators, .ro (a0.Steps.map cSStep)]]⟩ ?_
          replace h := Option.some.inj h; subst h
          show _ = _
          kernel_rfl
        · replace h := fork_f c4 h
          refine O_p 5 ?_
          refine O_nil ?_
          refine Gh_e ⟨⟨59, [(1, .ro (a1.map cI_i64)), (3, .po 0 0), (23, .bool false)]⟩, [.lv 2 [.i a0.Actuators, .ro (a0.Steps.map cSStep)]]⟩ ?_
          replace h := Option.some.inj h; subst h
          show _ = _
          kernel_rfl
      · refine W_gh ?_
        refine W_cond (c := w3) (by kernel_rfl) (fun c6 => ?_) (fun c6 => ?_)
        · replace h := fork_t c6 h
          refine W_seq ?_
          refine W_reg ?_
          refine O_p 1 ?_
          refine O_nil ?_
          refine W_ret ?_
          replace h := Option.some.inj h; subst h
          exact Fin_free (l := [.i 3]) (by kernel_rfl) (by kernel_rfl) rfl
        · replace h := fork_f c6 h
          refine W_skip ?_
          refine Gh_e ⟨⟨59, [(1, .ro (a1.map cI_i64)), (3, .po 0 0)]⟩, [.lv 2 [.i a0.Actuators, .ro (a0.Steps.map cSStep)]]⟩ ?_
          refine W_seq ?_
          refine W_seq ?_
          refine W_reg ?_
          refine O_p 1 ?_
          refine O_nil ?_
          refine W_loop (fun s7 : Int => ⟨⟨59, [(1, .ro (a1.map cI_i64)), (3, .po 0 0), (7, .i s7)]⟩, [.lv 2 [.i a0.Actuators, .ro (a0.Steps.map cSStep)]]⟩) (fun w8 : Unit => ⟨⟨59, []⟩, [.lv 2 [.i a0.Actuators, .ro (a0.Steps.map cSStep)]]⟩) h (by kernel_rfl) (fun s7 c h => ?_) (fun w8 h => ?_)
          · refine W_gh ?_
            refine W_seq ?_
            refine W_seq ?_
            refine W_gh ?_
            refine W_reg ?_
            refine O_p 2 ?_
            refine O_len (l := a1) cI_i64 (by kernel_rfl) (by kernel_rfl) ?_
            refine O_p 1 ?_
            refine O_nil ?_
            refine Gh_e ⟨⟨59, [(1, .ro (a1.map cI_i64)), (3, .po 0 0), (7, .i s7), (27, .bool (decide (s7 < (a1.length : Int))))]⟩, [.lv 2 [.i a0.Actuators, .ro (a0.Steps.map cSStep)]]⟩ ?_
            refine W_gh ?_
            refine W_cond (c := (decide (s7 < (a1.length : Int)))) (by kernel_rfl) (fun c9 => ?_) (fun c9 => ?_)
            · replace h := fork_t c9 h
              refine W_skip ?_
              refine Gh_e ⟨⟨59, [(1, .ro (a1.map cI_i64)), (3, .po 0 0), (7, .i s7)]⟩, [.lv 2 [.i a0.Actuators, .ro (a0.Steps.map cSStep)]]⟩ ?_
              refine W_seq ?_
              refine W_gh ?_
              refine W_block ?_
              refine W_seq ?_
              refine W_seq ?_
              refine W_joinS (fun v : Bool => ⟨⟨59, [(1, .ro (a1.map cI_i64)), (3, .po 0 0), (7, .i s7), (44, .bool v)]⟩, [.lv 2 [.i a0.Actuators, .ro (a0.Steps.map cSStep)]]⟩) h (fun w h => ?_) (fun w10 e_w10 h => ?_)
              · refine W_gh ?_
                refine W_draw ?_
                refine O_p 2 ?_
                refine O_idx (kd := .i64) cI_i64 h (fun _ => rfl) (by kernel_rfl) (by kernel_rfl) (by kernel_rfl) (fun v11 e_v11 h => ?_)
                refine O_p 3 ?_
                refine O_fork (n := 35) (decide (v11 < 0)) (by kernel_rfl) (fun c12 => ?_) (fun c12 => ?_)
                · replace h := fork_t c12 h
                  refine O_p 9 ?_
                  refine O_nil ?_
                  refine Gh_e ⟨⟨59, [(1, .ro (a1.map cI_i64)), (3, .po 0 0), (7, .i s7), (44, .bool true)]⟩, [.lv 2 [.i a0.Actuators, .ro (a0.Steps.map cSStep)]]⟩ ?_
                  replace h := Option.some.inj h; subst h
                  show _ = _
                  kernel_rfl
                · replace h := fork_f c12 h
                  refine O_p 2 ?_
                  refine O_idx (kd := .i64) cI_i64 h (fun _ => rfl) (by kernel_rfl) (by kernel_rfl) (by kernel_rfl) (fun v13 e_v13 h => ?_)
                  refine O_p 3 ?_
                  refine O_len (l := a0.Steps) cSStep (by kernel_rfl) (by kernel_rfl) ?_
                  refine O_p 2 ?_
                  refine O_nil ?_
                  refine Gh_e ⟨⟨59, [(1, .ro (a1.map cI_i64)), (3, .po 0 0), (7, .i s7), (44, .bool (decide (v13 ≥ (a0.Steps.length : Int))))]⟩, [.lv 2 [.i a0.Actuators, .ro (a0.Steps.map cSStep)]]⟩ ?_
                  replace h := Option.some.inj h; subst h
                  show _ = _
                  kernel_rfl
              · refine W_gh ?_
                refine W_cond (c := w10) (by kernel_rfl) (fun c14 => ?_) (fun c14 => ?_)
                · replace h := fork_t c14 h
                  refine W_seq ?_
                  refine W_reg ?_
                  refine O_p 1 ?_
                  refine O_nil ?_
                  refine W_ret ?_
                  replace h := Option.some.inj h; subst h
                  refine ⟨_, rfl, fun h => ?_⟩
                  replace h := Option.some.inj h; subst h
                  exact Fin_free (l := [.i 2]) (by kernel_rfl) (by kernel_rfl) rfl
                · replace h := fork_f c14 h
                  refine W_skip ?_
                  refine Gh_e ⟨⟨59, [(1, .ro (a1.map cI_i64)), (3, .po 0 0), (7, .i s7)]⟩, [.lv 2 [.i a0.Actuators, .ro (a0.Steps.map cSStep)]]⟩ ?_
                  refine W_seq ?_
                  refine W_joinS (fun v : Bool => ⟨⟨59, [(1, .ro (a1.map cI_i64)), (3, .po 0 0), (7, .i s7), (58, .bool v)]⟩, [.lv 2 [.i a0.Actuators, .ro (a0.Steps.map cSStep)]]⟩) h (fun w h => ?_) (fun w15 e_w15 h => ?_)
                  · refine W_gh ?_
                    refine W_draw ?_
                    refine O_p 3 ?_
                    refine O_fork (n := 47) (decide (s7 > 0)) (by kernel_rfl) (fun c16 => ?_) (fun c16 => ?_)
                    · replace h := fork_t c16 h
                      refine O_p 2 ?_
                      refine O_idx (kd := .i64) cI_i64 h (fun _ => rfl) (by kernel_rfl) (by kernel_rfl) (by kernel_rfl) (fun v17 e_v17 h => ?_)
                      refine O_p 4 ?_
                      refine O_idx (kd := .i64) cI_i64 h (fun _ => rfl) (by kernel_rfl) (by kernel_rfl) (by kernel_rfl) (fun v18 e_v18 h => ?_)
                      refine O_p 3 ?_
                      refine O_nil ?_
                      refine Gh_e ⟨⟨59, [(1, .ro (a1.map cI_i64)), (3, .po 0 0), (7, .i s7), (58, .bool (decide (v17 ≤ v18)))]⟩, [.lv 2 [.i a0.Actuators, .ro (a0.Steps.map cSStep)]]⟩ ?_
                      replace h := Option.some.inj h; subst h
                      show _ = _
                      kernel_rfl
                    · replace h := fork_f c16 h
                      refine O_p 11 ?_
                      refine O_nil ?_
                      refine Gh_e ⟨⟨59, [(1, .ro (a1.map cI_i64)), (3, .po 0 0), (7, .i s7), (58, .bool false)]⟩, [.lv 2 [.i a0.Actuators, .ro (a0.Steps.map cSStep)]]⟩ ?_
                      replace h := Option.some.inj h; subst h
                      show _ = _
                      kernel_rfl
                  · refine W_gh ?_
                    refine W_cond (c := w15) (by kernel_rfl) (fun c19 => ?_) (fun c19 => ?_)
                    · replace h := fork_t c19 h
                      refine W_seq ?_
                      refine W_reg ?_
                      refine O_p 1 ?_
                      refine O_nil ?_
                      refine W_ret ?_
                      replace h := Option.some.inj h; subst h
                      refine ⟨_, rfl, fun h => ?_⟩
                      replace h := Option.some.inj h; subst h
                      exact Fin_free (l := [.i 9]) (by kernel_rfl) (by kernel_rfl) rfl
                    · replace h := fork_f c19 h
                      refine W_skip ?_
                      refine Gh_e ⟨⟨59, [(1, .ro (a1.map cI_i64)), (3, .po 0 0), (7, .i s7)]⟩, [.lv 2 [.i a0.Actuators, .ro (a0.Steps.map cSStep)]]⟩ ?_
                      refine Gh_e ⟨⟨59, [(1, .ro (a1.map cI_i64)), (3, .po 0 0), (7, .i s7)]⟩, [.lv 2 [.i a0.Actuators, .ro (a0.Steps.map cSStep)]]⟩ ?_
                      refine W_gh ?_
                      refine W_reg ?_
                      refine O_p 3 ?_
                      refine O_nil ?_
                      refine Gh_e ⟨⟨59, [(1, .ro (a1.map cI_i64)), (3, .po 0 0), (7, .i (addI .i64 s7 1))]⟩, [.lv 2 [.i a0.Actuators, .ro (a0.Steps.map cSStep)]]⟩ ?_
                      refine Gh_e ⟨⟨59, [(1, .ro (a1.map cI_i64)), (3, .po 0 0), (7, .i (addI .i64 s7 1))]⟩, [.lv 2 [.i a0.Actuators, .ro (a0.Steps.map cSStep)]]⟩ ?_
                      replace h := Option.some.inj h; subst h
                      exact ⟨_, rfl, by kernel_rfl⟩
            · replace h := fork_f c9 h
              refine W_exit ?_
              refine X_hit ?_
              refine Gh_e ⟨⟨59, []⟩, [.lv 2 [.i a0.Actuators, .ro (a0.Steps.map cSStep)]]⟩ ?_
              replace h := Option.some.inj h; subst h
              exact ⟨_, rfl, by kernel_rfl⟩
          · refine W_seq ?_
            refine W_reg ?_
            refine O_p 1 ?_
            refine O_nil ?_
            refine W_ret ?_
            replace h := Option.some.inj h; subst h
            exact Fin_free (l := [.i 0]) (by kernel_rfl) (by kernel_rfl) rfl

theorem p52 (a0 : SSequence) (a1 : (List Int)) (a2 : Int) (r : Int) (h : m52 a0 a1 a2 = some r) : Pt E0 hp 52 [.agg (cSSequence a0), .ro (a1.map cI_i64), .i a2] (.i r) := by
  unfold m52 at h
  refine Pt_W (fn52) rfl (by decide) ?_
  refine W_seq ?_
  refine W_gh ?_
  refine W_reg ?_
  refine O_p 2 ?_
  refine O_nil ?_
  refine Gh_e ⟨⟨24, [(1, .ro (a1.map cI_i64)), (2, .i a2), (3, .po 0 0)]⟩, [.lv 2 [.i a0.Actuators, .ro (a0.Steps.map cSStep)]]⟩ ?_
  refine W_seq ?_
  refine W_seq ?_
  refine W_gh ?_
  refine W_reg ?_
  refine O_p 3 ?_
  refine O_len (l := a1) cI_i64 (by kernel_rfl) (by kernel_rfl) ?_
  refine O_p 1 ?_
  refine O_nil ?_
  refine Gh_e ⟨⟨24, [(1, .ro (a1.map cI_i64)), (2, .i a2), (3, .po 0 0), (11, .bool (decide ((addI .i64 a2 1) < (a1.length : Int))))]⟩, [.lv 2 [.i a0.Actuators, .ro (a0.Steps.map cSStep)]]⟩ ?_
  refine W_gh ?_
  refine W_cond (c := (decide ((addI .i64 a2 1) < (a1.length : Int)))) (by kernel_rfl) (fun c1 => ?_) (fun c1 => ?_)
  · replace h := fork_t c1 h
    refine W_seq ?_
    refine W_gh ?_
    refine W_reg ?_
    refine O_p 3 ?_
    refine O_idx (kd := .i64) cI_i64 h (fun _ => rfl) (by kernel_rfl) (by kernel_rfl) (by kernel_rfl) (fun v2 e_v2 h => ?_)
    refine O_p 2 ?_
    refine O_nil ?_
    refine Gh_e ⟨⟨24, [(3, .po 0 0), (6, .i v2), (11, .bool (decide ((addI .i64 a2 1) < (a1.length : Int))))]⟩, [.lv 2 [.i a0.Actuators, .ro (a0.Steps.map cSStep)]]⟩ ?_
    refine W_ret ?_
    replace h := Option.some.inj h; subst h
    exact Fin_free (l := [.i v2]) (by kernel_rfl) (by kernel_rfl) rfl
  · replace h := fork_f c1 h
    refine W_skip ?_
    refine Gh_e ⟨⟨24, [(1, .ro (a1.map cI_i64)), (3, .po 0 0)]⟩, [.lv 2 [.i a0.Actuators, .ro (a0.Steps.map cSStep)]]⟩ ?_
    refine W_seq ?_
    refine W_gh ?_
    refine W_draw ?_
    refine O_p 2 ?_
    refine O_len (l := a0.Steps) cSStep (by kernel_rfl) (by kernel_rfl) ?_
    refine O_p 1 ?_
    refine O_idx (kd := .i64) cI_i64 h (fun _ => rfl) (by kernel_rfl) (by kernel_rfl) (by kernel_rfl) (fun v3 e_v3 h => ?_)
    refine O_p 3 ?_
    refine O_nil ?_
    refine Gh_e ⟨⟨24, [(6, .i (addI .i64 (a0.Steps.length : Int) v3))]⟩, [.lv 2 [.i a0.Actuators, .ro (a0.Steps.map cSStep)]]⟩ ?_
    refine W_ret ?_
    replace h := Option.some.inj h; subst h
    exact Fin_free (l := [.i (addI .i64 (a0.Steps.length : Int) v3)]) (by kernel_rfl) (by kernel_rfl) rfl

theorem p38 (a0 : SSequence) (a1 : Int) (a2 : Int) (r : Bool) (h : m38 a0 a1 a2 = some r) : Pt E0 hp 38 [.agg (cSSequence a0), .i a1, .i a2] (.bool r) := by
  unfold m38 at h
  refine Pt_W (fn38) rfl (by decide) ?_
  refine W_seq ?_
  refine W_gh ?_
  refine W_reg ?_
  refine O_p 2 ?_
  refine O_nil ?_
  refine Gh_e ⟨⟨32, [(1, .i a1), (2, .i a2), (3, .po 0 0)]⟩, [.lv 2 [.i a0.Actuators, .ro (a0.Steps.map cSStep)]]⟩ ?_
  refine W_seq ?_
  refine W_seq ?_
  refine W_reg ?_
  refine O_p 1 ?_
  refine O_nil ?_
  refine W_loop (fun s1 : Int => ⟨⟨32, [(1, .i a1), (2, .i a2), (3, .po 0 0), (7, .i s1)]⟩, [.lv 2 [.i a0.Actuators, .ro (a0.Steps.map cSStep)]]⟩) (fun w2 : Unit => ⟨⟨32, []⟩, [.lv 2 [.i a0.Actuators, .ro (a0.Steps.map cSStep)]]⟩) h (by kernel_rfl) (fun s1 c h => ?_) (fun w2 h => ?_)
  · refine W_gh ?_
    refine W_seq ?_
    refine W_seq ?_
    refine W_gh ?_
    refine W_reg ?_
    refine O_p 4 ?_
    refine O_nil ?_
    refine Gh_e ⟨⟨32, [(1, .i a1), (2, .i a2), (3, .po 0 0), (7, .i s1), (11, .bool (decide (s1 < a0.Actuators)))]⟩, [.lv 2 [.i a0.Actuators, .ro (a0.Steps.map cSStep)]]⟩ ?_
    refine W_gh ?_
    refine W_cond (c := (decide (s1 < a0.Actuators))) (by kernel_rfl) (fun c3 => ?_) (fun c3 => ?_)
    · replace h := fork_t c3 h
      refine W_skip ?_
      refine Gh_e ⟨⟨32, [(1, .i a1), (2, .i a2), (3, .po 0 0), (7, .i s1)]⟩, [.lv 2 [.i a0.Actuators, .ro (a0.Steps.map cSStep)]]⟩ ?_
      refine W_seq ?_
      refine W_gh ?_
      refine W_block ?_
      refine W_seq ?_
      refine W_joinS (fun v : Bool => ⟨⟨32, [(1, .i a1), (2, .i a2), (3, .po 0 0), (7, .i s1), (31, .bool v)]⟩, [.lv 2 [.i a0.Actuators, .ro (a0.Steps.map cSStep)]]⟩) h (fun w h => ?_) (fun w4 e_w4 h => ?_)
      · refine W_gh ?_
        refine W_reg ?_
        refine O_p 3 ?_
        refine O_idx (kd := .i64) cSStep h (fun _ => rfl) (by kernel_rfl) (by kernel_rfl) (by kernel_rfl) (fun v5 e_v5 h => ?_)
        refine O_p 2 ?_
        refine O_call (fun v => .i v) h (.inr rfl) (ys := [.agg (cSStep v5), .i s1]) (fun _ e => p53 _ _ _ e) (by kernel_rfl) (by kernel_rfl) (bels_cons (okSStep.bel _) (bels_cons rfl rfl)) (fun v6 e_v6 h => ?_)
        refine O_p 2 ?_
        refine O_fork (n := 22) (v6 != 0) (by kernel_rfl) (fun c7 => ?_) (fun c7 => ?_)
        · replace h := fork_t c7 h
          refine O_p 3 ?_
          refine O_idx (kd := .i64) cSStep h (fun _ => rfl) (by kernel_rfl) (by kernel_rfl) (by kernel_rfl) (fun v8 e_v8 h => ?_)
          refine O_p 2 ?_
          refine O_call (fun v => .i v) h (.inr rfl) (ys := [.agg (cSStep v8), .i s1]) (fun _ e => p53 _ _ _ e) (by kernel_rfl) (by kernel_rfl) (bels_cons (okSStep.bel _) (bels_cons rfl rfl)) (fun v9 e_v9 h => ?_)
          refine O_p 2 ?_
          refine O_nil ?_
          refine Gh_e ⟨⟨32, [(1, .i a1), (2, .i a2), (3, .po 0 0), (7, .i s1), (31, .bool (v9 != 0))]⟩, [.lv 2 [.i a0.Actuators, .ro (a0.Steps.map cSStep)]]⟩ ?_
          replace h := Option.some.inj h; subst h
          show _ = _
          kernel_rfl
        · replace h := fork_f c7 h
          refine O_p 9 ?_
          refine O_nil ?_
          refine Gh_e ⟨⟨32, [(1, .i a1), (2, .i a2), (3, .po 0 0), (7, .i s1), (31, .bool false)]⟩, [.lv 2 [.i a0.Actuators, .ro (a0.Steps.map cSStep)]]⟩ ?_
          replace h := Option.some.inj h; subst h
          show _ = _
          kernel_rfl
      · refine W_gh ?_
        refine W_cond (c := w4) (by kernel_rfl) (fun c10 => ?_) (fun c10 => ?_)
        · replace h := fork_t c10 h
          refine W_seq ?_
          refine W_reg ?_
          refine O_p 1 ?_
          refine O_nil ?_
          refine W_ret ?_
          replace h := Option.some.inj h; subst h
          refine ⟨_, rfl, fun h => ?_⟩
          replace h := Option.some.inj h; subst h
          exact Fin_free (l := [.bool true]) (by kernel_rfl) (by kernel_rfl) rfl
        · replace h := fork_f c10 h
          refine W_skip ?_
          refine Gh_e ⟨⟨32, [(1, .i a1), (2, .i a2), (3, .po 0 0), (7, .i s1)]⟩, [.lv 2 [.i a0.Actuators, .ro (a0.Steps.map cSStep)]]⟩ ?_
          refine Gh_e ⟨⟨32, [(1, .i a1), (2, .i a2), (3, .po 0 0), (7, .i s1)]⟩, [.lv 2 [.i a0.Actuators, .ro (a0.Steps.map cSStep)]]⟩ ?_
          refine W_gh ?_
          refine W_reg ?_
          refine O_p 3 ?_
          refine O_nil ?_
          refine Gh_e ⟨⟨32, [(1, .i a1), (2, .i a2), (3, .po 0 0), (7, .i (addI .i64 s1 1))]⟩, [.lv 2 [.i a0.Actuators, .ro (a0.Steps.map cSStep)]]⟩ ?_
          refine Gh_e ⟨⟨32, [(1, .i a1), (2, .i a2), (3, .po 0 0), (7, .i (addI .i64 s1 1))]⟩, [.lv 2 [.i a0.Actuators, .ro (a0.Steps.map cSStep)]]⟩ ?_
          replace h := Option.some.inj h; subst h
          exact ⟨_, rfl, by kernel_rfl⟩
    · replace h := fork_f c3 h
      refine W_exit ?_
      refine X_hit ?_
      refine Gh_e ⟨⟨32, []⟩, [.lv 2 [.i a0.Actuators, .ro (a0.Steps.map cSStep)]]⟩ ?_
      replace h := Option.some.inj h; subst h
      exact ⟨_, rfl, by kernel_rfl⟩
  · refine W_seq ?_
    refine W_reg ?_
    refine O_p 1 ?_
    refine O_nil ?_
    refine W_ret ?_
    replace h := Option.some.inj h; subst h
    exact Fin_free (l := [.bool false]) (by kernel_rfl) (by kernel_rfl) rfl

theorem p78 (a0 : SSequence) (a1 : Int) (a2 : Int) (r : Bool) (h : m78 a0 a1 a2 = some r) : Pt E0 hp 78 [.agg (cSSequence a0), .i a1, .i a2] (.bool r) := by
  unfold m78 at h
  refine Pt_W (fn78) rfl (by decide) ?_
  refine W_seq ?_
  refine W_gh ?_
  refine W_reg ?_
  refine O_p 2 ?_
  refine O_nil ?_
  refine Gh_e ⟨⟨35, [(1, .i a1), (2, .i a2), (3, .po 0 0)]⟩, [.lv 2 [.i a0.Actuators, .ro (a0.Steps.map cSStep)]]⟩ ?_
  refine W_seq ?_
  refine W_seq ?_
  refine W_reg ?_
  refine O_p 1 ?_
  refine O_nil ?_
  refine W_loop (fun s1 : Int => ⟨⟨35, [(1, .i a1), (2, .i a2), (3, .po 0 0), (7, .i s1)]⟩, [.lv 2 [.i a0.Actuators, .ro (a0.Steps.map cSStep)]]⟩) (fun w2 : Unit => ⟨⟨35, []⟩, [.lv 2 [.i a0.Actuators, .ro (a0.Steps.map cSStep)]]⟩) h (by kernel_rfl) (fun s1 c h => ?_) (fun w2 h => ?_)
  · refine W_gh ?_
    refine W_seq ?_
    refine W_seq ?_
    refine W_gh ?_
    refine W_reg ?_
    refine O_p 3 ?_
    refine O_nil ?_
    refine Gh_e ⟨⟨35, [(1, .i a1), (2, .i a2), (3, .po 0 0), (7, .i s1), (11, .bool (decide (s1 < a2)))]⟩, [.lv 2 [.i a0.Actuators, .ro (a0.Steps.map cSStep)]]⟩ ?_
    refine W_gh ?_
    refine W_cond (c := (decide (s1 < a2))) (by kernel_rfl) (fun c3 => ?_) (fun c3 => ?_)
    · replace h := fork_t c3 h
      refine W_skip ?_
      refine Gh_e ⟨⟨35, [(1, .i a1), (2, .i a2), (3, .po 0 0), (7, .i s1)]⟩, [.lv 2 [.i a0.Actuators, .ro (a0.Steps.map cSStep)]]⟩ ?_
      refine W_seq ?_
      refine W_gh ?_
      refine W_block ?_
      refine W_seq ?_
      refine W_reg ?_
      refine O_p 1 ?_
      refine O_nil ?_
      refine W_loop (fun s4 : Int => ⟨⟨35, [(1, .i a1), (2, .i a2), (3, .po 0 0), (7, .i s1), (8, .i s4)]⟩, [.lv 2 [.i a0.Actuators, .ro (a0.Steps.map cSStep)]]⟩) (fun w5 : Unit => ⟨⟨35, [(1, .i a1), (2, .i a2), (3, .po 0 0), (7, .i s1)]⟩, [.lv 2 [.i a0.Actuators, .ro (a0.Steps.map cSStep)]]⟩) h (by kernel_rfl) (fun s4 c h => ?_) (fun w5 h => ?_)
      · refine W_gh ?_
        refine W_seq ?_
        refine W_seq ?_
        refine W_gh ?_
        refine W_reg ?_
        refine O_p 3 ?_
        refine O_nil ?_
        refine Gh_e ⟨⟨35, [(1, .i a1), (2, .i a2), (3, .po 0 0), (7, .i s1), (8, .i s4), (16, .bool (decide (s4 < s1)))]⟩, [.lv 2 [.i a0.Actuators, .ro (a0.Steps.map cSStep)]]⟩ ?_
        refine W_gh ?_
        refine W_cond (c := (decide (s4 < s1))) (by kernel_rfl) (fun c6 => ?_) (fun c6 => ?_)
        · replace h := fork_t c6 h
          refine W_skip ?_
          refine Gh_e ⟨⟨35, [(1, .i a1), (2, .i a2), (3, .po 0 0), (7, .i s1), (8, .i s4)]⟩, [.lv 2 [.i a0.Actuators, .ro (a0.Steps.map cSStep)]]⟩ ?_
          refine W_seq ?_
          refine W_gh ?_
          refine W_block ?_
          refine W_seq ?_
          refine W_gh ?_
          refine W_draw ?_
          refine O_p 6 ?_
          refine O_len (l := a0.Steps) cSStep (by kernel_rfl) (by kernel_rfl) ?_
          refine O_rem (kd := .i64) h (by kernel_rfl) (by kernel_rfl) (by kernel_rfl) (fun v7 e_v7 h => ?_)
          refine O_p 5 ?_
          refine O_len (l := a0.Steps) cSStep (by kernel_rfl) (by kernel_rfl) ?_
          refine O_rem (kd := .i64) h (by kernel_rfl) (by kernel_rfl) (by kernel_rfl) (fun v8 e_v8 h => ?_)
          refine O_call (fun v => .bool v) h (.inr rfl) (ys := [.agg (cSSequence a0), .i v7, .i v8]) (fun _ e => p38 _ _ _ _ e) (by kernel_rfl) (by kernel_rfl) (bels_cons (okSSequence.bel _) (bels_cons rfl (bels_cons rfl rfl))) (fun v9 e_v9 h => ?_)
          refine O_nil ?_
          refine Gh_e ⟨⟨35, [(1, .i a1), (2, .i a2), (3, .po 0 0), (7, .i s1), (8, .i s4), (34, .bool v9)]⟩, [.lv 2 [.i a0.Actuators, .ro (a0.Steps.map cSStep)]]⟩ ?_
          refine W_gh ?_
          refine W_cond (c := v9) (by kernel_rfl) (fun c10 => ?_) (fun c10 => ?_)
          · replace h := fork_t c10 h
            refine W_seq ?_
            refine W_reg ?_
            refine O_p 1 ?_
            refine O_nil ?_
            refine W_ret ?_
            replace h := Option.some.inj h; subst h
            refine ⟨_, rfl, fun h => ?_⟩
            replace h := Option.some.inj h; subst h
            refine ⟨_, rfl, fun h => ?_⟩
            replace h := Option.some.inj h; subst h
            exact Fin_free (l := [.bool false]) (by kernel_rfl) (by kernel_rfl) rfl
          · replace h := fork_f c10 h
            refine W_skip ?_
            refine Gh_e ⟨⟨35, [(1, .i a1), (2, .i a2), (3, .po 0 0), (7, .i s1), (8, .i s4)]⟩, [.lv 2 [.i a0.Actuators, .ro (a0.Steps.map cSStep)]]⟩ ?_
            refine Gh_e ⟨⟨35, [(1, .i a1), (2, .i a2), (3, .po 0 0), (7, .i s1), (8, .i s4)]⟩, [.lv 2 [.i a0.Actuators, .ro (a0.Steps.map cSStep)]]⟩ ?_
            refine W_gh ?_
            refine W_reg ?_
            refine O_p 3 ?_
            refine O_nil ?_
            refine Gh_e ⟨⟨35, [(1, .i a1), (2, .i a2), (3, .po 0 0), (7, .i s1), (8, .i (addI .i64 s4 1))]⟩, [.lv 2 [.i a0.Actuators, .ro (a0.Steps.map cSStep)]]⟩ ?_
            refine Gh_e ⟨⟨35, [(1, .i a1), (2, .i a2), (3, .po 0 0), (7, .i s1), (8, .i (addI .i64 s4 1))]⟩, [.lv 2 [.i a0.Actuators, .ro (a0.Steps.map cSStep)]]⟩ ?_
            replace h := Option.some.inj h; subst h
            exact ⟨_, rfl, by kernel_rfl⟩
        · replace h := fork_f c6 h
          refine W_exit ?_
          refine X_hit ?_
          refine Gh_e ⟨⟨35, [(1, .i a1), (2, .i a2), (3, .po 0 0), (7, .i s1)]⟩, [.lv 2 [.i a0.Actuators, .ro (a0.Steps.map cSStep)]]⟩ ?_
          replace h := Option.some.inj h; subst h
          exact ⟨_, rfl, by kernel_rfl⟩
      · refine Gh_e ⟨⟨35, [(1, .i a1), (2, .i a2), (3, .po 0 0), (7, .i s1)]⟩, [.lv 2 [.i a0.Actuators, .ro (a0.Steps.map cSStep)]]⟩ ?_
        refine W_gh ?_
        refine W_reg ?_
        refine O_p 3 ?_
        refine O_nil ?_
        refine Gh_e ⟨⟨35, [(1, .i a1), (2, .i a2), (3, .po 0 0), (7, .i (addI .i64 s1 1))]⟩, [.lv 2 [.i a0.Actuators, .ro (a0.Steps.map cSStep)]]⟩ ?_
        refine Gh_e ⟨⟨35, [(1, .i a1), (2, .i a2), (3, .po 0 0), (7, .i (addI .i64 s1 1))]⟩, [.lv 2 [.i a0.Actuators, .ro (a0.Steps.map cSStep)]]⟩ ?_
        replace h := Option.some.inj h; subst h
        exact ⟨_, rfl, by kernel_rfl⟩
    · replace h := fork_f c3 h
      refine W_exit ?_
      refine X_hit ?_
      refine Gh_e ⟨⟨35, []⟩, [.lv 2 [.i a0.Actuators, .ro (a0.Steps.map cSStep)]]⟩ ?_
      replace h := Option.some.inj h; subst h
      exact ⟨_, rfl, by kernel_rfl⟩
  · refine W_seq ?_
    refine W_reg ?_
    refine O_p 1 ?_
    refine O_nil ?_
    refine W_ret ?_
    replace h := Option.some.inj h; subst h
    exact Fin_free (l := [.bool true]) (by kernel_rfl) (by kernel_rfl) rfl

theorem p66 (a0 : SSequence) (a1 : (List Int)) (r : Bool) (h : m66 a0 a1 = some r) : Pt E0 hp 66 [.agg (cSSequence a0), .ro (a1.map cI_i64)] (.bool r) := by
  unfold m66 at h
  refine Pt_W (fn66) rfl (by decide) ?_
  refine W_seq ?_
  refine W_gh ?_
  refine W_reg ?_
  refine O_p 2 ?_
  refine O_nil ?_
  refine Gh_e ⟨⟨28, [(1, .ro (a1.map cI_i64)), (2, .po 0 0)]⟩, [.lv 2 [.i a0.Actuators, .ro (a0.Steps.map cSStep)]]⟩ ?_
  refine W_seq ?_
  refine W_seq ?_
  refine W_reg ?_
  refine O_p 1 ?_
  refine O_nil ?_
  refine W_loop (fun s1 : Int => ⟨⟨28, [(1, .ro (a1.map cI_i64)), (2, .po 0 0), (5, .i s1)]⟩, [.lv 2 [.i a0.Actuators, .ro (a0.Steps.map cSStep)]]⟩) (fun w2 : Unit => ⟨⟨28, []⟩, [.lv 2 [.i a0.Actuators, .ro (a0.Steps.map cSStep)]]⟩) h (by kernel_rfl) (fun s1 c h => ?_) (fun w2 h => ?_)
  · refine W_gh ?_
    refine W_seq ?_
    refine W_seq ?_
    refine W_gh ?_
    refine W_reg ?_
    refine O_p 2 ?_
    refine O_len (l := a1) cI_i64 (by kernel_rfl) (by kernel_rfl) ?_
    refine O_p 1 ?_
    refine O_nil ?_
    refine Gh_e ⟨⟨28, [(1, .ro (a1.map cI_i64)), (2, .po 0 0), (5, .i s1), (9, .bool (decide (s1 < (a1.length : Int))))]⟩, [.lv 2 [.i a0.Actuators, .ro (a0.Steps.map cSStep)]]⟩ ?_
    refine W_gh ?_
    refine W_cond (c := (decide (s1 < (a1.length : Int)))) (by kernel_rfl) (fun c3 => ?_) (fun c3 => ?_)
    · replace h := fork_t c3 h
      refine W_skip ?_
      refine Gh_e ⟨⟨28, [(1, .ro (a1.map cI_i64)), (2, .po 0 0), (5, .i s1)]⟩, [.lv 2 [.i a0.Actuators, .ro (a0.Steps.map cSStep)]]⟩ ?_
      refine W_seq ?_
      refine W_gh ?_
      refine W_block ?_
      refine W_seq ?_
      refine W_gh ?_
      refine W_draw ?_
      refine O_p 3 ?_
      refine O_idx (kd := .i64) cI_i64 h (fun _ => rfl) (by kernel_rfl) (by kernel_rfl) (by kernel_rfl) (fun v4 e_v4 h => ?_)
      refine O_p 4 ?_
      refine O_call (fun v => .i v) h (.inr rfl) (ys := [.agg (cSSequence a0), .ro (a1.map cI_i64), .i s1]) (fun _ e => p52 _ _ _ _ e) (by kernel_rfl) (by kernel_rfl) (bels_cons (okSSequence.bel _) (bels_cons (ro_bel okI_i64.bel _) (bels_cons rfl rfl))) (fun v5 e_v5 h => ?_)
      refine O_p 2 ?_
      refine O_idx (kd := .i64) cI_i64 h (fun _ => rfl) (by kernel_rfl) (by kernel_rfl) (by kernel_rfl) (fun v6 e_v6 h => ?_)
      refine O_p 2 ?_
      refine O_call (fun v => .bool v) h (.inr rfl) (ys := [.agg (cSSequence a0), .i v4, .i (subI .i64 v5 v6)]) (fun _ e => p78 _ _ _ _ e) (by kernel_rfl) (by kernel_rfl) (bels_cons (okSSequence.bel _) (bels_cons rfl (bels_cons rfl rfl))) (fun v7 e_v7 h => ?_)
      refine O_p 1 ?_
      refine O_nil ?_
      refine Gh_e ⟨⟨28, [(1, .ro (a1.map cI_i64)), (2, .po 0 0), (5, .i s1), (27, .bool (!v7))]⟩, [.lv 2 [.i a0.Actuators, .ro (a0.Steps.map cSStep)]]⟩ ?_
      refine W_gh ?_
      refine W_cond (c := (!v7)) (by kernel_rfl) (fun c8 => ?_) (fun c8 => ?_)
      · replace h := fork_t c8 h
        refine W_seq ?_
        refine W_reg ?_
        refine O_p 1 ?_
        refine O_nil ?_
        refine W_ret ?_
        replace h := Option.some.inj h; subst h
        refine ⟨_, rfl, fun h => ?_⟩
        replace h := Option.some.inj h; subst h
        exact Fin_free (l := [.bool false]) (by kernel_rfl) (by kernel_rfl) rfl
      · replace h := fork_f c8 h
        refine W_skip ?_
        refine Gh_e ⟨⟨28, [(1, .ro (a1.map cI_i64)), (2, .po 0 0), (5, .i s1)]⟩, [.lv 2 [.i a0.Actuators, .ro (a0.Steps.map cSStep)]]⟩ ?_
        refine Gh_e ⟨⟨28, [(1, .ro (a1.map cI_i64)), (2, .po 0 0), (5, .i s1)]⟩, [.lv 2 [.i a0.Actuators, .ro (a0.Steps.map cSStep)]]⟩ ?_
        refine W_gh ?_
        refine W_reg ?_
        refine O_p 3 ?_
        refine O_nil ?_
        refine Gh_e ⟨⟨28, [(1, .ro (a1.map cI_i64)), (2, .po 0 0), (5, .i (addI .i64 s1 1))]⟩, [.lv 2 [.i a0.Actuators, .ro (a0.Steps.map cSStep)]]⟩ ?_
        refine Gh_e ⟨⟨28, [(1, .ro (a1.map cI_i64)), (2, .po 0 0), (5, .i (addI .i64 s1 1))]⟩, [.lv 2 [.i a0.Actuators, .ro (a0.Steps.map cSStep)]]⟩ ?_
        replace h := Option.some.inj h; subst h
        exact ⟨_, rfl, by kernel_rfl⟩
    · replace h := fork_f c3 h
      refine W_exit ?_
      refine X_hit ?_
      refine Gh_e ⟨⟨28, []⟩, [.lv 2 [.i a0.Actuators, .ro (a0.Steps.map cSStep)]]⟩ ?_
      replace h := Option.some.inj h; subst h
      exact ⟨_, rfl, by kernel_rfl⟩
  · refine W_seq ?_
    refine W_reg ?_
    refine O_p 1 ?_
    refine O_nil ?_
    refine W_ret ?_
    replace h := Option.some.inj h; subst h
    exact Fin_free (l := [.bool true]) (by kernel_rfl) (by kernel_rfl) rfl

theorem p67 (a0 : (List Int)) (a1 : (List Int)) (r : Bool) (h : m67 a0 a1 = some r) : Pt E0 hp 67 [.ro (a0.map cI_i64), .ro (a1.map cI_i64)] (.bool r) := by
  unfold m67 at h
  refine Pt_W (fn67) rfl (by decide) ?_
  refine W_seq ?_
  refine W_gh ?_
  refine W_reg ?_
  refine O_p 1 ?_
  refine O_nil ?_
  refine Gh_e ⟨⟨30, [(0, .ro (a0.map cI_i64)), (1, .ro (a1.map cI_i64))]⟩, []⟩ ?_
  refine W_seq ?_
  refine W_seq ?_
  refine W_reg ?_
  refine O_p 1 ?_
  refine O_nil ?_
  refine W_loop (fun s1 : Int => ⟨⟨30, [(0, .ro (a0.map cI_i64)), (1, .ro (a1.map cI_i64)), (5, .i s1)]⟩, []⟩) (fun w2 : Unit => ⟨⟨30, []⟩, []⟩) h (by kernel_rfl) (fun s1 c h => ?_) (fun w2 h => ?_)
  · refine W_gh ?_
    refine W_seq ?_
    refine W_seq ?_
    refine W_gh ?_
    refine W_reg ?_
    refine O_p 2 ?_
    refine O_len (l := a0) cI_i64 (by kernel_rfl) (by kernel_rfl) ?_
    refine O_p 1 ?_
    refine O_nil ?_
    refine Gh_e ⟨⟨30, [(0, .ro (a0.map cI_i64)), (1, .ro (a1.map cI_i64)), (5, .i s1), (9, .bool (decide (s1 < (a0.length : Int))))]⟩, []⟩ ?_
    refine W_gh ?_
    refine W_cond (c := (decide (s1 < (a0.length : Int)))) (by kernel_rfl) (fun c3 => ?_) (fun c3 => ?_)
    · replace h := fork_t c3 h
      refine W_skip ?_
      refine Gh_e ⟨⟨30, [(0, .ro (a0.map cI_i64)), (1, .ro (a1.map cI_i64)), (5, .i s1)]⟩, []⟩ ?_
      refine W_seq ?_
      refine W_gh ?_
      refine W_block ?_
      refine W_seq ?_
      refine W_gh ?_
      refine W_draw ?_
      refine O_p 2 ?_
      refine O_idx (kd := .i64) cI_i64 h (fun _ => rfl) (by kernel_rfl) (by kernel_rfl) (by kernel_rfl) (fun v4 e_v4 h => ?_)
      refine O_p 3 ?_
      refine O_idx (kd := .i64) cI_i64 h (fun _ => rfl) (by kernel_rfl) (by kernel_rfl) (by kernel_rfl) (fun v5 e_v5 h => ?_)
      refine O_p 2 ?_
      refine O_nil ?_
      refine Gh_e ⟨⟨30, [(0, .ro (a0.map cI_i64)), (1, .ro (a1.map cI_i64)), (5, .i s1), (20, .bool (v4 != v5))]⟩, []⟩ ?_
      refine W_gh ?_
      refine W_cond (c := (v4 != v5)) (by kernel_rfl) (fun c6 => ?_) (fun c6 => ?_)
      · replace h := fork_t c6 h
        refine W_seq ?_
        refine W_gh ?_
        refine W_draw ?_
        refine O_p 2 ?_
        refine O_idx (kd := .i64) cI_i64 h (fun _ => rfl) (by kernel_rfl) (by kernel_rfl) (by kernel_rfl) (fun v7 e_v7 h => ?_)
        refine O_p 3 ?_
        refine O_idx (kd := .i64) cI_i64 h (fun _ => rfl) (by kernel_rfl) (by kernel_rfl) (by kernel_rfl) (fun v8 e_v8 h => ?_)
        refine O_p 3 ?_
        refine O_nil ?_
        refine Gh_e ⟨⟨30, [(4, .bool (decide (v7 < v8))), (20, .bool (v4 != v5))]⟩, []⟩ ?_
        refine W_ret ?_
        replace h := Option.some.inj h; subst h
        refine ⟨_, rfl, fun h => ?_⟩
        replace h := Option.some.inj h; subst h
        exact Fin_free (l := [.bool (decide (v7 < v8))]) (by kernel_rfl) (by kernel_rfl) rfl
      · replace h := fork_f c6 h
        refine W_skip ?_
        refine Gh_e ⟨⟨30, [(0, .ro (a0.map cI_i64)), (1, .ro (a1.map cI_i64)), (5, .i s1)]⟩, []⟩ ?_
        refine Gh_e ⟨⟨30, [(0, .ro (a0.map cI_i64)), (1, .ro (a1.map cI_i64)), (5, .i s1)]⟩, []⟩ ?_
        refine W_gh ?_
        refine W_reg ?_
        refine O_p 3 ?_
        refine O_nil ?_
        refine Gh_e ⟨⟨30, [(0, .ro (a0.map cI_i64)), (1, .ro (a1.map cI_i64)), (5, .i (addI .i64 s1 1))]⟩, []⟩ ?_
        refine Gh_e ⟨⟨30, [(0, .ro (a0.map cI_i64)), (1, .ro (a1.map cI_i64)), (5, .i (addI .i64 s1 1))]⟩, []⟩ ?_
        replace h := Option.some.inj h; subst h
        exact ⟨_, rfl, by kernel_rfl⟩
    · replace h := fork_f c3 h
      refine W_exit ?_
      refine X_hit ?_
      refine Gh_e ⟨⟨30, []⟩, []⟩ ?_
      replace h := Option.some.inj h; subst h
      exact ⟨_, rfl, by kernel_rfl⟩
  · refine W_seq ?_
    refine W_reg ?_
    refine O_p 1 ?_
    refine O_nil ?_
    refine W_ret ?_
    replace h := Option.some.inj h; subst h
    exact Fin_free (l := [.bool false]) (by kernel_rfl) (by kernel_rfl) rfl

theorem p45 (a0 : SSequence) (r : (List Int)) (h : m45 a0 = some r) : Pt E0 hp 45 [.agg (cSSequence a0)] (.ro (r.map cI_i64)) := by
  unfold m45 at h
  refine Pt_W (fn45) rfl (by decide) ?_
  refine W_seq ?_
  refine W_gh ?_
  refine W_reg ?_
  refine O_p 2 ?_
  refine O_nil ?_
  refine Gh_e ⟨⟨67, [(1, .po 0 0)]⟩, [.lv 2 [.i a0.Actuators, .ro (a0.Steps.map cSStep)]]⟩ ?_
  refine W_seq ?_
  refine W_reg ?_
  refine O_p 1 ?_
  refine O_nil ?_
  refine W_seq ?_
  refine W_gh ?_
  refine W_reg ?_
  refine O_p 2 ?_
  refine O_len (l := a0.Steps) cSStep (by kernel_rfl) (by kernel_rfl) ?_
  refine O_call (fun v => .ro (v.map (cL cI_i64))) h (.inr rfl) (ys := [.i (a0.Steps.length : Int)]) (fun _ e => p64 _ _ e) (by kernel_rfl) (by kernel_rfl) (bels_cons rfl rfl) (fun v1 e_v1 h => ?_)
  refine O_p 1 ?_
  refine O_nil ?_
  refine Gh_e ⟨⟨67, [(1, .po 0 0), (3, .nils), (4, .ro (v1.map (cL cI_i64)))]⟩, [.lv 2 [.i a0.Actuators, .ro (a0.Steps.map cSStep)]]⟩ ?_
  refine W_seq ?_
  refine W_seq ?_
  refine W_reg ?_
  refine O_p 1 ?_
  refine O_nil ?_
  refine W_loopS (fun s2 : (Option (List Int)) × Int => ⟨⟨67, [(1, .po 0 0), (3, encO cI_i64 s2.1), (4, .ro (v1.map (cL cI_i64))), (5, .i s2.2)]⟩, [.lv 2 [.i a0.Actuators, .ro (a0.Steps.map cSStep)]]⟩) (fun w3 : (Option (List Int)) => ⟨⟨67, [(3, encO cI_i64 w3)]⟩, [.lv 2 [.i a0.Actuators, .ro (a0.Steps.map cSStep)]]⟩) h (by kernel_rfl) (fun s2 c h => ?_) (fun w3 e_w3 h => ?_)
  · refine W_gh ?_
    refine W_seq ?_
    refine W_seq ?_
    refine W_gh ?_
    refine W_reg ?_
    refine O_p 2 ?_
    refine O_len (l := v1) (cL cI_i64) (by kernel_rfl) (by kernel_rfl) ?_
    refine O_p 1 ?_
    refine O_nil ?_
    refine Gh_e ⟨⟨67, [(1, .po 0 0), (3, encO cI_i64 s2.1), (4, .ro (v1.map (cL cI_i64))), (5, .i s2.2), (13, .bool (decide (s2.2 < (v1.length : Int))))]⟩, [.lv 2 [.i a0.Actuators, .ro (a0.Steps.map cSStep)]]⟩ ?_
    refine W_gh ?_
    refine W_cond (c := (decide (s2.2 < (v1.length : Int)))) (by kernel_rfl) (fun c4 => ?_) (fun c4 => ?_)
    · replace h := fork_t c4 h
      refine W_skip ?_
      refine Gh_e ⟨⟨67, [(1, .po 0 0), (3, encO cI_i64 s2.1), (4, .ro (v1.map (cL cI_i64))), (5, .i s2.2)]⟩, [.lv 2 [.i a0.Actuators, .ro (a0.Steps.map cSStep)]]⟩ ?_
      refine W_seq ?_
      refine W_joinS (fun v : (Option (List Int)) => ⟨⟨67, [(1, .po 0 0), (3, encO cI_i64 v), (4, .ro (v1.map (cL cI_i64))), (5, .i s2.2)]⟩, [.lv 2 [.i a0.Actuators, .ro (a0.Steps.map cSStep)]]⟩) h (fun w h => ?_) (fun w5 e_w5 h => ?_)
      · refine W_gh ?_
        refine W_block ?_
        refine W_seq ?_
        refine W_seq ?_
        refine W_joinS (fun v : Bool => ⟨⟨67, [(1, .po 0 0), (3, encO cI_i64 s2.1), (4, .ro (v1.map (cL cI_i64))), (5, .i s2.2), (31, .bool v)]⟩, [.lv 2 [.i a0.Actuators, .ro (a0.Steps.map cSStep)]]⟩) h (fun w h => ?_) (fun w6 e_w6 h => ?_)
        · refine W_gh ?_
          refine W_draw ?_
          refine O_p 3 ?_
          refine O_idx (kd := .i64) (cL cI_i64) h (fun _ => rfl) (by kernel_rfl) (by kernel_rfl) (by kernel_rfl) (fun v7 e_v7 h => ?_)
          refine O_p 1 ?_
          refine O_call (fun v => .i v) h (.inr rfl) (ys := [.agg (cSSequence a0), .ro (v7.map cI_i64), .bool false]) (fun _ e => p65 _ _ _ _ e) (by kernel_rfl) (by kernel_rfl) (bels_cons (okSSequence.bel _) (bels_cons (ro_bel okI_i64.bel _) (bels_cons rfl rfl))) (fun v8 e_v8 h => ?_)
          refine O_p 2 ?_
          refine O_fork (n := 23) (v8 != 0) (by kernel_rfl) (fun c9 => ?_) (fun c9 => ?_)
          · replace h := fork_t c9 h
            refine O_p 8 ?_
            refine O_nil ?_
            refine Gh_e ⟨⟨67, [(1, .po 0 0), (3, encO cI_i64 s2.1), (4, .ro (v1.map (cL cI_i64))), (5, .i s2.2), (31, .bool true)]⟩, [.lv 2 [.i a0.Actuators, .ro (a0.Steps.map cSStep)]]⟩ ?_
            replace h := Option.some.inj h; subst h
            show _ = _
            kernel_rfl
          · replace h := fork_f c9 h
            refine O_p 3 ?_
            refine O_idx (kd := .i64) (cL cI_i64) h (fun _ => rfl) (by kernel_rfl) (by kernel_rfl) (by kernel_rfl) (fun v10 e_v10 h => ?_)
            refine O_p 1 ?_
            refine O_call (fun v => .bool v) h (.inr rfl) (ys := [.agg (cSSequence a0), .ro (v10.map cI_i64)]) (fun _ e => p66 _ _ _ e) (by kernel_rfl) (by kernel_rfl) (bels_cons (okSSequence.bel _) (bels_cons (ro_bel okI_i64.bel _) rfl)) (fun v11 e_v11 h => ?_)
            refine O_p 2 ?_
            refine O_nil ?_
            refine Gh_e ⟨⟨67, [(1, .po 0 0), (3, encO cI_i64 s2.1), (4, .ro (v1.map (cL cI_i64))), (5, .i s2.2), (31, .bool (!v11))]⟩, [.lv 2 [.i a0.Actuators, .ro (a0.Steps.map cSStep)]]⟩ ?_
            replace h := Option.some.inj h; subst h
            show _ = _
            kernel_rfl
        · refine W_gh ?_
          refine W_cond (c := w6) (by kernel_rfl) (fun c12 => ?_) (fun c12 => ?_)
          · replace h := fork_t c12 h
            refine W_exit ?_
            refine X_hit ?_
            refine Gh_e ⟨⟨67, [(1, .po 0 0), (3, encO cI_i64 s2.1), (4, .ro (v1.map (cL cI_i64))), (5, .i s2.2)]⟩, [.lv 2 [.i a0.Actuators, .ro (a0.Steps.map cSStep)]]⟩ ?_
            replace h := Option.some.inj h; subst h
            show _ = _
            kernel_rfl
          · replace h := fork_f c12 h
            refine W_skip ?_
            refine Gh_e ⟨⟨67, [(1, .po 0 0), (3, encO cI_i64 s2.1), (4, .ro (v1.map (cL cI_i64))), (5, .i s2.2)]⟩, [.lv 2 [.i a0.Actuators, .ro (a0.Steps.map cSStep)]]⟩ ?_
            refine W_seq ?_
            refine W_joinS (fun v : Bool => ⟨⟨67, [(1, .po 0 0), (3, encO cI_i64 s2.1), (4, .ro (v1.map (cL cI_i64))), (5, .i s2.2), (61, .bool v)]⟩, [.lv 2 [.i a0.Actuators, .ro (a0.Steps.map cSStep)]]⟩) h (fun w h => ?_) (fun w13 e_w13 h => ?_)
            · refine W_gh ?_
              refine W_reg ?_
              refine O_p 1 ?_
              refine O_eqN (C := cI_i64) h (by kernel_rfl) (by kernel_rfl) (by kernel_rfl) (fun v14 e_v14 h => ?_)
              refine O_p 1 ?_
              refine O_fork (n := 34) (v14 != false) (by kernel_rfl) (fun c15 => ?_) (fun c15 => ?_)
              · replace h := fork_t c15 h
                refine O_p 27 ?_
                refine O_nil ?_
                refine Gh_e ⟨⟨67, [(1, .po 0 0), (3, encO cI_i64 s2.1), (4, .ro (v1.map (cL cI_i64))), (5, .i s2.2), (61, .bool true)]⟩, [.lv 2 [.i a0.Actuators, .ro (a0.Steps.map cSStep)]]⟩ ?_
                replace h := Option.some.inj h; subst h
                show _ = _
                kernel_rfl
              · replace h := fork_f c15 h
                refine O_p 2 ?_
                refine O_idx (kd := .i64) (cL cI_i64) h (fun _ => rfl) (by kernel_rfl) (by kernel_rfl) (by kernel_rfl) (fun v16 e_v16 h => ?_)
                refine O_p 1 ?_
                refine O_len (l := v16) cI_i64 (by kernel_rfl) (by kernel_rfl) ?_
                refine O_p 1 ?_
                refine O_lenO (l := s2.1) cI_i64 (by kernel_rfl) (by kernel_rfl) ?_
                refine O_p 3 ?_
                refine O_fork (n := 44) (decide ((v16.length : Int) < ((s2.1.getD []).length : Int))) (by kernel_rfl) (fun c17 => ?_) (fun c17 => ?_)
                · replace h := fork_t c17 h
                  refine O_p 17 ?_
                  refine O_nil ?_
                  refine Gh_e ⟨⟨67, [(1, .po 0 0), (3, encO cI_i64 s2.1), (4, .ro (v1.map (cL cI_i64))), (5, .i s2.2), (61, .bool true)]⟩, [.lv 2 [.i a0.Actuators, .ro (a0.Steps.map cSStep)]]⟩ ?_
                  replace h := Option.some.inj h; subst h
                  show _ = _
                  kernel_rfl
                · replace h := fork_f c17 h
                  refine O_p 2 ?_
                  refine O_idx (kd := .i64) (cL cI_i64) h (fun _ => rfl) (by kernel_rfl) (by kernel_rfl) (by kernel_rfl) (fun v18 e_v18 h => ?_)
                  refine O_p 1 ?_
                  refine O_len (l := v18) cI_i64 (by kernel_rfl) (by kernel_rfl) ?_
                  refine O_p 1 ?_
                  refine O_lenO (l := s2.1) cI_i64 (by kernel_rfl) (by kernel_rfl) ?_
                  refine O_p 2 ?_
                  refine O_fork (n := 53) ((v18.length : Int) == ((s2.1.getD []).length : Int)) (by kernel_rfl) (fun c19 => ?_) (fun c19 => ?_)
                  · replace h := fork_t c19 h
                    refine O_p 2 ?_
                    refine O_idx (kd := .i64) (cL cI_i64) h (fun _ => rfl) (by kernel_rfl) (by kernel_rfl) (by kernel_rfl) (fun v20 e_v20 h => ?_)
                    refine O_p 2 ?_
                    refine O_roo (n := 58) cI_i64 h (by kernel_rfl) (fun v21 e_v21 h => ?_)
                    refine O_call (fun v => .bool v) h (.inr rfl) (ys := [.ro (v20.map cI_i64), .ro (v21.map cI_i64)]) (fun _ e => p67 _ _ _ e) (by kernel_rfl) (by kernel_rfl) (bels_cons (ro_bel okI_i64.bel _) (bels_cons (ro_bel okI_i64.bel _) rfl)) (fun v22 e_v22 h => ?_)
                    refine O_p 2 ?_
                    refine O_nil ?_
                    refine Gh_e ⟨⟨67, [(1, .po 0 0), (3, encO cI_i64 s2.1), (4, .ro (v1.map (cL cI_i64))), (5, .i s2.2), (61, .bool v22)]⟩, [.lv 2 [.i a0.Actuators, .ro (a0.Steps.map cSStep)]]⟩ ?_
                    replace h := Option.some.inj h; subst h
                    show _ = _
                    kernel_rfl
                  · replace h := fork_f c19 h
                    refine O_p 8 ?_
                    refine O_nil ?_
                    refine Gh_e ⟨⟨67, [(1, .po 0 0), (3, encO cI_i64 s2.1), (4, .ro (v1.map (cL cI_i64))), (5, .i s2.2), (61, .bool false)]⟩, [.lv 2 [.i a0.Actuators, .ro (a0.Steps.map cSStep)]]⟩ ?_
                    replace h := Option.some.inj h; subst h
                    show _ = _
                    kernel_rfl
            · refine W_joinS (fun v : (Option (List Int)) => ⟨⟨67, [(1, .po 0 0), (3, encO cI_i64 v), (4, .ro (v1.map (cL cI_i64))), (5, .i s2.2)]⟩, [.lv 2 [.i a0.Actuators, .ro (a0.Steps.map cSStep)]]⟩) h (fun w h => ?_) (fun w23 e_w23 h => ?_)
              · refine W_gh ?_
                refine W_cond (c := w13) (by kernel_rfl) (fun c24 => ?_) (fun c24 => ?_)
                · replace h := fork_t c24 h
                  refine W_gh ?_
                  refine W_reg ?_
                  refine O_p 2 ?_
                  refine O_idx (kd := .i64) (cL cI_i64) h (fun _ => rfl) (by kernel_rfl) (by kernel_rfl) (by kernel_rfl) (fun v25 e_v25 h => ?_)
                  refine O_p 2 ?_
                  refine O_nil ?_
                  refine Gh_e ⟨⟨67, [(1, .po 0 0), (3, .ro (v25.map cI_i64)), (4, .ro (v1.map (cL cI_i64))), (5, .i s2.2), (61, .bool w13)]⟩, [.lv 2 [.i a0.Actuators, .ro (a0.Steps.map cSStep)]]⟩ ?_
                  refine Gh_e ⟨⟨67, [(1, .po 0 0), (3, .ro (v25.map cI_i64)), (4, .ro (v1.map (cL cI_i64))), (5, .i s2.2)]⟩, [.lv 2 [.i a0.Actuators, .ro (a0.Steps.map cSStep)]]⟩ ?_
                  replace h := Option.some.inj h; subst h
                  show _ = _
                  kernel_rfl
                · replace h := fork_f c24 h
                  refine W_skip ?_
                  refine Gh_e ⟨⟨67, [(1, .po 0 0), (3, encO cI_i64 s2.1), (4, .ro (v1.map (cL cI_i64))), (5, .i s2.2)]⟩, [.lv 2 [.i a0.Actuators, .ro (a0.Steps.map cSStep)]]⟩ ?_
                  replace h := Option.some.inj h; subst h
                  show _ = _
                  kernel_rfl
              · refine Gh_e ⟨⟨67, [(1, .po 0 0), (3, encO cI_i64 w23), (4, .ro (v1.map (cL cI_i64))), (5, .i s2.2)]⟩, [.lv 2 [.i a0.Actuators, .ro (a0.Steps.map cSStep)]]⟩ ?_
                replace h := Option.some.inj h; subst h
                show _ = _
                kernel_rfl
      · refine W_gh ?_
        refine W_reg ?_
        refine O_p 3 ?_
        refine O_nil ?_
        refine Gh_e ⟨⟨67, [(1, .po 0 0), (3, encO cI_i64 w5), (4, .ro (v1.map (cL cI_i64))), (5, .i (addI .i64 s2.2 1))]⟩, [.lv 2 [.i a0.Actuators, .ro (a0.Steps.map cSStep)]]⟩ ?_
        refine Gh_e ⟨⟨67, [(1, .po 0 0), (3, encO cI_i64 w5), (4, .ro (v1.map (cL cI_i64))), (5, .i (addI .i64 s2.2 1))]⟩, [.lv 2 [.i a0.Actuators, .ro (a0.Steps.map cSStep)]]⟩ ?_
        replace h := Option.some.inj h; subst h
        exact ⟨_, rfl, by kernel_rfl⟩
    · replace h := fork_f c4 h
      refine W_exit ?_
      refine X_hit ?_
      refine Gh_e ⟨⟨67, [(3, encO cI_i64 s2.1)]⟩, [.lv 2 [.i a0.Actuators, .ro (a0.Steps.map cSStep)]]⟩ ?_
      replace h := Option.some.inj h; subst h
      exact ⟨_, rfl, by kernel_rfl⟩
  · refine W_seq ?_
    refine W_gh ?_
    refine W_reg ?_
    refine O_p 1 ?_
    refine O_roo (n := 66) cI_i64 h (by kernel_rfl) (fun v26 e_v26 h => ?_)
    refine O_p 1 ?_
    refine O_nil ?_
    refine Gh_e ⟨⟨67, [(2, .ro (v26.map cI_i64))]⟩, [.lv 2 [.i a0.Actuators, .ro (a0.Steps.map cSStep)]]⟩ ?_
    refine W_ret ?_
    replace h := Option.some.inj h; subst h
    exact Fin_free (l := [.ro (v26.map cI_i64)]) (by kernel_rfl) (by kernel_rfl) (ro_bel okI_i64.bel _)

theorem p20 (a0 : SSequence) (r : ((List Int) × Int)) (h : m20 a0 = some r) : Pt E0 hp 20 [.agg (cSSequence a0)] (.tup [.ro (r.1.map cI_i64), .i r.2]) := by
  unfold m20 at h
  refine Pt_W (fn20) rfl (by decide) ?_
  refine W_seq ?_
  refine W_gh ?_
  refine W_reg ?_
  refine O_p 3 ?_
  refine O_nil ?_
  refine Gh_e ⟨⟨12, [(1, .po 0 0)]⟩, [.lv 2 [.i a0.Actuators, .ro (a0.Steps.map cSStep)]]⟩ ?_
  refine W_seq ?_
  refine W_seq ?_
  refine W_gh ?_
  refine W_reg ?_
  refine O_p 1 ?_
  refine O_call (fun v => .i v) h (.inr rfl) (ys := [.agg (cSSequence a0)]) (fun _ e => p37 _ _ e) (by kernel_rfl) (by kernel_rfl) (bels_cons (okSSequence.bel _) rfl) (fun v1 e_v1 h => ?_)
  refine O_p 1 ?_
  refine O_nil ?_
  refine Gh_e ⟨⟨12, [(1, .po 0 0), (4, .i v1)]⟩, [.lv 2 [.i a0.Actuators, .ro (a0.Steps.map cSStep)]]⟩ ?_
  refine W_seq ?_
  refine W_gh ?_
  refine W_reg ?_
  refine O_p 2 ?_
  refine O_nil ?_
  refine Gh_e ⟨⟨12, [(1, .po 0 0), (4, .i v1), (8, .bool (v1 != 0))]⟩, [.lv 2 [.i a0.Actuators, .ro (a0.Steps.map cSStep)]]⟩ ?_
  refine W_gh ?_
  refine W_cond (c := (v1 != 0)) (by kernel_rfl) (fun c2 => ?_) (fun c2 => ?_)
  · replace h := fork_t c2 h
    refine W_seq ?_
    refine W_gh ?_
    refine W_reg ?_
    refine O_p 3 ?_
    refine O_nil ?_
    refine Gh_e ⟨⟨12, [(1, .po 0 0), (2, .ro (([] : List Int).map cI_i64)), (3, .i v1), (8, .bool (v1 != 0))]⟩, [.lv 2 [.i a0.Actuators, .ro (a0.Steps.map cSStep)]]⟩ ?_
    refine W_ret ?_
    replace h := Option.some.inj h; subst h
    exact Fin_free (l := [.ro (([] : List Int).map cI_i64), .i v1]) (by kernel_rfl) (by kernel_rfl) (bels_cons (ro_bel okI_i64.bel _) (bels_cons rfl rfl))
  · replace h := fork_f c2 h
    refine W_skip ?_
    refine Gh_e ⟨⟨12, [(1, .po 0 0)]⟩, [.lv 2 [.i a0.Actuators, .ro (a0.Steps.map cSStep)]]⟩ ?_
    refine W_seq ?_
    refine W_gh ?_
    refine W_reg ?_
    refine O_p 1 ?_
    refine O_call (fun v => .ro (v.map cI_i64)) h (.inr rfl) (ys := [.agg (cSSequence a0)]) (fun _ e => p45 _ _ e) (by kernel_rfl) (by kernel_rfl) (bels_cons (okSSequence.bel _) rfl) (fun v3 e_v3 h => ?_)
    refine O_p 2 ?_
    refine O_nil ?_
    refine Gh_e ⟨⟨12, [(2, .ro (v3.map cI_i64)), (3, .i 0)]⟩, [.lv 2 [.i a0.Actuators, .ro (a0.Steps.map cSStep)]]⟩ ?_
    refine W_ret ?_
    replace h := Option.some.inj h; subst h
    exact Fin_free (l := [.ro (v3.map cI_i64), .i 0]) (by kernel_rfl) (by kernel_rfl) (bels_cons (ro_bel okI_i64.bel _) (bels_cons rfl rfl))

theorem p5 (a0 : SSequence) (r : Bool) (h : m5 a0 = some r) : Pt E0 hp 5 [.agg (cSSequence a0)] (.bool r) := by
  unfold m5 at h
  refine Pt_W (fn5) rfl (by decide) ?_
  refine W_seq ?_
  refine W_gh ?_
  refine W_reg ?_
  refine O_p 2 ?_
  refine O_nil ?_
  refine Gh_e ⟨⟨32, [(1, .po 0 0)]⟩, [.lv 2 [.i a0.Actuators, .ro (a0.Steps.map cSStep)]]⟩ ?_
  refine W_seq ?_
  refine W_seq ?_
  refine W_gh ?_
  refine W_reg ?_
  refine O_p 1 ?_
  refine O_call (fun v => .bool v) h (.inr rfl) (ys := [.agg (cSSequence a0)]) (fun _ e => p15 _ _ e) (by kernel_rfl) (by kernel_rfl) (bels_cons (okSSequence.bel _) rfl) (fun v1 e_v1 h => ?_)
  refine O_p 1 ?_
  refine O_nil ?_
  refine Gh_e ⟨⟨32, [(1, .po 0 0), (9, .bool (!v1))]⟩, [.lv 2 [.i a0.Actuators, .ro (a0.Steps.map cSStep)]]⟩ ?_
  refine W_gh ?_
  refine W_cond (c := (!v1)) (by kernel_rfl) (fun c2 => ?_) (fun c2 => ?_)
  · replace h := fork_t c2 h
    refine W_seq ?_
    refine W_gh ?_
    refine W_reg ?_
    refine O_call (fun v => .bool v) h (.inr rfl) (ys := []) (fun _ e => p12  _ e) (by kernel_rfl) (by kernel_rfl) rfl (fun v3 e_v3 h => ?_)
    refine O_p 1 ?_
    refine O_nil ?_
    refine Gh_e ⟨⟨32, [(1, .po 0 0), (2, .bool v3), (9, .bool (!v1))]⟩, [.lv 2 [.i a0.Actuators, .ro (a0.Steps.map cSStep)]]⟩ ?_
    refine W_ret ?_
    replace h := Option.some.inj h; subst h
    exact Fin_free (l := [.bool v3]) (by kernel_rfl) (by kernel_rfl) rfl
  · replace h := fork_f c2 h
    refine W_skip ?_
    refine Gh_e ⟨⟨32, [(1, .po 0 0)]⟩, [.lv 2 [.i a0.Actuators, .ro (a0.Steps.map cSStep)]]⟩ ?_
    refine W_seq ?_
    refine W_gh ?_
    refine W_reg ?_
    refine O_p 1 ?_
    refine O_call (fun v => .tup [.ro (v.1.map cI_i64), .i v.2]) h (.inr rfl) (ys := [.agg (cSSequence a0)]) (fun _ e => p19 _ _ e) (by kernel_rfl) (by kernel_rfl) (bels_cons (okSSequence.bel _) rfl) (fun v4 e_v4 h => ?_)
    refine O_p 5 ?_
    refine O_nil ?_
    refine Gh_e ⟨⟨32, [(1, .po 0 0), (3, .ro (v4.1.map cI_i64)), (4, .i v4.2)]⟩, [.lv 2 [.i a0.Actuators, .ro (a0.Steps.map cSStep)]]⟩ ?_
    refine W_seq ?_
    refine W_gh ?_
    refine W_reg ?_
    refine O_p 1 ?_
    refine O_call (fun v => .tup [.ro (v.1.map cI_i64), .i v.2]) h (.inr rfl) (ys := [.agg (cSSequence a0)]) (fun _ e => p20 _ _ e) (by kernel_rfl) (by kernel_rfl) (bels_cons (okSSequence.bel _) rfl) (fun v5 e_v5 h => ?_)
    refine O_p 5 ?_
    refine O_nil ?_
    refine Gh_e ⟨⟨32, [(3, .ro (v4.1.map cI_i64)), (4, .i v4.2), (5, .ro (v5.1.map cI_i64)), (6, .i v5.2)]⟩, [.lv 2 [.i a0.Actuators, .ro (a0.Steps.map cSStep)]]⟩ ?_
    refine W_seq ?_
    refine W_joinS (fun v : Bool => ⟨⟨32, [(2, .bool v)]⟩, [.lv 2 [.i a0.Actuators, .ro (a0.Steps.map cSStep)]]⟩) h (fun w h => ?_) (fun w6 e_w6 h => ?_)
    · refine W_gh ?_
      refine W_reg ?_
      refine O_p 2 ?_
      refine O_call (fun v => .bool v) h (.inr rfl) (ys := [.ro (v4.1.map cI_i64), .ro (v5.1.map cI_i64)]) (fun _ e => p18 _ _ _ e) (by kernel_rfl) (by kernel_rfl) (bels_cons (ro_bel okI_i64.bel _) (bels_cons (ro_bel okI_i64.bel _) rfl)) (fun v7 e_v7 h => ?_)
      refine O_p 1 ?_
      refine O_fork (n := 24) v7 (by kernel_rfl) (fun c8 => ?_) (fun c8 => ?_)
      · replace h := fork_t c8 h
        refine O_p 5 ?_
        refine O_fork (n := 29) (v4.2 == v5.2) (by kernel_rfl) (fun c9 => ?_) (fun c9 => ?_)
        · replace h := fork_t c9 h
          refine O_call (fun v => .bool v) h (.inr rfl) (ys := []) (fun _ e => p12  _ e) (by kernel_rfl) (by kernel_rfl) rfl (fun v10 e_v10 h => ?_)
          refine O_p 2 ?_
          refine O_nil ?_
          refine Gh_e ⟨⟨32, [(2, .bool v10)]⟩, [.lv 2 [.i a0.Actuators, .ro (a0.Steps.map cSStep)]]⟩ ?_
          replace h := Option.some.inj h; subst h
          show _ = _
          kernel_rfl
        · replace h := fork_f c9 h
          refine O_p 3 ?_
          refine O_nil ?_
          refine Gh_e ⟨⟨32, [(2, .bool false)]⟩, [.lv 2 [.i a0.Actuators, .ro (a0.Steps.map cSStep)]]⟩ ?_
          replace h := Option.some.inj h; subst h
          show _ = _
          kernel_rfl
      · replace h := fork_f c8 h
        refine O_p 8 ?_
        refine O_nil ?_
        refine Gh_e ⟨⟨32, [(2, .bool false)]⟩, [.lv 2 [.i a0.Actuators, .ro (a0.Steps.map cSStep)]]⟩ ?_
        replace h := Option.some.inj h; subst h
        show _ = _
        kernel_rfl
    · refine W_ret ?_
      replace h := Option.some.inj h; subst h
      exact Fin_free (l := [.bool w6]) (by kernel_rfl) (by kernel_rfl) rfl
end G18
