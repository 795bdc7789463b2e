/- The code computes the models, printed by a program of mine (dec.py). No condition. -/
import Derived.Test.YtoobbcmofleljaaDoorG18p0
import Derived.Test.YtoobbcmofleljaaDoorG18r
namespace G18
open Go Go.Pl Go.Am Go.Am.As
set_option linter.unusedVariables false
set_option linter.unusedSimpArgs false
set_option maxHeartbeats 1000000

theorem p77 (a0 : SStep) (a1 : (List Bool)) (r : (List Bool)) (h : m77 a0 a1 = some r) : Pt E0 hp 77 [.agg (cSStep a0), .ro (a1.map cB)] (.ro (r.map cB)) := by
  unfold m77 at h
  refine Pt_W (fn77) rfl (by decide) ?_
  refine W_seq ?_
  refine W_gh ?_
  refine W_reg ?_
  refine O_ps 2 (by kernel_rfl) ?_
  refine O_nil ?_
  refine Gh_end (s1 := ⟨⟨32, [(1, .ro (a1.map cB)), (2, .pown 0 1 0 0)]⟩, [.live .norm 2 [[.ro (a0.Strokes.map cSStroke), .int .i64 a0.Wait]]]⟩) _ (by kernel_rfl) ?_
  refine W_seq ?_
  refine W_gh ?_
  refine W_reg ?_
  refine O_ps 2 (by kernel_rfl) ?_
  refine O_app (C := cB) (id := 1) (nl := .norm) okB h rfl (by kernel_rfl) (by kernel_rfl) (by kernel_rfl) (by kernel_rfl) rfl (fun l1 e_l1 h => ?_)
  refine O_ps 1 (by kernel_rfl) ?_
  refine O_nil ?_
  refine Gh_one (s1 := ⟨⟨32, [(2, .pown 0 1 0 0), (5, .own 1 l1.length 0 l1.length)]⟩, [.live .norm 2 [[.ro (a0.Strokes.map cSStroke), .int .i64 a0.Wait]], .live .norm 1 (l1.map cB)]⟩) (by kernel_rfl) ?_
  refine Gh_trunc0 (by kernel_rfl) ?_
  refine Gh_nil ?_
  refine W_seq ?_
  refine W_seq ?_
  refine W_reg ?_
  refine O_ps 1 (by kernel_rfl) ?_
  refine O_nil ?_
  refine W_loopS (fun s2 : (List Bool) × Int => ⟨⟨32, [(2, .pown 0 1 0 0), (5, .own 1 s2.1.length 0 s2.1.length), (6, .int .i64 s2.2)]⟩, [.live .norm 2 [[.ro (a0.Strokes.map cSStroke), .int .i64 a0.Wait]], .live .norm 1 (s2.1.map cB)]⟩) (fun w3 : (List Bool) => ⟨⟨32, [(5, .own 1 w3.length 0 w3.length)]⟩, [.live .norm 2 [[.ro (a0.Strokes.map cSStroke), .int .i64 a0.Wait]], .live .norm 1 (w3.map cB)]⟩) h (by kernel_rfl) (fun s2 c h => ?_) (fun w3 e_w3 h => ?_)
  · refine W_gh ?_
    refine W_seq ?_
    refine W_seq ?_
    refine W_gh ?_
    refine W_reg ?_
    refine O_ps 3 (by kernel_rfl) ?_
    refine O_len (l := a0.Strokes) cSStroke (by kernel_rfl) (by kernel_rfl) ?_
    refine O_ps 1 (by kernel_rfl) ?_
    refine O_nil ?_
    refine Gh_end (s1 := ⟨⟨32, [(2, .pown 0 1 0 0), (5, .own 1 s2.1.length 0 s2.1.length), (6, .int .i64 s2.2), (14, .bool (decide (s2.2 < (a0.Strokes.length : Int))))]⟩, [.live .norm 2 [[.ro (a0.Strokes.map cSStroke), .int .i64 a0.Wait]], .live .norm 1 (s2.1.map cB)]⟩) _ (by kernel_rfl) ?_
    refine W_gh ?_
    refine W_cond (c := (decide (s2.2 < (a0.Strokes.length : Int)))) (by kernel_rfl) (fun c4 => ?_) (fun c4 => ?_)
    · replace h := fork_t c4 h
      refine W_skip ?_
      refine Gh_end (s1 := ⟨⟨32, [(2, .pown 0 1 0 0), (5, .own 1 s2.1.length 0 s2.1.length), (6, .int .i64 s2.2)]⟩, [.live .norm 2 [[.ro (a0.Strokes.map cSStroke), .int .i64 a0.Wait]], .live .norm 1 (s2.1.map cB)]⟩) _ (by kernel_rfl) ?_
      refine W_seq ?_
      refine W_block ?_
      refine W_gh ?_
      refine W_draw ?_
      refine O_ps 4 (by kernel_rfl) ?_
      refine O_idx (kd := .i64) cSStroke h (fun _ => rfl) (by kernel_rfl) (by kernel_rfl) (by kernel_rfl) (fun v5 e_v5 h => ?_)
      refine O_ps 5 (by kernel_rfl) ?_
      refine O_idx (kd := .i64) cSStroke h (fun _ => rfl) (by kernel_rfl) (by kernel_rfl) (by kernel_rfl) (fun v6 e_v6 h => ?_)
      refine O_ps 2 (by kernel_rfl) ?_
      refine O_iadO (kd := .i64) (id := 1) (nl := .norm) cB h rfl (by kernel_rfl) (by kernel_rfl) (by kernel_rfl) (by kernel_rfl) (fun v7 e_v7 h => ?_)
      refine O_stW (id := 1) (nl := .norm) (v' := v6.Out) cB e_v7 rfl rfl (fun _ => rfl) (by kernel_rfl) (by kernel_rfl) (by kernel_rfl) (cs := [.bool v6.Out]) (by kernel_rfl) (by kernel_rfl) rfl rfl rfl ?_
      refine O_nil ?_
      refine Gh_endn (s1 := ⟨⟨32, [(2, .pown 0 1 0 0), (5, .own 1 s2.1.length 0 s2.1.length), (6, .int .i64 s2.2)]⟩, [.live .norm 2 [[.ro (a0.Strokes.map cSStroke), .int .i64 a0.Wait]], .live .norm 1 ((s2.1.set v5.Actuator.toNat v6.Out).map cB)]⟩) (s2 := ⟨⟨32, [(2, .pown 0 1 0 0), (5, .own 1 ((s2.1.set v5.Actuator.toNat v6.Out).length) 0 ((s2.1.set v5.Actuator.toNat v6.Out).length)), (6, .int .i64 s2.2)]⟩, [.live .norm 2 [[.ro (a0.Strokes.map cSStroke), .int .i64 a0.Wait]], .live .norm 1 ((s2.1.set v5.Actuator.toNat v6.Out).map cB)]⟩) _ (by kernel_rfl) (by simp only [List.length_set]) ?_
      refine W_gh ?_
      refine W_reg ?_
      refine O_ps 3 (by kernel_rfl) ?_
      refine O_nil ?_
      refine Gh_end (s1 := ⟨⟨32, [(2, .pown 0 1 0 0), (5, .own 1 ((s2.1.set v5.Actuator.toNat v6.Out).length) 0 ((s2.1.set v5.Actuator.toNat v6.Out).length)), (6, .int .i64 (addI .i64 s2.2 1))]⟩, [.live .norm 2 [[.ro (a0.Strokes.map cSStroke), .int .i64 a0.Wait]], .live .norm 1 ((s2.1.set v5.Actuator.toNat v6.Out).map cB)]⟩) _ (by kernel_rfl) ?_
      refine Gh_end (s1 := ⟨⟨32, [(2, .pown 0 1 0 0), (5, .own 1 ((s2.1.set v5.Actuator.toNat v6.Out).length) 0 ((s2.1.set v5.Actuator.toNat v6.Out).length)), (6, .int .i64 (addI .i64 s2.2 1))]⟩, [.live .norm 2 [[.ro (a0.Strokes.map cSStroke), .int .i64 a0.Wait]], .live .norm 1 ((s2.1.set v5.Actuator.toNat v6.Out).map cB)]⟩) _ (by kernel_rfl) ?_
      replace h := Option.some.inj h; subst h
      exact ⟨_, rfl, by kernel_rfl⟩
    · replace h := fork_f c4 h
      refine W_exit ?_
      refine X_hit ?_
      refine Gh_end (s1 := ⟨⟨32, [(5, .own 1 s2.1.length 0 s2.1.length)]⟩, [.live .norm 2 [[.ro (a0.Strokes.map cSStroke), .int .i64 a0.Wait]], .live .norm 1 (s2.1.map cB)]⟩) _ (by kernel_rfl) ?_
      replace h := Option.some.inj h; subst h
      exact ⟨_, rfl, by kernel_rfl⟩
  · refine W_seq ?_
    refine W_gh ?_
    refine W_reg ?_
    refine O_ps 2 (by kernel_rfl) ?_
    refine O_nil ?_
    refine Gh_end (s1 := ⟨⟨32, [(4, .own 1 w3.length 0 w3.length)]⟩, [.live .norm 2 [[.ro (a0.Strokes.map cSStroke), .int .i64 a0.Wait]], .live .norm 1 (w3.map cB)]⟩) _ (by kernel_rfl) ?_
    refine W_ret ?_
    replace h := Option.some.inj h; subst h
    exact Fin_pk (l := [.own 1 w3.length 0 w3.length]) (by kernel_rfl) (pk_own (d := 5) (id := 1) (nl := .norm) (sz := 1) (l := w3) okB.bel (by kernel_rfl) rfl)

theorem p62 (a0 : SSequence) (r : Int) (h : m62 a0 = some r) : Pt E0 hp 62 [.agg (cSSequence a0)] (.int .i64 r) := by
  unfold m62 at h
  refine Pt_W (fn62) rfl (by decide) ?_
  refine W_seq ?_
  refine W_gh ?_
  refine W_reg ?_
  refine O_ps 2 (by kernel_rfl) ?_
  refine O_nil ?_
  refine Gh_end (s1 := ⟨⟨62, [(1, .pown 0 1 0 0)]⟩, [.live .norm 2 [[.int .i64 a0.Actuators, .ro (a0.Steps.map cSStep)]]]⟩) _ (by kernel_rfl) ?_
  refine W_seq ?_
  refine W_gh ?_
  refine W_reg ?_
  refine O_ps 2 (by kernel_rfl) ?_
  refine O_mks (C := cB) okB (z0 := false) (by kernel_rfl) h (by kernel_rfl) (by kernel_rfl) (by kernel_rfl) (fun l1 e_l1 h => ?_)
  refine O_ps 1 (by kernel_rfl) ?_
  refine O_nil ?_
  refine Gh_one (frz_own (id := 1) (nl := .norm) (sz := 1) (l := l1) okB.bel (by kernel_rfl) (by kernel_rfl) rfl rfl (s1 := ⟨⟨62, [(1, .pown 0 1 0 0), (3, .ro (l1.map cB)), (9, .pown 0 1 0 0), (10, .int .i64 a0.Actuators), (11, .own 1 l1.length 0 l1.length)]⟩, [.live .norm 2 [[.int .i64 a0.Actuators, .ro (a0.Steps.map cSStep)]], .dead]⟩) (by kernel_rfl)) ?_
  refine Gh_one (s1 := ⟨⟨62, [(1, .pown 0 1 0 0), (3, .ro (l1.map cB))]⟩, [.live .norm 2 [[.int .i64 a0.Actuators, .ro (a0.Steps.map cSStep)]], .dead]⟩) (by kernel_rfl) ?_
  refine Gh_at (s1 := ⟨⟨62, [(1, .pown 0 1 0 0), (3, .ro (l1.map cB))]⟩, [.live .norm 2 [[.int .i64 a0.Actuators, .ro (a0.Steps.map cSStep)]], .dead]⟩) (by kernel_rfl) ?_
  refine Gh_trunc (s1 := ⟨⟨62, [(1, .pown 0 1 0 0), (3, .ro (l1.map cB))]⟩, [.live .norm 2 [[.int .i64 a0.Actuators, .ro (a0.Steps.map cSStep)]]]⟩) (by kernel_rfl) (tb_ref rfl (tb_free (ro_bel okB.bel _) rfl)) (H1 := [.live .norm 2 [[.int .i64 a0.Actuators, .ro (a0.Steps.map cSStep)]]]) (by kernel_rfl) (ob_boxn (bn_free rfl (bn_free (ro_bel okSStep.bel _) rfl)) rfl) (by kernel_rfl) ?_
  refine Gh_nil ?_
  refine W_seq ?_
  refine W_seq ?_
  refine W_reg ?_
  refine O_ps 1 (by kernel_rfl) ?_
  refine O_nil ?_
  refine W_loop (fun s2 : (List Bool) × Int => ⟨⟨62, [(1, .pown 0 1 0 0), (3, .ro (s2.1.map cB)), (4, .int .i64 s2.2)]⟩, [.live .norm 2 [[.int .i64 a0.Actuators, .ro (a0.Steps.map cSStep)]]]⟩) (fun w3 : (List Bool) => ⟨⟨62, [(1, .pown 0 1 0 0), (3, .ro (w3.map cB))]⟩, [.live .norm 2 [[.int .i64 a0.Actuators, .ro (a0.Steps.map cSStep)]]]⟩) h (by kernel_rfl) (fun s2 c h => ?_) (fun w3 h => ?_)
  · refine W_gh ?_
    refine W_seq ?_
    refine W_seq ?_
    refine W_gh ?_
    refine W_reg ?_
    refine O_ps 3 (by kernel_rfl) ?_
    refine O_len (l := a0.Steps) cSStep (by kernel_rfl) (by kernel_rfl) ?_
    refine O_ps 1 (by kernel_rfl) ?_
    refine O_nil ?_
    refine Gh_end (s1 := ⟨⟨62, [(1, .pown 0 1 0 0), (3, .ro (s2.1.map cB)), (4, .int .i64 s2.2), (16, .bool (decide (s2.2 < (a0.Steps.length : Int))))]⟩, [.live .norm 2 [[.int .i64 a0.Actuators, .ro (a0.Steps.map cSStep)]]]⟩) _ (by kernel_rfl) ?_
    refine W_gh ?_
    refine W_cond (c := (decide (s2.2 < (a0.Steps.length : Int)))) (by kernel_rfl) (fun c4 => ?_) (fun c4 => ?_)
    · replace h := fork_t c4 h
      refine W_skip ?_
      refine Gh_end (s1 := ⟨⟨62, [(1, .pown 0 1 0 0), (3, .ro (s2.1.map cB)), (4, .int .i64 s2.2)]⟩, [.live .norm 2 [[.int .i64 a0.Actuators, .ro (a0.Steps.map cSStep)]]]⟩) _ (by kernel_rfl) ?_
      refine W_seq ?_
      refine W_gh ?_
      refine W_block ?_
      refine W_seq ?_
      refine W_gh ?_
      refine W_reg ?_
      refine O_ps 3 (by kernel_rfl) ?_
      refine O_idx (kd := .i64) cSStep h (fun _ => rfl) (by kernel_rfl) (by kernel_rfl) (by kernel_rfl) (fun v5 e_v5 h => ?_)
      refine O_ps 3 (by kernel_rfl) ?_
      refine O_nil ?_
      refine Gh_end (s1 := ⟨⟨62, [(1, .pown 0 1 0 0), (3, .ro (s2.1.map cB)), (4, .int .i64 s2.2), (5, .pown 1 1 0 0)]⟩, [.live .norm 2 [[.int .i64 a0.Actuators, .ro (a0.Steps.map cSStep)]], .live .norm 2 [[.ro (v5.Strokes.map cSStroke), .int .i64 v5.Wait]]]⟩) _ (by kernel_rfl) ?_
      refine W_seq ?_
      refine W_seq ?_
      refine W_gh ?_
      refine W_reg ?_
      refine O_ps 1 (by kernel_rfl) ?_
      refine O_call (fun v => .int .i64 v) h (.inr rfl) (ys := [.agg (cSStep v5)]) (fun _ e => p75 _ _ e) (by kernel_rfl) (by kernel_rfl) (bels_cons (okSStep.bel _) rfl) (fun v6 e_v6 h => ?_)
      refine O_ps 1 (by kernel_rfl) ?_
      refine O_nil ?_
      refine Gh_end (s1 := ⟨⟨62, [(1, .pown 0 1 0 0), (3, .ro (s2.1.map cB)), (4, .int .i64 s2.2), (5, .pown 1 1 0 0), (6, .int .i64 v6)]⟩, [.live .norm 2 [[.int .i64 a0.Actuators, .ro (a0.Steps.map cSStep)]], .live .norm 2 [[.ro (v5.Strokes.map cSStroke), .int .i64 v5.Wait]]]⟩) _ (by kernel_rfl) ?_
      refine W_seq ?_
      refine W_gh ?_
      refine W_reg ?_
      refine O_ps 2 (by kernel_rfl) ?_
      refine O_nil ?_
      refine Gh_end (s1 := ⟨⟨62, [(1, .pown 0 1 0 0), (3, .ro (s2.1.map cB)), (4, .int .i64 s2.2), (5, .pown 1 1 0 0), (6, .int .i64 v6), (27, .bool (v6 != 0))]⟩, [.live .norm 2 [[.int .i64 a0.Actuators, .ro (a0.Steps.map cSStep)]], .live .norm 2 [[.ro (v5.Strokes.map cSStroke), .int .i64 v5.Wait]]]⟩) _ (by kernel_rfl) ?_
      refine W_gh ?_
      refine W_cond (c := (v6 != 0)) (by kernel_rfl) (fun c7 => ?_) (fun c7 => ?_)
      · replace h := fork_t c7 h
        refine W_seq ?_
        refine W_gh ?_
        refine W_reg ?_
        refine O_ps 2 (by kernel_rfl) ?_
        refine O_nil ?_
        refine Gh_end (s1 := ⟨⟨62, [(1, .pown 0 1 0 0), (2, .int .i64 v6), (3, .ro (s2.1.map cB)), (4, .int .i64 s2.2), (5, .pown 1 1 0 0), (27, .bool (v6 != 0))]⟩, [.live .norm 2 [[.int .i64 a0.Actuators, .ro (a0.Steps.map cSStep)]], .live .norm 2 [[.ro (v5.Strokes.map cSStroke), .int .i64 v5.Wait]]]⟩) _ (by kernel_rfl) ?_
        refine W_ret ?_
        replace h := Option.some.inj h; subst h
        refine ⟨_, rfl, fun h => ?_⟩
        replace h := Option.some.inj h; subst h
        exact Fin_free (l := [.int .i64 v6]) (by kernel_rfl) (by kernel_rfl) rfl
      · replace h := fork_f c7 h
        refine W_skip ?_
        refine Gh_end (s1 := ⟨⟨62, [(1, .pown 0 1 0 0), (3, .ro (s2.1.map cB)), (4, .int .i64 s2.2), (5, .pown 1 1 0 0)]⟩, [.live .norm 2 [[.int .i64 a0.Actuators, .ro (a0.Steps.map cSStep)]], .live .norm 2 [[.ro (v5.Strokes.map cSStroke), .int .i64 v5.Wait]]]⟩) _ (by kernel_rfl) ?_
        refine W_seq ?_
        refine W_seq ?_
        refine W_reg ?_
        refine O_ps 1 (by kernel_rfl) ?_
        refine O_nil ?_
        refine W_loop (fun s8 : Int => ⟨⟨62, [(1, .pown 0 1 0 0), (3, .ro (s2.1.map cB)), (4, .int .i64 s2.2), (5, .pown 1 1 0 0), (7, .int .i64 s8)]⟩, [.live .norm 2 [[.int .i64 a0.Actuators, .ro (a0.Steps.map cSStep)]], .live .norm 2 [[.ro (v5.Strokes.map cSStroke), .int .i64 v5.Wait]]]⟩) (fun w9 : Unit => ⟨⟨62, [(1, .pown 0 1 0 0), (3, .ro (s2.1.map cB)), (4, .int .i64 s2.2), (5, .pown 1 1 0 0)]⟩, [.live .norm 2 [[.int .i64 a0.Actuators, .ro (a0.Steps.map cSStep)]], .live .norm 2 [[.ro (v5.Strokes.map cSStroke), .int .i64 v5.Wait]]]⟩) h (by kernel_rfl) (fun s8 c h => ?_) (fun w9 h => ?_)
        · refine W_gh ?_
          refine W_seq ?_
          refine W_seq ?_
          refine W_gh ?_
          refine W_reg ?_
          refine O_ps 3 (by kernel_rfl) ?_
          refine O_len (l := v5.Strokes) cSStroke (by kernel_rfl) (by kernel_rfl) ?_
          refine O_ps 1 (by kernel_rfl) ?_
          refine O_nil ?_
          refine Gh_end (s1 := ⟨⟨62, [(1, .pown 0 1 0 0), (3, .ro (s2.1.map cB)), (4, .int .i64 s2.2), (5, .pown 1 1 0 0), (7, .int .i64 s8), (33, .bool (decide (s8 < (v5.Strokes.length : Int))))]⟩, [.live .norm 2 [[.int .i64 a0.Actuators, .ro (a0.Steps.map cSStep)]], .live .norm 2 [[.ro (v5.Strokes.map cSStroke), .int .i64 v5.Wait]]]⟩) _ (by kernel_rfl) ?_
          refine W_gh ?_
          refine W_cond (c := (decide (s8 < (v5.Strokes.length : Int)))) (by kernel_rfl) (fun c10 => ?_) (fun c10 => ?_)
          · replace h := fork_t c10 h
            refine W_skip ?_
            refine Gh_end (s1 := ⟨⟨62, [(1, .pown 0 1 0 0), (3, .ro (s2.1.map cB)), (4, .int .i64 s2.2), (5, .pown 1 1 0 0), (7, .int .i64 s8)]⟩, [.live .norm 2 [[.int .i64 a0.Actuators, .ro (a0.Steps.map cSStep)]], .live .norm 2 [[.ro (v5.Strokes.map cSStroke), .int .i64 v5.Wait]]]⟩) _ (by kernel_rfl) ?_
            refine W_seq ?_
            refine W_gh ?_
            refine W_block ?_
            refine W_seq ?_
            refine W_gh ?_
            refine W_draw ?_
            refine O_ps 3 (by kernel_rfl) ?_
            refine O_idx (kd := .i64) cSStroke h (fun _ => rfl) (by kernel_rfl) (by kernel_rfl) (by kernel_rfl) (fun v11 e_v11 h => ?_)
            refine O_ps 5 (by kernel_rfl) ?_
            refine O_nil ?_
            refine Gh_end (s1 := ⟨⟨62, [(1, .pown 0 1 0 0), (3, .ro (s2.1.map cB)), (4, .int .i64 s2.2), (5, .pown 1 1 0 0), (7, .int .i64 s8), (44, .bool (decide (v11.Actuator ≥ a0.Actuators)))]⟩, [.live .norm 2 [[.int .i64 a0.Actuators, .ro (a0.Steps.map cSStep)]], .live .norm 2 [[.ro (v5.Strokes.map cSStroke), .int .i64 v5.Wait]]]⟩) _ (by kernel_rfl) ?_
            refine W_gh ?_
            refine W_cond (c := (decide (v11.Actuator ≥ a0.Actuators))) (by kernel_rfl) (fun c12 => ?_) (fun c12 => ?_)
            · replace h := fork_t c12 h
              refine W_seq ?_
              refine W_reg ?_
              refine O_ps 1 (by kernel_rfl) ?_
              refine O_nil ?_
              refine W_ret ?_
              replace h := Option.some.inj h; subst h
              refine ⟨_, rfl, fun h => ?_⟩
              replace h := Option.some.inj h; subst h
              refine ⟨_, rfl, fun h => ?_⟩
              replace h := Option.some.inj h; subst h
              exact Fin_free (l := [.int .i64 6]) (by kernel_rfl) (by kernel_rfl) rfl
            · replace h := fork_f c12 h
              refine W_skip ?_
              refine Gh_end (s1 := ⟨⟨62, [(1, .pown 0 1 0 0), (3, .ro (s2.1.map cB)), (4, .int .i64 s2.2), (5, .pown 1 1 0 0), (7, .int .i64 s8)]⟩, [.live .norm 2 [[.int .i64 a0.Actuators, .ro (a0.Steps.map cSStep)]], .live .norm 2 [[.ro (v5.Strokes.map cSStroke), .int .i64 v5.Wait]]]⟩) _ (by kernel_rfl) ?_
              refine Gh_end (s1 := ⟨⟨62, [(1, .pown 0 1 0 0), (3, .ro (s2.1.map cB)), (4, .int .i64 s2.2), (5, .pown 1 1 0 0), (7, .int .i64 s8)]⟩, [.live .norm 2 [[.int .i64 a0.Actuators, .ro (a0.Steps.map cSStep)]], .live .norm 2 [[.ro (v5.Strokes.map cSStroke), .int .i64 v5.Wait]]]⟩) _ (by kernel_rfl) ?_
              refine W_gh ?_
              refine W_reg ?_
              refine O_ps 3 (by kernel_rfl) ?_
              refine O_nil ?_
              refine Gh_end (s1 := ⟨⟨62, [(1, .pown 0 1 0 0), (3, .ro (s2.1.map cB)), (4, .int .i64 s2.2), (5, .pown 1 1 0 0), (7, .int .i64 (addI .i64 s8 1))]⟩, [.live .norm 2 [[.int .i64 a0.Actuators, .ro (a0.Steps.map cSStep)]], .live .norm 2 [[.ro (v5.Strokes.map cSStroke), .int .i64 v5.Wait]]]⟩) _ (by kernel_rfl) ?_
              refine Gh_end (s1 := ⟨⟨62, [(1, .pown 0 1 0 0), (3, .ro (s2.1.map cB)), (4, .int .i64 s2.2), (5, .pown 1 1 0 0), (7, .int .i64 (addI .i64 s8 1))]⟩, [.live .norm 2 [[.int .i64 a0.Actuators, .ro (a0.Steps.map cSStep)]], .live .norm 2 [[.ro (v5.Strokes.map cSStroke), .int .i64 v5.Wait]]]⟩) _ (by kernel_rfl) ?_
              replace h := Option.some.inj h; subst h
              exact ⟨_, rfl, by kernel_rfl⟩
          · replace h := fork_f c10 h
            refine W_exit ?_
            refine X_hit ?_
            refine Gh_end (s1 := ⟨⟨62, [(1, .pown 0 1 0 0), (3, .ro (s2.1.map cB)), (4, .int .i64 s2.2), (5, .pown 1 1 0 0)]⟩, [.live .norm 2 [[.int .i64 a0.Actuators, .ro (a0.Steps.map cSStep)]], .live .norm 2 [[.ro (v5.Strokes.map cSStroke), .int .i64 v5.Wait]]]⟩) _ (by kernel_rfl) ?_
            replace h := Option.some.inj h; subst h
            exact ⟨_, rfl, by kernel_rfl⟩
        · refine W_seq ?_
          refine W_seq ?_
          refine W_gh ?_
          refine W_reg ?_
          refine O_ps 2 (by kernel_rfl) ?_
          refine O_call (fun v => .bool v) h (.inr rfl) (ys := [.agg (cSStep v5), .ro (s2.1.map cB)]) (fun _ e => p76 _ _ _ e) (by kernel_rfl) (by kernel_rfl) (bels_cons (okSStep.bel _) (bels_cons (ro_bel okB.bel _) rfl)) (fun v13 e_v13 h => ?_)
          refine O_ps 1 (by kernel_rfl) ?_
          refine O_nil ?_
          refine Gh_end (s1 := ⟨⟨62, [(1, .pown 0 1 0 0), (3, .ro (s2.1.map cB)), (4, .int .i64 s2.2), (5, .pown 1 1 0 0), (48, .bool (!v13))]⟩, [.live .norm 2 [[.int .i64 a0.Actuators, .ro (a0.Steps.map cSStep)]], .live .norm 2 [[.ro (v5.Strokes.map cSStroke), .int .i64 v5.Wait]]]⟩) _ (by kernel_rfl) ?_
          refine W_gh ?_
          refine W_cond (c := (!v13)) (by kernel_rfl) (fun c14 => ?_) (fun c14 => ?_)
          · replace h := fork_t c14 h
            refine W_seq ?_
            refine W_reg ?_
            refine O_ps 1 (by kernel_rfl) ?_
            refine O_nil ?_
            refine W_ret ?_
            replace h := Option.some.inj h; subst h
            refine ⟨_, rfl, fun h => ?_⟩
            replace h := Option.some.inj h; subst h
            exact Fin_free (l := [.int .i64 14]) (by kernel_rfl) (by kernel_rfl) rfl
          · replace h := fork_f c14 h
            refine W_skip ?_
            refine Gh_end (s1 := ⟨⟨62, [(1, .pown 0 1 0 0), (3, .ro (s2.1.map cB)), (4, .int .i64 s2.2), (5, .pown 1 1 0 0)]⟩, [.live .norm 2 [[.int .i64 a0.Actuators, .ro (a0.Steps.map cSStep)]], .live .norm 2 [[.ro (v5.Strokes.map cSStroke), .int .i64 v5.Wait]]]⟩) _ (by kernel_rfl) ?_
            refine W_gh ?_
            refine W_reg ?_
            refine O_ps 2 (by kernel_rfl) ?_
            refine O_call (fun v => .ro (v.map cB)) h (.inr rfl) (ys := [.agg (cSStep v5), .ro (s2.1.map cB)]) (fun _ e => p77 _ _ _ e) (by kernel_rfl) (by kernel_rfl) (bels_cons (okSStep.bel _) (bels_cons (ro_bel okB.bel _) rfl)) (fun v15 e_v15 h => ?_)
            refine O_ps 1 (by kernel_rfl) ?_
            refine O_nil ?_
            refine Gh_end (s1 := ⟨⟨62, [(1, .pown 0 1 0 0), (3, .ro (v15.map cB)), (4, .int .i64 s2.2)]⟩, [.live .norm 2 [[.int .i64 a0.Actuators, .ro (a0.Steps.map cSStep)]], .live .norm 2 [[.ro (v5.Strokes.map cSStroke), .int .i64 v5.Wait]]]⟩) _ (by kernel_rfl) ?_
            refine Gh_one (s1 := ⟨⟨62, [(1, .pown 0 1 0 0), (3, .ro (v15.map cB)), (4, .int .i64 s2.2)]⟩, [.live .norm 2 [[.int .i64 a0.Actuators, .ro (a0.Steps.map cSStep)]], .live .norm 2 [[.ro (v5.Strokes.map cSStroke), .int .i64 v5.Wait]]]⟩) (by kernel_rfl) ?_
            refine Gh_at (s1 := ⟨⟨62, [(1, .pown 0 1 0 0), (3, .ro (v15.map cB)), (4, .int .i64 s2.2)]⟩, [.live .norm 2 [[.int .i64 a0.Actuators, .ro (a0.Steps.map cSStep)]], .live .norm 2 [[.ro (v5.Strokes.map cSStroke), .int .i64 v5.Wait]]]⟩) (by kernel_rfl) ?_
            refine Gh_trunc (s1 := ⟨⟨62, [(1, .pown 0 1 0 0), (3, .ro (v15.map cB)), (4, .int .i64 s2.2)]⟩, [.live .norm 2 [[.int .i64 a0.Actuators, .ro (a0.Steps.map cSStep)]]]⟩) (by kernel_rfl) (tb_ref rfl (tb_free (ro_bel okB.bel _) (tb_free rfl rfl))) (H1 := [.live .norm 2 [[.int .i64 a0.Actuators, .ro (a0.Steps.map cSStep)]]]) (by kernel_rfl) (ob_boxn (bn_free rfl (bn_free (ro_bel okSStep.bel _) rfl)) rfl) (by kernel_rfl) ?_
            refine Gh_nil ?_
            refine W_gh ?_
            refine W_reg ?_
            refine O_ps 3 (by kernel_rfl) ?_
            refine O_nil ?_
            refine Gh_end (s1 := ⟨⟨62, [(1, .pown 0 1 0 0), (3, .ro (v15.map cB)), (4, .int .i64 (addI .i64 s2.2 1))]⟩, [.live .norm 2 [[.int .i64 a0.Actuators, .ro (a0.Steps.map cSStep)]]]⟩) _ (by kernel_rfl) ?_
            refine Gh_one (s1 := ⟨⟨62, [(1, .pown 0 1 0 0), (3, .ro (v15.map cB)), (4, .int .i64 (addI .i64 s2.2 1))]⟩, [.live .norm 2 [[.int .i64 a0.Actuators, .ro (a0.Steps.map cSStep)]]]⟩) (by kernel_rfl) ?_
            refine Gh_trunc0 (by kernel_rfl) ?_
            refine Gh_nil ?_
            replace h := Option.some.inj h; subst h
            exact ⟨_, rfl, by kernel_rfl⟩
    · replace h := fork_f c4 h
      refine W_exit ?_
      refine X_hit ?_
      refine Gh_one (s1 := ⟨⟨62, [(1, .pown 0 1 0 0), (3, .ro (s2.1.map cB))]⟩, [.live .norm 2 [[.int .i64 a0.Actuators, .ro (a0.Steps.map cSStep)]]]⟩) (by kernel_rfl) ?_
      refine Gh_trunc0 (by kernel_rfl) ?_
      refine Gh_nil ?_
      replace h := Option.some.inj h; subst h
      exact ⟨_, rfl, by kernel_rfl⟩
  · refine W_seq ?_
    refine W_seq ?_
    refine W_reg ?_
    refine O_ps 1 (by kernel_rfl) ?_
    refine O_nil ?_
    refine W_loop (fun s16 : Int => ⟨⟨62, [(1, .pown 0 1 0 0), (3, .ro (w3.map cB)), (8, .int .i64 s16)]⟩, [.live .norm 2 [[.int .i64 a0.Actuators, .ro (a0.Steps.map cSStep)]]]⟩) (fun w17 : Unit => ⟨⟨62, []⟩, [.live .norm 2 [[.int .i64 a0.Actuators, .ro (a0.Steps.map cSStep)]]]⟩) h (by kernel_rfl) (fun s16 c h => ?_) (fun w17 h => ?_)
    · refine W_gh ?_
      refine W_seq ?_
      refine W_seq ?_
      refine W_gh ?_
      refine W_reg ?_
      refine O_ps 4 (by kernel_rfl) ?_
      refine O_nil ?_
      refine Gh_end (s1 := ⟨⟨62, [(1, .pown 0 1 0 0), (3, .ro (w3.map cB)), (8, .int .i64 s16), (55, .bool (decide (s16 < a0.Actuators)))]⟩, [.live .norm 2 [[.int .i64 a0.Actuators, .ro (a0.Steps.map cSStep)]]]⟩) _ (by kernel_rfl) ?_
      refine W_gh ?_
      refine W_cond (c := (decide (s16 < a0.Actuators))) (by kernel_rfl) (fun c18 => ?_) (fun c18 => ?_)
      · replace h := fork_t c18 h
        refine W_skip ?_
        refine Gh_end (s1 := ⟨⟨62, [(1, .pown 0 1 0 0), (3, .ro (w3.map cB)), (8, .int .i64 s16)]⟩, [.live .norm 2 [[.int .i64 a0.Actuators, .ro (a0.Steps.map cSStep)]]]⟩) _ (by kernel_rfl) ?_
        refine W_seq ?_
        refine W_gh ?_
        refine W_block ?_
        refine W_seq ?_
        refine W_gh ?_
        refine W_reg ?_
        refine O_ps 2 (by kernel_rfl) ?_
        refine O_idx (kd := .i64) cB h (fun _ => rfl) (by kernel_rfl) (by kernel_rfl) (by kernel_rfl) (fun v19 e_v19 h => ?_)
        refine O_ps 1 (by kernel_rfl) ?_
        refine O_nil ?_
        refine Gh_end (s1 := ⟨⟨62, [(1, .pown 0 1 0 0), (3, .ro (w3.map cB)), (8, .int .i64 s16), (61, .bool v19)]⟩, [.live .norm 2 [[.int .i64 a0.Actuators, .ro (a0.Steps.map cSStep)]]]⟩) _ (by kernel_rfl) ?_
        refine W_gh ?_
        refine W_cond (c := v19) (by kernel_rfl) (fun c20 => ?_) (fun c20 => ?_)
        · replace h := fork_t c20 h
          refine W_seq ?_
          refine W_reg ?_
          refine O_ps 1 (by kernel_rfl) ?_
          refine O_nil ?_
          refine W_ret ?_
          replace h := Option.some.inj h; subst h
          refine ⟨_, rfl, fun h => ?_⟩
          replace h := Option.some.inj h; subst h
          exact Fin_free (l := [.int .i64 9]) (by kernel_rfl) (by kernel_rfl) rfl
        · replace h := fork_f c20 h
          refine W_skip ?_
          refine Gh_end (s1 := ⟨⟨62, [(1, .pown 0 1 0 0), (3, .ro (w3.map cB)), (8, .int .i64 s16)]⟩, [.live .norm 2 [[.int .i64 a0.Actuators, .ro (a0.Steps.map cSStep)]]]⟩) _ (by kernel_rfl) ?_
          refine Gh_end (s1 := ⟨⟨62, [(1, .pown 0 1 0 0), (3, .ro (w3.map cB)), (8, .int .i64 s16)]⟩, [.live .norm 2 [[.int .i64 a0.Actuators, .ro (a0.Steps.map cSStep)]]]⟩) _ (by kernel_rfl) ?_
          refine W_gh ?_
          refine W_reg ?_
          refine O_ps 3 (by kernel_rfl) ?_
          refine O_nil ?_
          refine Gh_end (s1 := ⟨⟨62, [(1, .pown 0 1 0 0), (3, .ro (w3.map cB)), (8, .int .i64 (addI .i64 s16 1))]⟩, [.live .norm 2 [[.int .i64 a0.Actuators, .ro (a0.Steps.map cSStep)]]]⟩) _ (by kernel_rfl) ?_
          refine Gh_end (s1 := ⟨⟨62, [(1, .pown 0 1 0 0), (3, .ro (w3.map cB)), (8, .int .i64 (addI .i64 s16 1))]⟩, [.live .norm 2 [[.int .i64 a0.Actuators, .ro (a0.Steps.map cSStep)]]]⟩) _ (by kernel_rfl) ?_
          replace h := Option.some.inj h; subst h
          exact ⟨_, rfl, by kernel_rfl⟩
      · replace h := fork_f c18 h
        refine W_exit ?_
        refine X_hit ?_
        refine Gh_end (s1 := ⟨⟨62, []⟩, [.live .norm 2 [[.int .i64 a0.Actuators, .ro (a0.Steps.map cSStep)]]]⟩) _ (by kernel_rfl) ?_
        replace h := Option.some.inj h; subst h
        exact ⟨_, rfl, by kernel_rfl⟩
    · refine W_seq ?_
      refine W_reg ?_
      refine O_ps 1 (by kernel_rfl) ?_
      refine O_nil ?_
      refine W_ret ?_
      replace h := Option.some.inj h; subst h
      exact Fin_free (l := [.int .i64 0]) (by kernel_rfl) (by kernel_rfl) rfl

theorem p53 (a0 : SStep) (a1 : Int) (r : Int) (h : m53 a0 a1 = some r) : Pt E0 hp 53 [.agg (cSStep a0), .int .i64 a1] (.int .i64 r) := by
  unfold m53 at h
  refine Pt_W (fn53) rfl (by decide) ?_
  refine W_seq ?_
  refine W_gh ?_
  refine W_reg ?_
  refine O_ps 2 (by kernel_rfl) ?_
  refine O_nil ?_
  refine Gh_end (s1 := ⟨⟨27, [(1, .int .i64 a1), (2, .pown 0 1 0 0)]⟩, [.live .norm 2 [[.ro (a0.Strokes.map cSStroke), .int .i64 a0.Wait]]]⟩) _ (by kernel_rfl) ?_
  refine W_seq ?_
  refine W_seq ?_
  refine W_reg ?_
  refine O_ps 1 (by kernel_rfl) ?_
  refine O_nil ?_
  refine W_loop (fun s1 : Int => ⟨⟨27, [(1, .int .i64 a1), (2, .pown 0 1 0 0), (5, .int .i64 s1)]⟩, [.live .norm 2 [[.ro (a0.Strokes.map cSStroke), .int .i64 a0.Wait]]]⟩) (fun w2 : Unit => ⟨⟨27, [(1, .int .i64 a1)]⟩, [.live .norm 2 [[.ro (a0.Strokes.map cSStroke), .int .i64 a0.Wait]]]⟩) h (by kernel_rfl) (fun s1 c h => ?_) (fun w2 h => ?_)
  · refine W_gh ?_
    refine W_seq ?_
    refine W_seq ?_
    refine W_gh ?_
    refine W_reg ?_
    refine O_ps 3 (by kernel_rfl) ?_
    refine O_len (l := a0.Strokes) cSStroke (by kernel_rfl) (by kernel_rfl) ?_
    refine O_ps 1 (by kernel_rfl) ?_
    refine O_nil ?_
    refine Gh_end (s1 := ⟨⟨27, [(1, .int .i64 a1), (2, .pown 0 1 0 0), (5, .int .i64 s1), (10, .bool (decide (s1 < (a0.Strokes.length : Int))))]⟩, [.live .norm 2 [[.ro (a0.Strokes.map cSStroke), .int .i64 a0.Wait]]]⟩) _ (by kernel_rfl) ?_
    refine W_gh ?_
    refine W_cond (c := (decide (s1 < (a0.Strokes.length : Int)))) (by kernel_rfl) (fun c3 => ?_) (fun c3 => ?_)
    · replace h := fork_t c3 h
      refine W_skip ?_
      refine Gh_end (s1 := ⟨⟨27, [(1, .int .i64 a1), (2, .pown 0 1 0 0), (5, .int .i64 s1)]⟩, [.live .norm 2 [[.ro (a0.Strokes.map cSStroke), .int .i64 a0.Wait]]]⟩) _ (by kernel_rfl) ?_
      refine W_seq ?_
      refine W_gh ?_
      refine W_block ?_
      refine W_seq ?_
      refine W_gh ?_
      refine W_reg ?_
      refine O_ps 3 (by kernel_rfl) ?_
      refine O_idx (kd := .i64) cSStroke h (fun _ => rfl) (by kernel_rfl) (by kernel_rfl) (by kernel_rfl) (fun v4 e_v4 h => ?_)
      refine O_ps 4 (by kernel_rfl) ?_
      refine O_nil ?_
      refine Gh_end (s1 := ⟨⟨27, [(1, .int .i64 a1), (2, .pown 0 1 0 0), (5, .int .i64 s1), (20, .bool (v4.Actuator == a1))]⟩, [.live .norm 2 [[.ro (a0.Strokes.map cSStroke), .int .i64 a0.Wait]]]⟩) _ (by kernel_rfl) ?_
      refine W_gh ?_
      refine W_cond (c := (v4.Actuator == a1)) (by kernel_rfl) (fun c5 => ?_) (fun c5 => ?_)
      · replace h := fork_t c5 h
        refine W_seq ?_
        refine W_seq ?_
        refine W_gh ?_
        refine W_reg ?_
        refine O_ps 3 (by kernel_rfl) ?_
        refine O_idx (kd := .i64) cSStroke h (fun _ => rfl) (by kernel_rfl) (by kernel_rfl) (by kernel_rfl) (fun v6 e_v6 h => ?_)
        refine O_ps 2 (by kernel_rfl) ?_
        refine O_nil ?_
        refine Gh_end (s1 := ⟨⟨27, [(1, .int .i64 a1), (20, .bool (v4.Actuator == a1)), (26, .bool v6.Out)]⟩, [.live .norm 2 [[.ro (a0.Strokes.map cSStroke), .int .i64 a0.Wait]]]⟩) _ (by kernel_rfl) ?_
        refine W_gh ?_
        refine W_cond (c := v6.Out) (by kernel_rfl) (fun c7 => ?_) (fun c7 => ?_)
        · replace h := fork_t c7 h
          refine W_seq ?_
          refine W_reg ?_
          refine O_ps 1 (by kernel_rfl) ?_
          refine O_nil ?_
          refine W_ret ?_
          replace h := Option.some.inj h; subst h
          refine ⟨_, rfl, fun h => ?_⟩
          replace h := Option.some.inj h; subst h
          exact Fin_free (l := [.int .i64 1]) (by kernel_rfl) (by kernel_rfl) rfl
        · replace h := fork_f c7 h
          refine W_skip ?_
          refine Gh_end (s1 := ⟨⟨27, [(1, .int .i64 a1), (20, .bool (v4.Actuator == a1))]⟩, [.live .norm 2 [[.ro (a0.Strokes.map cSStroke), .int .i64 a0.Wait]]]⟩) _ (by kernel_rfl) ?_
          refine W_seq ?_
          refine W_reg ?_
          refine O_ps 1 (by kernel_rfl) ?_
          refine O_nil ?_
          refine W_ret ?_
          replace h := Option.some.inj h; subst h
          refine ⟨_, rfl, fun h => ?_⟩
          replace h := Option.some.inj h; subst h
          exact Fin_free (l := [.int .i64 (-1)]) (by kernel_rfl) (by kernel_rfl) rfl
      · replace h := fork_f c5 h
        refine W_skip ?_
        refine Gh_end (s1 := ⟨⟨27, [(1, .int .i64 a1), (2, .pown 0 1 0 0), (5, .int .i64 s1)]⟩, [.live .norm 2 [[.ro (a0.Strokes.map cSStroke), .int .i64 a0.Wait]]]⟩) _ (by kernel_rfl) ?_
        refine Gh_end (s1 := ⟨⟨27, [(1, .int .i64 a1), (2, .pown 0 1 0 0), (5, .int .i64 s1)]⟩, [.live .norm 2 [[.ro (a0.Strokes.map cSStroke), .int .i64 a0.Wait]]]⟩) _ (by kernel_rfl) ?_
        refine W_gh ?_
        refine W_reg ?_
        refine O_ps 3 (by kernel_rfl) ?_
        refine O_nil ?_
        refine Gh_end (s1 := ⟨⟨27, [(1, .int .i64 a1), (2, .pown 0 1 0 0), (5, .int .i64 (addI .i64 s1 1))]⟩, [.live .norm 2 [[.ro (a0.Strokes.map cSStroke), .int .i64 a0.Wait]]]⟩) _ (by kernel_rfl) ?_
        refine Gh_end (s1 := ⟨⟨27, [(1, .int .i64 a1), (2, .pown 0 1 0 0), (5, .int .i64 (addI .i64 s1 1))]⟩, [.live .norm 2 [[.ro (a0.Strokes.map cSStroke), .int .i64 a0.Wait]]]⟩) _ (by kernel_rfl) ?_
        replace h := Option.some.inj h; subst h
        exact ⟨_, rfl, by kernel_rfl⟩
    · replace h := fork_f c3 h
      refine W_exit ?_
      refine X_hit ?_
      refine Gh_end (s1 := ⟨⟨27, [(1, .int .i64 a1)]⟩, [.live .norm 2 [[.ro (a0.Strokes.map cSStroke), .int .i64 a0.Wait]]]⟩) _ (by kernel_rfl) ?_
      replace h := Option.some.inj h; subst h
      exact ⟨_, rfl, by kernel_rfl⟩
  · refine W_seq ?_
    refine W_reg ?_
    refine O_ps 1 (by kernel_rfl) ?_
    refine O_nil ?_
    refine W_ret ?_
    replace h := Option.some.inj h; subst h
    exact Fin_free (l := [.int .i64 0]) (by kernel_rfl) (by kernel_rfl) rfl

theorem p63 (a0 : SSequence) (a1 : Int) (r : Bool) (h : m63 a0 a1 = some r) : Pt E0 hp 63 [.agg (cSSequence a0), .int .i64 a1] (.bool r) := by
  unfold m63 at h
  refine Pt_W (fn63) rfl (by decide) ?_
  refine W_seq ?_
  refine W_gh ?_
  refine W_reg ?_
  refine O_ps 2 (by kernel_rfl) ?_
  refine O_nil ?_
  refine Gh_end (s1 := ⟨⟨21, [(1, .int .i64 a1), (2, .pown 0 1 0 0)]⟩, [.live .norm 2 [[.int .i64 a0.Actuators, .ro (a0.Steps.map cSStep)]]]⟩) _ (by kernel_rfl) ?_
  refine W_seq ?_
  refine W_seq ?_
  refine W_reg ?_
  refine O_ps 1 (by kernel_rfl) ?_
  refine O_nil ?_
  refine W_loop (fun s1 : Int => ⟨⟨21, [(1, .int .i64 a1), (2, .pown 0 1 0 0), (5, .int .i64 s1)]⟩, [.live .norm 2 [[.int .i64 a0.Actuators, .ro (a0.Steps.map cSStep)]]]⟩) (fun w2 : Unit => ⟨⟨21, [(1, .int .i64 a1)]⟩, [.live .norm 2 [[.int .i64 a0.Actuators, .ro (a0.Steps.map cSStep)]]]⟩) h (by kernel_rfl) (fun s1 c h => ?_) (fun w2 h => ?_)
  · refine W_gh ?_
    refine W_seq ?_
    refine W_seq ?_
    refine W_gh ?_
    refine W_reg ?_
    refine O_ps 3 (by kernel_rfl) ?_
    refine O_len (l := a0.Steps) cSStep (by kernel_rfl) (by kernel_rfl) ?_
    refine O_ps 1 (by kernel_rfl) ?_
    refine O_nil ?_
    refine Gh_end (s1 := ⟨⟨21, [(1, .int .i64 a1), (2, .pown 0 1 0 0), (5, .int .i64 s1), (10, .bool (decide (s1 < (a0.Steps.length : Int))))]⟩, [.live .norm 2 [[.int .i64 a0.Actuators, .ro (a0.Steps.map cSStep)]]]⟩) _ (by kernel_rfl) ?_
    refine W_gh ?_
    refine W_cond (c := (decide (s1 < (a0.Steps.length : Int)))) (by kernel_rfl) (fun c3 => ?_) (fun c3 => ?_)
    · replace h := fork_t c3 h
      refine W_skip ?_
      refine Gh_end (s1 := ⟨⟨21, [(1, .int .i64 a1), (2, .pown 0 1 0 0), (5, .int .i64 s1)]⟩, [.live .norm 2 [[.int .i64 a0.Actuators, .ro (a0.Steps.map cSStep)]]]⟩) _ (by kernel_rfl) ?_
      refine W_seq ?_
      refine W_gh ?_
      refine W_block ?_
      refine W_seq ?_
      refine W_gh ?_
      refine W_reg ?_
      refine O_ps 3 (by kernel_rfl) ?_
      refine O_idx (kd := .i64) cSStep h (fun _ => rfl) (by kernel_rfl) (by kernel_rfl) (by kernel_rfl) (fun v4 e_v4 h => ?_)
      refine O_ps 2 (by kernel_rfl) ?_
      refine O_call (fun v => .int .i64 v) h (.inr rfl) (ys := [.agg (cSStep v4), .int .i64 a1]) (fun _ e => p53 _ _ _ e) (by kernel_rfl) (by kernel_rfl) (bels_cons (okSStep.bel _) (bels_cons rfl rfl)) (fun v5 e_v5 h => ?_)
      refine O_ps 1 (by kernel_rfl) ?_
      refine O_nil ?_
      refine Gh_end (s1 := ⟨⟨21, [(1, .int .i64 a1), (2, .pown 0 1 0 0), (5, .int .i64 s1), (20, .bool (v5 != 0))]⟩, [.live .norm 2 [[.int .i64 a0.Actuators, .ro (a0.Steps.map cSStep)]]]⟩) _ (by kernel_rfl) ?_
      refine W_gh ?_
      refine W_cond (c := (v5 != 0)) (by kernel_rfl) (fun c6 => ?_) (fun c6 => ?_)
      · replace h := fork_t c6 h
        refine W_seq ?_
        refine W_reg ?_
        refine O_ps 1 (by kernel_rfl) ?_
        refine O_nil ?_
        refine W_ret ?_
        replace h := Option.some.inj h; subst h
        refine ⟨_, rfl, fun h => ?_⟩
        replace h := Option.some.inj h; subst h
        exact Fin_free (l := [.bool true]) (by kernel_rfl) (by kernel_rfl) rfl
      · replace h := fork_f c6 h
        refine W_skip ?_
        refine Gh_end (s1 := ⟨⟨21, [(1, .int .i64 a1), (2, .pown 0 1 0 0), (5, .int .i64 s1)]⟩, [.live .norm 2 [[.int .i64 a0.Actuators, .ro (a0.Steps.map cSStep)]]]⟩) _ (by kernel_rfl) ?_
        refine Gh_end (s1 := ⟨⟨21, [(1, .int .i64 a1), (2, .pown 0 1 0 0), (5, .int .i64 s1)]⟩, [.live .norm 2 [[.int .i64 a0.Actuators, .ro (a0.Steps.map cSStep)]]]⟩) _ (by kernel_rfl) ?_
        refine W_gh ?_
        refine W_reg ?_
        refine O_ps 3 (by kernel_rfl) ?_
        refine O_nil ?_
        refine Gh_end (s1 := ⟨⟨21, [(1, .int .i64 a1), (2, .pown 0 1 0 0), (5, .int .i64 (addI .i64 s1 1))]⟩, [.live .norm 2 [[.int .i64 a0.Actuators, .ro (a0.Steps.map cSStep)]]]⟩) _ (by kernel_rfl) ?_
        refine Gh_end (s1 := ⟨⟨21, [(1, .int .i64 a1), (2, .pown 0 1 0 0), (5, .int .i64 (addI .i64 s1 1))]⟩, [.live .norm 2 [[.int .i64 a0.Actuators, .ro (a0.Steps.map cSStep)]]]⟩) _ (by kernel_rfl) ?_
        replace h := Option.some.inj h; subst h
        exact ⟨_, rfl, by kernel_rfl⟩
    · replace h := fork_f c3 h
      refine W_exit ?_
      refine X_hit ?_
      refine Gh_end (s1 := ⟨⟨21, [(1, .int .i64 a1)]⟩, [.live .norm 2 [[.int .i64 a0.Actuators, .ro (a0.Steps.map cSStep)]]]⟩) _ (by kernel_rfl) ?_
      replace h := Option.some.inj h; subst h
      exact ⟨_, rfl, by kernel_rfl⟩
  · refine W_seq ?_
    refine W_reg ?_
    refine O_ps 1 (by kernel_rfl) ?_
    refine O_nil ?_
    refine W_ret ?_
    replace h := Option.some.inj h; subst h
    exact Fin_free (l := [.bool false]) (by kernel_rfl) (by kernel_rfl) rfl

theorem p37 (a0 : SSequence) (r : Int) (h : m37 a0 = some r) : Pt E0 hp 37 [.agg (cSSequence a0)] (.int .i64 r) := by
  unfold m37 at h
  refine Pt_W (fn37) rfl (by decide) ?_
  refine W_seq ?_
  refine W_gh ?_
  refine W_reg ?_
  refine O_ps 2 (by kernel_rfl) ?_
  refine O_nil ?_
  refine Gh_end (s1 := ⟨⟨36, [(1, .pown 0 1 0 0)]⟩, [.live .norm 2 [[.int .i64 a0.Actuators, .ro (a0.Steps.map cSStep)]]]⟩) _ (by kernel_rfl) ?_
  refine W_seq ?_
  refine W_seq ?_
  refine W_cut ⟨⟨36, [(1, .pown 0 1 0 0), (12, .bool ((decide (a0.Actuators < 1)) || (decide (a0.Actuators > 6))))]⟩, [.live .norm 2 [[.int .i64 a0.Actuators, .ro (a0.Steps.map cSStep)]]]⟩ ?_ ?_
  · generalize e_g1 : ((decide (a0.Actuators < 1)) || (decide (a0.Actuators > 6))) = g1
    refine W_gh ?_
    refine W_reg ?_
    refine O_ps 4 (by kernel_rfl) ?_
    refine O_fork (n := 8) (decide (a0.Actuators < 1)) (by kernel_rfl) (fun c2 => ?_) (fun c2 => ?_)
    · skip
      refine O_ps 4 (by kernel_rfl) ?_
      refine O_nil ?_
      refine Gh_end (s1 := ⟨⟨36, [(1, .pown 0 1 0 0), (12, .bool true)]⟩, [.live .norm 2 [[.int .i64 a0.Actuators, .ro (a0.Steps.map cSStep)]]]⟩) _ (by kernel_rfl) ?_
      have q := e_g1; simp only [c2, cond_true, cond_false, Bool.true_and, Bool.false_and, Bool.true_or, Bool.false_or] at q; subst q
      show _ = _
      kernel_rfl
    · skip
      refine O_ps 4 (by kernel_rfl) ?_
      refine O_nil ?_
      refine Gh_end (s1 := ⟨⟨36, [(1, .pown 0 1 0 0), (12, .bool (decide (a0.Actuators > 6)))]⟩, [.live .norm 2 [[.int .i64 a0.Actuators, .ro (a0.Steps.map cSStep)]]]⟩) _ (by kernel_rfl) ?_
      have q := e_g1; simp only [c2, cond_true, cond_false, Bool.true_and, Bool.false_and, Bool.true_or, Bool.false_or] at q; subst q
      show _ = _
      kernel_rfl
  · refine W_gh ?_
    refine W_cond (c := ((decide (a0.Actuators < 1)) || (decide (a0.Actuators > 6)))) (by kernel_rfl) (fun c3 => ?_) (fun c3 => ?_)
    · replace h := fork_t c3 h
      refine W_seq ?_
      refine W_reg ?_
      refine O_ps 1 (by kernel_rfl) ?_
      refine O_nil ?_
      refine W_ret ?_
      replace h := Option.some.inj h; subst h
      exact Fin_free (l := [.int .i64 2]) (by kernel_rfl) (by kernel_rfl) rfl
    · replace h := fork_f c3 h
      refine W_skip ?_
      refine Gh_end (s1 := ⟨⟨36, [(1, .pown 0 1 0 0)]⟩, [.live .norm 2 [[.int .i64 a0.Actuators, .ro (a0.Steps.map cSStep)]]]⟩) _ (by kernel_rfl) ?_
      refine W_seq ?_
      refine W_seq ?_
      refine W_gh ?_
      refine W_reg ?_
      refine O_ps 2 (by kernel_rfl) ?_
      refine O_len (l := a0.Steps) cSStep (by kernel_rfl) (by kernel_rfl) ?_
      refine O_ps 1 (by kernel_rfl) ?_
      refine O_nil ?_
      refine Gh_end (s1 := ⟨⟨36, [(1, .pown 0 1 0 0), (16, .bool ((a0.Steps.length : Int) == 0))]⟩, [.live .norm 2 [[.int .i64 a0.Actuators, .ro (a0.Steps.map cSStep)]]]⟩) _ (by kernel_rfl) ?_
      refine W_gh ?_
      refine W_cond (c := ((a0.Steps.length : Int) == 0)) (by kernel_rfl) (fun c4 => ?_) (fun c4 => ?_)
      · replace h := fork_t c4 h
        refine W_seq ?_
        refine W_reg ?_
        refine O_ps 1 (by kernel_rfl) ?_
        refine O_nil ?_
        refine W_ret ?_
        replace h := Option.some.inj h; subst h
        exact Fin_free (l := [.int .i64 13]) (by kernel_rfl) (by kernel_rfl) rfl
      · replace h := fork_f c4 h
        refine W_skip ?_
        refine Gh_end (s1 := ⟨⟨36, [(1, .pown 0 1 0 0)]⟩, [.live .norm 2 [[.int .i64 a0.Actuators, .ro (a0.Steps.map cSStep)]]]⟩) _ (by kernel_rfl) ?_
        refine W_seq ?_
        refine W_seq ?_
        refine W_gh ?_
        refine W_reg ?_
        refine O_ps 2 (by kernel_rfl) ?_
        refine O_len (l := a0.Steps) cSStep (by kernel_rfl) (by kernel_rfl) ?_
        refine O_ps 1 (by kernel_rfl) ?_
        refine O_nil ?_
        refine Gh_end (s1 := ⟨⟨36, [(1, .pown 0 1 0 0), (20, .bool (decide ((a0.Steps.length : Int) > 64)))]⟩, [.live .norm 2 [[.int .i64 a0.Actuators, .ro (a0.Steps.map cSStep)]]]⟩) _ (by kernel_rfl) ?_
        refine W_gh ?_
        refine W_cond (c := (decide ((a0.Steps.length : Int) > 64))) (by kernel_rfl) (fun c5 => ?_) (fun c5 => ?_)
        · replace h := fork_t c5 h
          refine W_seq ?_
          refine W_reg ?_
          refine O_ps 1 (by kernel_rfl) ?_
          refine O_nil ?_
          refine W_ret ?_
          replace h := Option.some.inj h; subst h
          exact Fin_free (l := [.int .i64 5]) (by kernel_rfl) (by kernel_rfl) rfl
        · replace h := fork_f c5 h
          refine W_skip ?_
          refine Gh_end (s1 := ⟨⟨36, [(1, .pown 0 1 0 0)]⟩, [.live .norm 2 [[.int .i64 a0.Actuators, .ro (a0.Steps.map cSStep)]]]⟩) _ (by kernel_rfl) ?_
          refine W_seq ?_
          refine W_seq ?_
          refine W_gh ?_
          refine W_reg ?_
          refine O_ps 1 (by kernel_rfl) ?_
          refine O_call (fun v => .int .i64 v) h (.inr rfl) (ys := [.agg (cSSequence a0)]) (fun _ e => p62 _ _ e) (by kernel_rfl) (by kernel_rfl) (bels_cons (okSSequence.bel _) rfl) (fun v6 e_v6 h => ?_)
          refine O_ps 1 (by kernel_rfl) ?_
          refine O_nil ?_
          refine Gh_end (s1 := ⟨⟨36, [(1, .pown 0 1 0 0), (3, .int .i64 v6)]⟩, [.live .norm 2 [[.int .i64 a0.Actuators, .ro (a0.Steps.map cSStep)]]]⟩) _ (by kernel_rfl) ?_
          refine W_seq ?_
          refine W_gh ?_
          refine W_reg ?_
          refine O_ps 2 (by kernel_rfl) ?_
          refine O_nil ?_
          refine Gh_end (s1 := ⟨⟨36, [(1, .pown 0 1 0 0), (3, .int .i64 v6), (24, .bool (v6 != 0))]⟩, [.live .norm 2 [[.int .i64 a0.Actuators, .ro (a0.Steps.map cSStep)]]]⟩) _ (by kernel_rfl) ?_
          refine W_gh ?_
          refine W_cond (c := (v6 != 0)) (by kernel_rfl) (fun c7 => ?_) (fun c7 => ?_)
          · replace h := fork_t c7 h
            refine W_seq ?_
            refine W_gh ?_
            refine W_reg ?_
            refine O_ps 2 (by kernel_rfl) ?_
            refine O_nil ?_
            refine Gh_end (s1 := ⟨⟨36, [(1, .pown 0 1 0 0), (2, .int .i64 v6), (24, .bool (v6 != 0))]⟩, [.live .norm 2 [[.int .i64 a0.Actuators, .ro (a0.Steps.map cSStep)]]]⟩) _ (by kernel_rfl) ?_
            refine W_ret ?_
            replace h := Option.some.inj h; subst h
            exact Fin_free (l := [.int .i64 v6]) (by kernel_rfl) (by kernel_rfl) rfl
          · replace h := fork_f c7 h
            refine W_skip ?_
            refine Gh_end (s1 := ⟨⟨36, [(1, .pown 0 1 0 0)]⟩, [.live .norm 2 [[.int .i64 a0.Actuators, .ro (a0.Steps.map cSStep)]]]⟩) _ (by kernel_rfl) ?_
            refine W_seq ?_
            refine W_seq ?_
            refine W_reg ?_
            refine O_ps 1 (by kernel_rfl) ?_
            refine O_nil ?_
            refine W_loop (fun s8 : Int => ⟨⟨36, [(1, .pown 0 1 0 0), (4, .int .i64 s8)]⟩, [.live .norm 2 [[.int .i64 a0.Actuators, .ro (a0.Steps.map cSStep)]]]⟩) (fun w9 : Unit => ⟨⟨36, []⟩, [.live .norm 2 [[.int .i64 a0.Actuators, .ro (a0.Steps.map cSStep)]]]⟩) h (by kernel_rfl) (fun s8 c h => ?_) (fun w9 h => ?_)
            · refine W_gh ?_
              refine W_seq ?_
              refine W_seq ?_
              refine W_gh ?_
              refine W_reg ?_
              refine O_ps 4 (by kernel_rfl) ?_
              refine O_nil ?_
              refine Gh_end (s1 := ⟨⟨36, [(1, .pown 0 1 0 0), (4, .int .i64 s8), (29, .bool (decide (s8 < a0.Actuators)))]⟩, [.live .norm 2 [[.int .i64 a0.Actuators, .ro (a0.Steps.map cSStep)]]]⟩) _ (by kernel_rfl) ?_
              refine W_gh ?_
              refine W_cond (c := (decide (s8 < a0.Actuators))) (by kernel_rfl) (fun c10 => ?_) (fun c10 => ?_)
              · replace h := fork_t c10 h
                refine W_skip ?_
                refine Gh_end (s1 := ⟨⟨36, [(1, .pown 0 1 0 0), (4, .int .i64 s8)]⟩, [.live .norm 2 [[.int .i64 a0.Actuators, .ro (a0.Steps.map cSStep)]]]⟩) _ (by kernel_rfl) ?_
                refine W_seq ?_
                refine W_gh ?_
                refine W_block ?_
                refine W_seq ?_
                refine W_gh ?_
                refine W_reg ?_
                refine O_ps 2 (by kernel_rfl) ?_
                refine O_call (fun v => .bool v) h (.inr rfl) (ys := [.agg (cSSequence a0), .int .i64 s8]) (fun _ e => p63 _ _ _ e) (by kernel_rfl) (by kernel_rfl) (bels_cons (okSSequence.bel _) (bels_cons rfl rfl)) (fun v11 e_v11 h => ?_)
                refine O_ps 1 (by kernel_rfl) ?_
                refine O_nil ?_
                refine Gh_end (s1 := ⟨⟨36, [(1, .pown 0 1 0 0), (4, .int .i64 s8), (35, .bool (!v11))]⟩, [.live .norm 2 [[.int .i64 a0.Actuators, .ro (a0.Steps.map cSStep)]]]⟩) _ (by kernel_rfl) ?_
                refine W_gh ?_
                refine W_cond (c := (!v11)) (by kernel_rfl) (fun c12 => ?_) (fun c12 => ?_)
                · replace h := fork_t c12 h
                  refine W_seq ?_
                  refine W_reg ?_
                  refine O_ps 1 (by kernel_rfl) ?_
                  refine O_nil ?_
                  refine W_ret ?_
                  replace h := Option.some.inj h; subst h
                  refine ⟨_, rfl, fun h => ?_⟩
                  replace h := Option.some.inj h; subst h
                  exact Fin_free (l := [.int .i64 13]) (by kernel_rfl) (by kernel_rfl) rfl
                · replace h := fork_f c12 h
                  refine W_skip ?_
                  refine Gh_end (s1 := ⟨⟨36, [(1, .pown 0 1 0 0), (4, .int .i64 s8)]⟩, [.live .norm 2 [[.int .i64 a0.Actuators, .ro (a0.Steps.map cSStep)]]]⟩) _ (by kernel_rfl) ?_
                  refine Gh_end (s1 := ⟨⟨36, [(1, .pown 0 1 0 0), (4, .int .i64 s8)]⟩, [.live .norm 2 [[.int .i64 a0.Actuators, .ro (a0.Steps.map cSStep)]]]⟩) _ (by kernel_rfl) ?_
                  refine W_gh ?_
                  refine W_reg ?_
                  refine O_ps 3 (by kernel_rfl) ?_
                  refine O_nil ?_
                  refine Gh_end (s1 := ⟨⟨36, [(1, .pown 0 1 0 0), (4, .int .i64 (addI .i64 s8 1))]⟩, [.live .norm 2 [[.int .i64 a0.Actuators, .ro (a0.Steps.map cSStep)]]]⟩) _ (by kernel_rfl) ?_
                  refine Gh_end (s1 := ⟨⟨36, [(1, .pown 0 1 0 0), (4, .int .i64 (addI .i64 s8 1))]⟩, [.live .norm 2 [[.int .i64 a0.Actuators, .ro (a0.Steps.map cSStep)]]]⟩) _ (by kernel_rfl) ?_
                  replace h := Option.some.inj h; subst h
                  exact ⟨_, rfl, by kernel_rfl⟩
              · replace h := fork_f c10 h
                refine W_exit ?_
                refine X_hit ?_
                refine Gh_end (s1 := ⟨⟨36, []⟩, [.live .norm 2 [[.int .i64 a0.Actuators, .ro (a0.Steps.map cSStep)]]]⟩) _ (by kernel_rfl) ?_
                replace h := Option.some.inj h; subst h
                exact ⟨_, rfl, by kernel_rfl⟩
            · refine W_seq ?_
              refine W_reg ?_
              refine O_ps 1 (by kernel_rfl) ?_
              refine O_nil ?_
              refine W_ret ?_
              replace h := Option.some.inj h; subst h
              exact Fin_free (l := [.int .i64 0]) (by kernel_rfl) (by kernel_rfl) rfl

theorem p65 (a0 : SSequence) (a1 : (List Int)) (a2 : Bool) (r : Int) (h : m65 a0 a1 a2 = some r) : Pt E0 hp 65 [.agg (cSSequence a0), .ro (a1.map cI_i64), .bool a2] (.int .i64 r) := by
  unfold m65 at h
  refine Pt_W (fn65) rfl (by decide) ?_
  refine W_seq ?_
  refine W_gh ?_
  refine W_reg ?_
  refine O_ps 2 (by kernel_rfl) ?_
  refine O_nil ?_
  refine Gh_end (s1 := ⟨⟨59, [(1, .ro (a1.map cI_i64)), (2, .bool a2), (3, .pown 0 1 0 0)]⟩, [.live .norm 2 [[.int .i64 a0.Actuators, .ro (a0.Steps.map cSStep)]]]⟩) _ (by kernel_rfl) ?_
  refine W_seq ?_
  refine W_seq ?_
  refine W_gh ?_
  refine W_reg ?_
  refine O_ps 1 (by kernel_rfl) ?_
  refine O_len (l := a1) cI_i64 (by kernel_rfl) (by kernel_rfl) ?_
  refine O_ps 1 (by kernel_rfl) ?_
  refine O_nil ?_
  refine Gh_end (s1 := ⟨⟨59, [(1, .ro (a1.map cI_i64)), (2, .bool a2), (3, .pown 0 1 0 0), (10, .bool ((a1.length : Int) == 0))]⟩, [.live .norm 2 [[.int .i64 a0.Actuators, .ro (a0.Steps.map cSStep)]]]⟩) _ (by kernel_rfl) ?_
  refine W_gh ?_
  refine W_cond (c := ((a1.length : Int) == 0)) (by kernel_rfl) (fun c1 => ?_) (fun c1 => ?_)
  · replace h := fork_t c1 h
    refine W_seq ?_
    refine W_reg ?_
    refine O_ps 1 (by kernel_rfl) ?_
    refine O_nil ?_
    refine W_ret ?_
    replace h := Option.some.inj h; subst h
    exact Fin_free (l := [.int .i64 13]) (by kernel_rfl) (by kernel_rfl) rfl
  · replace h := fork_f c1 h
    refine W_skip ?_
    refine Gh_end (s1 := ⟨⟨59, [(1, .ro (a1.map cI_i64)), (2, .bool a2), (3, .pown 0 1 0 0)]⟩, [.live .norm 2 [[.int .i64 a0.Actuators, .ro (a0.Steps.map cSStep)]]]⟩) _ (by kernel_rfl) ?_
    refine W_seq ?_
    refine W_seq ?_
    refine W_gh ?_
    refine W_reg ?_
    refine O_ps 1 (by kernel_rfl) ?_
    refine O_len (l := a1) cI_i64 (by kernel_rfl) (by kernel_rfl) ?_
    refine O_ps 2 (by kernel_rfl) ?_
    refine O_len (l := a0.Steps) cSStep (by kernel_rfl) (by kernel_rfl) ?_
    refine O_ps 1 (by kernel_rfl) ?_
    refine O_nil ?_
    refine Gh_end (s1 := ⟨⟨59, [(1, .ro (a1.map cI_i64)), (2, .bool a2), (3, .pown 0 1 0 0), (16, .bool (decide ((a1.length : Int) > (a0.Steps.length : Int))))]⟩, [.live .norm 2 [[.int .i64 a0.Actuators, .ro (a0.Steps.map cSStep)]]]⟩) _ (by kernel_rfl) ?_
    refine W_gh ?_
    refine W_cond (c := (decide ((a1.length : Int) > (a0.Steps.length : Int)))) (by kernel_rfl) (fun c2 => ?_) (fun c2 => ?_)
    · replace h := fork_t c2 h
      refine W_seq ?_
      refine W_reg ?_
      refine O_ps 1 (by kernel_rfl) ?_
      refine O_nil ?_
      refine W_ret ?_
      replace h := Option.some.inj h; subst h
      exact Fin_free (l := [.int .i64 5]) (by kernel_rfl) (by kernel_rfl) rfl
    · replace h := fork_f c2 h
      refine W_skip ?_
      refine Gh_end (s1 := ⟨⟨59, [(1, .ro (a1.map cI_i64)), (2, .bool a2), (3, .pown 0 1 0 0)]⟩, [.live .norm 2 [[.int .i64 a0.Actuators, .ro (a0.Steps.map cSStep)]]]⟩) _ (by kernel_rfl) ?_
      refine W_seq ?_
      refine W_seq ?_
      refine W_joinS (fun v : Bool => ⟨⟨59, [(1, .ro (a1.map cI_i64)), (3, .pown 0 1 0 0), (23, .bool v)]⟩, [.live .norm 2 [[.int .i64 a0.Actuators, .ro (a0.Steps.map cSStep)]]]⟩) h (fun w h => ?_) (fun w3 e_w3 h => ?_)
      · refine W_gh ?_
        refine W_reg ?_
        refine O_ps 2 (by kernel_rfl) ?_
        refine O_fork (n := 18) a2 (by kernel_rfl) (fun c4 => ?_) (fun c4 => ?_)
        · replace h := fork_t c4 h
          refine O_ps 1 (by kernel_rfl) ?_
          refine O_idx (kd := .i64) cI_i64 h (fun _ => rfl) (by kernel_rfl) (by kernel_rfl) (by kernel_rfl) (fun v5 e_v5 h => ?_)
          refine O_ps 3 (by kernel_rfl) ?_
          refine O_nil ?_
          refine Gh_end (s1 := ⟨⟨59, [(1, .ro (a1.map cI_i64)), (3, .pown 0 1 0 0), (23, .bool (v5 != 0))]⟩, [.live .norm 2 [[.int .i64 a0.Actuators, .ro (a0.Steps.map cSStep)]]]⟩) _ (by kernel_rfl) ?_
          replace h := Option.some.inj h; subst h
          show _ = _
          kernel_rfl
        · replace h := fork_f c4 h
          refine O_ps 5 (by kernel_rfl) ?_
          refine O_nil ?_
          refine Gh_end (s1 := ⟨⟨59, [(1, .ro (a1.map cI_i64)), (3, .pown 0 1 0 0), (23, .bool false)]⟩, [.live .norm 2 [[.int .i64 a0.Actuators, .ro (a0.Steps.map cSStep)]]]⟩) _ (by kernel_rfl) ?_
          replace h := Option.some.inj h; subst h
          show _ = _
          kernel_rfl
      · refine W_gh ?_
        refine W_cond (c := w3) (by kernel_rfl) (fun c6 => ?_) (fun c6 => ?_)
        · replace h := fork_t c6 h
          refine W_seq ?_
          refine W_reg ?_
          refine O_ps 1 (by kernel_rfl) ?_
          refine O_nil ?_
          refine W_ret ?_
          replace h := Option.some.inj h; subst h
          exact Fin_free (l := [.int .i64 3]) (by kernel_rfl) (by kernel_rfl) rfl
        · replace h := fork_f c6 h
          refine W_skip ?_
          refine Gh_end (s1 := ⟨⟨59, [(1, .ro (a1.map cI_i64)), (3, .pown 0 1 0 0)]⟩, [.live .norm 2 [[.int .i64 a0.Actuators, .ro (a0.Steps.map cSStep)]]]⟩) _ (by kernel_rfl) ?_
          refine W_seq ?_
          refine W_seq ?_
          refine W_reg ?_
          refine O_ps 1 (by kernel_rfl) ?_
          refine O_nil ?_
          refine W_loop (fun s7 : Int => ⟨⟨59, [(1, .ro (a1.map cI_i64)), (3, .pown 0 1 0 0), (7, .int .i64 s7)]⟩, [.live .norm 2 [[.int .i64 a0.Actuators, .ro (a0.Steps.map cSStep)]]]⟩) (fun w8 : Unit => ⟨⟨59, [(1, .ro (a1.map cI_i64))]⟩, [.live .norm 2 [[.int .i64 a0.Actuators, .ro (a0.Steps.map cSStep)]]]⟩) h (by kernel_rfl) (fun s7 c h => ?_) (fun w8 h => ?_)
          · refine W_gh ?_
            refine W_seq ?_
            refine W_seq ?_
            refine W_gh ?_
            refine W_reg ?_
            refine O_ps 2 (by kernel_rfl) ?_
            refine O_len (l := a1) cI_i64 (by kernel_rfl) (by kernel_rfl) ?_
            refine O_ps 1 (by kernel_rfl) ?_
            refine O_nil ?_
            refine Gh_end (s1 := ⟨⟨59, [(1, .ro (a1.map cI_i64)), (3, .pown 0 1 0 0), (7, .int .i64 s7), (27, .bool (decide (s7 < (a1.length : Int))))]⟩, [.live .norm 2 [[.int .i64 a0.Actuators, .ro (a0.Steps.map cSStep)]]]⟩) _ (by kernel_rfl) ?_
            refine W_gh ?_
            refine W_cond (c := (decide (s7 < (a1.length : Int)))) (by kernel_rfl) (fun c9 => ?_) (fun c9 => ?_)
            · replace h := fork_t c9 h
              refine W_skip ?_
              refine Gh_end (s1 := ⟨⟨59, [(1, .ro (a1.map cI_i64)), (3, .pown 0 1 0 0), (7, .int .i64 s7)]⟩, [.live .norm 2 [[.int .i64 a0.Actuators, .ro (a0.Steps.map cSStep)]]]⟩) _ (by kernel_rfl) ?_
              refine W_seq ?_
              refine W_gh ?_
              refine W_block ?_
              refine W_seq ?_
              refine W_seq ?_
              refine W_joinS (fun v : Bool => ⟨⟨59, [(1, .ro (a1.map cI_i64)), (3, .pown 0 1 0 0), (7, .int .i64 s7), (44, .bool v)]⟩, [.live .norm 2 [[.int .i64 a0.Actuators, .ro (a0.Steps.map cSStep)]]]⟩) h (fun w h => ?_) (fun w10 e_w10 h => ?_)
              · refine W_gh ?_
                refine W_draw ?_
                refine O_ps 2 (by kernel_rfl) ?_
                refine O_idx (kd := .i64) cI_i64 h (fun _ => rfl) (by kernel_rfl) (by kernel_rfl) (by kernel_rfl) (fun v11 e_v11 h => ?_)
                refine O_ps 3 (by kernel_rfl) ?_
                refine O_fork (n := 35) (decide (v11 < 0)) (by kernel_rfl) (fun c12 => ?_) (fun c12 => ?_)
                · replace h := fork_t c12 h
                  refine O_ps 9 (by kernel_rfl) ?_
                  refine O_nil ?_
                  refine Gh_end (s1 := ⟨⟨59, [(1, .ro (a1.map cI_i64)), (3, .pown 0 1 0 0), (7, .int .i64 s7), (44, .bool true)]⟩, [.live .norm 2 [[.int .i64 a0.Actuators, .ro (a0.Steps.map cSStep)]]]⟩) _ (by kernel_rfl) ?_
                  replace h := Option.some.inj h; subst h
                  show _ = _
                  kernel_rfl
                · replace h := fork_f c12 h
                  refine O_ps 2 (by kernel_rfl) ?_
                  refine O_idx (kd := .i64) cI_i64 h (fun _ => rfl) (by kernel_rfl) (by kernel_rfl) (by kernel_rfl) (fun v13 e_v13 h => ?_)
                  refine O_ps 3 (by kernel_rfl) ?_
                  refine O_len (l := a0.Steps) cSStep (by kernel_rfl) (by kernel_rfl) ?_
                  refine O_ps 2 (by kernel_rfl) ?_
                  refine O_nil ?_
                  refine Gh_end (s1 := ⟨⟨59, [(1, .ro (a1.map cI_i64)), (3, .pown 0 1 0 0), (7, .int .i64 s7), (44, .bool (decide (v13 ≥ (a0.Steps.length : Int))))]⟩, [.live .norm 2 [[.int .i64 a0.Actuators, .ro (a0.Steps.map cSStep)]]]⟩) _ (by kernel_rfl) ?_
                  replace h := Option.some.inj h; subst h
                  show _ = _
                  kernel_rfl
              · refine W_gh ?_
                refine W_cond (c := w10) (by kernel_rfl) (fun c14 => ?_) (fun c14 => ?_)
                · replace h := fork_t c14 h
                  refine W_seq ?_
                  refine W_reg ?_
                  refine O_ps 1 (by kernel_rfl) ?_
                  refine O_nil ?_
                  refine W_ret ?_
                  replace h := Option.some.inj h; subst h
                  refine ⟨_, rfl, fun h => ?_⟩
                  replace h := Option.some.inj h; subst h
                  exact Fin_free (l := [.int .i64 2]) (by kernel_rfl) (by kernel_rfl) rfl
                · replace h := fork_f c14 h
                  refine W_skip ?_
                  refine Gh_end (s1 := ⟨⟨59, [(1, .ro (a1.map cI_i64)), (3, .pown 0 1 0 0), (7, .int .i64 s7)]⟩, [.live .norm 2 [[.int .i64 a0.Actuators, .ro (a0.Steps.map cSStep)]]]⟩) _ (by kernel_rfl) ?_
                  refine W_seq ?_
                  refine W_joinS (fun v : Bool => ⟨⟨59, [(1, .ro (a1.map cI_i64)), (3, .pown 0 1 0 0), (7, .int .i64 s7), (58, .bool v)]⟩, [.live .norm 2 [[.int .i64 a0.Actuators, .ro (a0.Steps.map cSStep)]]]⟩) h (fun w h => ?_) (fun w15 e_w15 h => ?_)
                  · refine W_gh ?_
                    refine W_draw ?_
                    refine O_ps 3 (by kernel_rfl) ?_
                    refine O_fork (n := 47) (decide (s7 > 0)) (by kernel_rfl) (fun c16 => ?_) (fun c16 => ?_)
                    · replace h := fork_t c16 h
                      refine O_ps 2 (by kernel_rfl) ?_
                      refine O_idx (kd := .i64) cI_i64 h (fun _ => rfl) (by kernel_rfl) (by kernel_rfl) (by kernel_rfl) (fun v17 e_v17 h => ?_)
                      refine O_ps 4 (by kernel_rfl) ?_
                      refine O_idx (kd := .i64) cI_i64 h (fun _ => rfl) (by kernel_rfl) (by kernel_rfl) (by kernel_rfl) (fun v18 e_v18 h => ?_)
                      refine O_ps 3 (by kernel_rfl) ?_
                      refine O_nil ?_
                      refine Gh_end (s1 := ⟨⟨59, [(1, .ro (a1.map cI_i64)), (3, .pown 0 1 0 0), (7, .int .i64 s7), (58, .bool (decide (v17 ≤ v18)))]⟩, [.live .norm 2 [[.int .i64 a0.Actuators, .ro (a0.Steps.map cSStep)]]]⟩) _ (by kernel_rfl) ?_
                      replace h := Option.some.inj h; subst h
                      show _ = _
                      kernel_rfl
                    · replace h := fork_f c16 h
                      refine O_ps 11 (by kernel_rfl) ?_
                      refine O_nil ?_
                      refine Gh_end (s1 := ⟨⟨59, [(1, .ro (a1.map cI_i64)), (3, .pown 0 1 0 0), (7, .int .i64 s7), (58, .bool false)]⟩, [.live .norm 2 [[.int .i64 a0.Actuators, .ro (a0.Steps.map cSStep)]]]⟩) _ (by kernel_rfl) ?_
                      replace h := Option.some.inj h; subst h
                      show _ = _
                      kernel_rfl
                  · refine W_gh ?_
                    refine W_cond (c := w15) (by kernel_rfl) (fun c19 => ?_) (fun c19 => ?_)
                    · replace h := fork_t c19 h
                      refine W_seq ?_
                      refine W_reg ?_
                      refine O_ps 1 (by kernel_rfl) ?_
                      refine O_nil ?_
                      refine W_ret ?_
                      replace h := Option.some.inj h; subst h
                      refine ⟨_, rfl, fun h => ?_⟩
                      replace h := Option.some.inj h; subst h
                      exact Fin_free (l := [.int .i64 9]) (by kernel_rfl) (by kernel_rfl) rfl
                    · replace h := fork_f c19 h
                      refine W_skip ?_
                      refine Gh_end (s1 := ⟨⟨59, [(1, .ro (a1.map cI_i64)), (3, .pown 0 1 0 0), (7, .int .i64 s7)]⟩, [.live .norm 2 [[.int .i64 a0.Actuators, .ro (a0.Steps.map cSStep)]]]⟩) _ (by kernel_rfl) ?_
                      refine Gh_end (s1 := ⟨⟨59, [(1, .ro (a1.map cI_i64)), (3, .pown 0 1 0 0), (7, .int .i64 s7)]⟩, [.live .norm 2 [[.int .i64 a0.Actuators, .ro (a0.Steps.map cSStep)]]]⟩) _ (by kernel_rfl) ?_
                      refine W_gh ?_
                      refine W_reg ?_
                      refine O_ps 3 (by kernel_rfl) ?_
                      refine O_nil ?_
                      refine Gh_end (s1 := ⟨⟨59, [(1, .ro (a1.map cI_i64)), (3, .pown 0 1 0 0), (7, .int .i64 (addI .i64 s7 1))]⟩, [.live .norm 2 [[.int .i64 a0.Actuators, .ro (a0.Steps.map cSStep)]]]⟩) _ (by kernel_rfl) ?_
                      refine Gh_end (s1 := ⟨⟨59, [(1, .ro (a1.map cI_i64)), (3, .pown 0 1 0 0), (7, .int .i64 (addI .i64 s7 1))]⟩, [.live .norm 2 [[.int .i64 a0.Actuators, .ro (a0.Steps.map cSStep)]]]⟩) _ (by kernel_rfl) ?_
                      replace h := Option.some.inj h; subst h
                      exact ⟨_, rfl, by kernel_rfl⟩
            · replace h := fork_f c9 h
              refine W_exit ?_
              refine X_hit ?_
              refine Gh_end (s1 := ⟨⟨59, [(1, .ro (a1.map cI_i64))]⟩, [.live .norm 2 [[.int .i64 a0.Actuators, .ro (a0.Steps.map cSStep)]]]⟩) _ (by kernel_rfl) ?_
              replace h := Option.some.inj h; subst h
              exact ⟨_, rfl, by kernel_rfl⟩
          · refine W_seq ?_
            refine W_reg ?_
            refine O_ps 1 (by kernel_rfl) ?_
            refine O_nil ?_
            refine W_ret ?_
            replace h := Option.some.inj h; subst h
            exact Fin_free (l := [.int .i64 0]) (by kernel_rfl) (by kernel_rfl) rfl

theorem p52 (a0 : SSequence) (a1 : (List Int)) (a2 : Int) (r : Int) (h : m52 a0 a1 a2 = some r) : Pt E0 hp 52 [.agg (cSSequence a0), .ro (a1.map cI_i64), .int .i64 a2] (.int .i64 r) := by
  unfold m52 at h
  refine Pt_W (fn52) rfl (by decide) ?_
  refine W_seq ?_
  refine W_gh ?_
  refine W_reg ?_
  refine O_ps 2 (by kernel_rfl) ?_
  refine O_nil ?_
  refine Gh_end (s1 := ⟨⟨24, [(1, .ro (a1.map cI_i64)), (2, .int .i64 a2), (3, .pown 0 1 0 0)]⟩, [.live .norm 2 [[.int .i64 a0.Actuators, .ro (a0.Steps.map cSStep)]]]⟩) _ (by kernel_rfl) ?_
  refine W_seq ?_
  refine W_seq ?_
  refine W_gh ?_
  refine W_reg ?_
  refine O_ps 3 (by kernel_rfl) ?_
  refine O_len (l := a1) cI_i64 (by kernel_rfl) (by kernel_rfl) ?_
  refine O_ps 1 (by kernel_rfl) ?_
  refine O_nil ?_
  refine Gh_end (s1 := ⟨⟨24, [(1, .ro (a1.map cI_i64)), (2, .int .i64 a2), (3, .pown 0 1 0 0), (11, .bool (decide ((addI .i64 a2 1) < (a1.length : Int))))]⟩, [.live .norm 2 [[.int .i64 a0.Actuators, .ro (a0.Steps.map cSStep)]]]⟩) _ (by kernel_rfl) ?_
  refine W_gh ?_
  refine W_cond (c := (decide ((addI .i64 a2 1) < (a1.length : Int)))) (by kernel_rfl) (fun c1 => ?_) (fun c1 => ?_)
  · replace h := fork_t c1 h
    refine W_seq ?_
    refine W_gh ?_
    refine W_reg ?_
    refine O_ps 3 (by kernel_rfl) ?_
    refine O_idx (kd := .i64) cI_i64 h (fun _ => rfl) (by kernel_rfl) (by kernel_rfl) (by kernel_rfl) (fun v2 e_v2 h => ?_)
    refine O_ps 2 (by kernel_rfl) ?_
    refine O_nil ?_
    refine Gh_end (s1 := ⟨⟨24, [(3, .pown 0 1 0 0), (6, .int .i64 v2), (11, .bool (decide ((addI .i64 a2 1) < (a1.length : Int))))]⟩, [.live .norm 2 [[.int .i64 a0.Actuators, .ro (a0.Steps.map cSStep)]]]⟩) _ (by kernel_rfl) ?_
    refine W_ret ?_
    replace h := Option.some.inj h; subst h
    exact Fin_free (l := [.int .i64 v2]) (by kernel_rfl) (by kernel_rfl) rfl
  · replace h := fork_f c1 h
    refine W_skip ?_
    refine Gh_end (s1 := ⟨⟨24, [(1, .ro (a1.map cI_i64)), (2, .int .i64 a2), (3, .pown 0 1 0 0)]⟩, [.live .norm 2 [[.int .i64 a0.Actuators, .ro (a0.Steps.map cSStep)]]]⟩) _ (by kernel_rfl) ?_
    refine W_seq ?_
    refine W_gh ?_
    refine W_draw ?_
    refine O_ps 2 (by kernel_rfl) ?_
    refine O_len (l := a0.Steps) cSStep (by kernel_rfl) (by kernel_rfl) ?_
    refine O_ps 1 (by kernel_rfl) ?_
    refine O_idx (kd := .i64) cI_i64 h (fun _ => rfl) (by kernel_rfl) (by kernel_rfl) (by kernel_rfl) (fun v3 e_v3 h => ?_)
    refine O_ps 3 (by kernel_rfl) ?_
    refine O_nil ?_
    refine Gh_end (s1 := ⟨⟨24, [(2, .int .i64 a2), (6, .int .i64 (addI .i64 (a0.Steps.length : Int) v3))]⟩, [.live .norm 2 [[.int .i64 a0.Actuators, .ro (a0.Steps.map cSStep)]]]⟩) _ (by kernel_rfl) ?_
    refine W_ret ?_
    replace h := Option.some.inj h; subst h
    exact Fin_free (l := [.int .i64 (addI .i64 (a0.Steps.length : Int) v3)]) (by kernel_rfl) (by kernel_rfl) rfl

theorem p38 (a0 : SSequence) (a1 : Int) (a2 : Int) (r : Bool) (h : m38 a0 a1 a2 = some r) : Pt E0 hp 38 [.agg (cSSequence a0), .int .i64 a1, .int .i64 a2] (.bool r) := by
  unfold m38 at h
  refine Pt_W (fn38) rfl (by decide) ?_
  refine W_seq ?_
  refine W_gh ?_
  refine W_reg ?_
  refine O_ps 2 (by kernel_rfl) ?_
  refine O_nil ?_
  refine Gh_end (s1 := ⟨⟨32, [(1, .int .i64 a1), (2, .int .i64 a2), (3, .pown 0 1 0 0)]⟩, [.live .norm 2 [[.int .i64 a0.Actuators, .ro (a0.Steps.map cSStep)]]]⟩) _ (by kernel_rfl) ?_
  refine W_seq ?_
  refine W_seq ?_
  refine W_reg ?_
  refine O_ps 1 (by kernel_rfl) ?_
  refine O_nil ?_
  refine W_loop (fun s1 : Int => ⟨⟨32, [(1, .int .i64 a1), (2, .int .i64 a2), (3, .pown 0 1 0 0), (7, .int .i64 s1)]⟩, [.live .norm 2 [[.int .i64 a0.Actuators, .ro (a0.Steps.map cSStep)]]]⟩) (fun w2 : Unit => ⟨⟨32, [(1, .int .i64 a1), (2, .int .i64 a2)]⟩, [.live .norm 2 [[.int .i64 a0.Actuators, .ro (a0.Steps.map cSStep)]]]⟩) h (by kernel_rfl) (fun s1 c h => ?_) (fun w2 h => ?_)
  · refine W_gh ?_
    refine W_seq ?_
    refine W_seq ?_
    refine W_gh ?_
    refine W_reg ?_
    refine O_ps 4 (by kernel_rfl) ?_
    refine O_nil ?_
    refine Gh_end (s1 := ⟨⟨32, [(1, .int .i64 a1), (2, .int .i64 a2), (3, .pown 0 1 0 0), (7, .int .i64 s1), (11, .bool (decide (s1 < a0.Actuators)))]⟩, [.live .norm 2 [[.int .i64 a0.Actuators, .ro (a0.Steps.map cSStep)]]]⟩) _ (by kernel_rfl) ?_
    refine W_gh ?_
    refine W_cond (c := (decide (s1 < a0.Actuators))) (by kernel_rfl) (fun c3 => ?_) (fun c3 => ?_)
    · replace h := fork_t c3 h
      refine W_skip ?_
      refine Gh_end (s1 := ⟨⟨32, [(1, .int .i64 a1), (2, .int .i64 a2), (3, .pown 0 1 0 0), (7, .int .i64 s1)]⟩, [.live .norm 2 [[.int .i64 a0.Actuators, .ro (a0.Steps.map cSStep)]]]⟩) _ (by kernel_rfl) ?_
      refine W_seq ?_
      refine W_gh ?_
      refine W_block ?_
      refine W_seq ?_
      refine W_joinS (fun v : Bool => ⟨⟨32, [(1, .int .i64 a1), (2, .int .i64 a2), (3, .pown 0 1 0 0), (7, .int .i64 s1), (31, .bool v)]⟩, [.live .norm 2 [[.int .i64 a0.Actuators, .ro (a0.Steps.map cSStep)]]]⟩) h (fun w h => ?_) (fun w4 e_w4 h => ?_)
      · refine W_gh ?_
        refine W_reg ?_
        refine O_ps 3 (by kernel_rfl) ?_
        refine O_idx (kd := .i64) cSStep h (fun _ => rfl) (by kernel_rfl) (by kernel_rfl) (by kernel_rfl) (fun v5 e_v5 h => ?_)
        refine O_ps 2 (by kernel_rfl) ?_
        refine O_call (fun v => .int .i64 v) h (.inr rfl) (ys := [.agg (cSStep v5), .int .i64 s1]) (fun _ e => p53 _ _ _ e) (by kernel_rfl) (by kernel_rfl) (bels_cons (okSStep.bel _) (bels_cons rfl rfl)) (fun v6 e_v6 h => ?_)
        refine O_ps 2 (by kernel_rfl) ?_
        refine O_fork (n := 22) (v6 != 0) (by kernel_rfl) (fun c7 => ?_) (fun c7 => ?_)
        · replace h := fork_t c7 h
          refine O_ps 3 (by kernel_rfl) ?_
          refine O_idx (kd := .i64) cSStep h (fun _ => rfl) (by kernel_rfl) (by kernel_rfl) (by kernel_rfl) (fun v8 e_v8 h => ?_)
          refine O_ps 2 (by kernel_rfl) ?_
          refine O_call (fun v => .int .i64 v) h (.inr rfl) (ys := [.agg (cSStep v8), .int .i64 s1]) (fun _ e => p53 _ _ _ e) (by kernel_rfl) (by kernel_rfl) (bels_cons (okSStep.bel _) (bels_cons rfl rfl)) (fun v9 e_v9 h => ?_)
          refine O_ps 2 (by kernel_rfl) ?_
          refine O_nil ?_
          refine Gh_end (s1 := ⟨⟨32, [(1, .int .i64 a1), (2, .int .i64 a2), (3, .pown 0 1 0 0), (7, .int .i64 s1), (31, .bool (v9 != 0))]⟩, [.live .norm 2 [[.int .i64 a0.Actuators, .ro (a0.Steps.map cSStep)]]]⟩) _ (by kernel_rfl) ?_
          replace h := Option.some.inj h; subst h
          show _ = _
          kernel_rfl
        · replace h := fork_f c7 h
          refine O_ps 9 (by kernel_rfl) ?_
          refine O_nil ?_
          refine Gh_end (s1 := ⟨⟨32, [(1, .int .i64 a1), (2, .int .i64 a2), (3, .pown 0 1 0 0), (7, .int .i64 s1), (31, .bool false)]⟩, [.live .norm 2 [[.int .i64 a0.Actuators, .ro (a0.Steps.map cSStep)]]]⟩) _ (by kernel_rfl) ?_
          replace h := Option.some.inj h; subst h
          show _ = _
          kernel_rfl
      · refine W_gh ?_
        refine W_cond (c := w4) (by kernel_rfl) (fun c10 => ?_) (fun c10 => ?_)
        · replace h := fork_t c10 h
          refine W_seq ?_
          refine W_reg ?_
          refine O_ps 1 (by kernel_rfl) ?_
          refine O_nil ?_
          refine W_ret ?_
          replace h := Option.some.inj h; subst h
          refine ⟨_, rfl, fun h => ?_⟩
          replace h := Option.some.inj h; subst h
          exact Fin_free (l := [.bool true]) (by kernel_rfl) (by kernel_rfl) rfl
        · replace h := fork_f c10 h
          refine W_skip ?_
          refine Gh_end (s1 := ⟨⟨32, [(1, .int .i64 a1), (2, .int .i64 a2), (3, .pown 0 1 0 0), (7, .int .i64 s1)]⟩, [.live .norm 2 [[.int .i64 a0.Actuators, .ro (a0.Steps.map cSStep)]]]⟩) _ (by kernel_rfl) ?_
          refine Gh_end (s1 := ⟨⟨32, [(1, .int .i64 a1), (2, .int .i64 a2), (3, .pown 0 1 0 0), (7, .int .i64 s1)]⟩, [.live .norm 2 [[.int .i64 a0.Actuators, .ro (a0.Steps.map cSStep)]]]⟩) _ (by kernel_rfl) ?_
          refine W_gh ?_
          refine W_reg ?_
          refine O_ps 3 (by kernel_rfl) ?_
          refine O_nil ?_
          refine Gh_end (s1 := ⟨⟨32, [(1, .int .i64 a1), (2, .int .i64 a2), (3, .pown 0 1 0 0), (7, .int .i64 (addI .i64 s1 1))]⟩, [.live .norm 2 [[.int .i64 a0.Actuators, .ro (a0.Steps.map cSStep)]]]⟩) _ (by kernel_rfl) ?_
          refine Gh_end (s1 := ⟨⟨32, [(1, .int .i64 a1), (2, .int .i64 a2), (3, .pown 0 1 0 0), (7, .int .i64 (addI .i64 s1 1))]⟩, [.live .norm 2 [[.int .i64 a0.Actuators, .ro (a0.Steps.map cSStep)]]]⟩) _ (by kernel_rfl) ?_
          replace h := Option.some.inj h; subst h
          exact ⟨_, rfl, by kernel_rfl⟩
    · replace h := fork_f c3 h
      refine W_exit ?_
      refine X_hit ?_
      refine Gh_end (s1 := ⟨⟨32, [(1, .int .i64 a1), (2, .int .i64 a2)]⟩, [.live .norm 2 [[.int .i64 a0.Actuators, .ro (a0.Steps.map cSStep)]]]⟩) _ (by kernel_rfl) ?_
      replace h := Option.some.inj h; subst h
      exact ⟨_, rfl, by kernel_rfl⟩
  · refine W_seq ?_
    refine W_reg ?_
    refine O_ps 1 (by kernel_rfl) ?_
    refine O_nil ?_
    refine W_ret ?_
    replace h := Option.some.inj h; subst h
    exact Fin_free (l := [.bool false]) (by kernel_rfl) (by kernel_rfl) rfl

theorem p78 (a0 : SSequence) (a1 : Int) (a2 : Int) (r : Bool) (h : m78 a0 a1 a2 = some r) : Pt E0 hp 78 [.agg (cSSequence a0), .int .i64 a1, .int .i64 a2] (.bool r) := by
  unfold m78 at h
  refine Pt_W (fn78) rfl (by decide) ?_
  refine W_seq ?_
  refine W_gh ?_
  refine W_reg ?_
  refine O_ps 2 (by kernel_rfl) ?_
  refine O_nil ?_
  refine Gh_end (s1 := ⟨⟨35, [(1, .int .i64 a1), (2, .int .i64 a2), (3, .pown 0 1 0 0)]⟩, [.live .norm 2 [[.int .i64 a0.Actuators, .ro (a0.Steps.map cSStep)]]]⟩) _ (by kernel_rfl) ?_
  refine W_seq ?_
  refine W_seq ?_
  refine W_reg ?_
  refine O_ps 1 (by kernel_rfl) ?_
  refine O_nil ?_
  refine W_loop (fun s1 : Int => ⟨⟨35, [(1, .int .i64 a1), (2, .int .i64 a2), (3, .pown 0 1 0 0), (7, .int .i64 s1)]⟩, [.live .norm 2 [[.int .i64 a0.Actuators, .ro (a0.Steps.map cSStep)]]]⟩) (fun w2 : Unit => ⟨⟨35, [(1, .int .i64 a1), (2, .int .i64 a2)]⟩, [.live .norm 2 [[.int .i64 a0.Actuators, .ro (a0.Steps.map cSStep)]]]⟩) h (by kernel_rfl) (fun s1 c h => ?_) (fun w2 h => ?_)
  · refine W_gh ?_
    refine W_seq ?_
    refine W_seq ?_
    refine W_gh ?_
    refine W_reg ?_
    refine O_ps 3 (by kernel_rfl) ?_
    refine O_nil ?_
    refine Gh_end (s1 := ⟨⟨35, [(1, .int .i64 a1), (2, .int .i64 a2), (3, .pown 0 1 0 0), (7, .int .i64 s1), (11, .bool (decide (s1 < a2)))]⟩, [.live .norm 2 [[.int .i64 a0.Actuators, .ro (a0.Steps.map cSStep)]]]⟩) _ (by kernel_rfl) ?_
    refine W_gh ?_
    refine W_cond (c := (decide (s1 < a2))) (by kernel_rfl) (fun c3 => ?_) (fun c3 => ?_)
    · replace h := fork_t c3 h
      refine W_skip ?_
      refine Gh_end (s1 := ⟨⟨35, [(1, .int .i64 a1), (2, .int .i64 a2), (3, .pown 0 1 0 0), (7, .int .i64 s1)]⟩, [.live .norm 2 [[.int .i64 a0.Actuators, .ro (a0.Steps.map cSStep)]]]⟩) _ (by kernel_rfl) ?_
      refine W_seq ?_
      refine W_gh ?_
      refine W_block ?_
      refine W_seq ?_
      refine W_reg ?_
      refine O_ps 1 (by kernel_rfl) ?_
      refine O_nil ?_
      refine W_loop (fun s4 : Int => ⟨⟨35, [(1, .int .i64 a1), (2, .int .i64 a2), (3, .pown 0 1 0 0), (7, .int .i64 s1), (8, .int .i64 s4)]⟩, [.live .norm 2 [[.int .i64 a0.Actuators, .ro (a0.Steps.map cSStep)]]]⟩) (fun w5 : Unit => ⟨⟨35, [(1, .int .i64 a1), (2, .int .i64 a2), (3, .pown 0 1 0 0), (7, .int .i64 s1)]⟩, [.live .norm 2 [[.int .i64 a0.Actuators, .ro (a0.Steps.map cSStep)]]]⟩) h (by kernel_rfl) (fun s4 c h => ?_) (fun w5 h => ?_)
      · refine W_gh ?_
        refine W_seq ?_
        refine W_seq ?_
        refine W_gh ?_
        refine W_reg ?_
        refine O_ps 3 (by kernel_rfl) ?_
        refine O_nil ?_
        refine Gh_end (s1 := ⟨⟨35, [(1, .int .i64 a1), (2, .int .i64 a2), (3, .pown 0 1 0 0), (7, .int .i64 s1), (8, .int .i64 s4), (16, .bool (decide (s4 < s1)))]⟩, [.live .norm 2 [[.int .i64 a0.Actuators, .ro (a0.Steps.map cSStep)]]]⟩) _ (by kernel_rfl) ?_
        refine W_gh ?_
        refine W_cond (c := (decide (s4 < s1))) (by kernel_rfl) (fun c6 => ?_) (fun c6 => ?_)
        · replace h := fork_t c6 h
          refine W_skip ?_
          refine Gh_end (s1 := ⟨⟨35, [(1, .int .i64 a1), (2, .int .i64 a2), (3, .pown 0 1 0 0), (7, .int .i64 s1), (8, .int .i64 s4)]⟩, [.live .norm 2 [[.int .i64 a0.Actuators, .ro (a0.Steps.map cSStep)]]]⟩) _ (by kernel_rfl) ?_
          refine W_seq ?_
          refine W_gh ?_
          refine W_block ?_
          refine W_seq ?_
          refine W_gh ?_
          refine W_draw ?_
          refine O_ps 6 (by kernel_rfl) ?_
          refine O_len (l := a0.Steps) cSStep (by kernel_rfl) (by kernel_rfl) ?_
          refine O_rem (kd := .i64) h (by kernel_rfl) (by kernel_rfl) (by kernel_rfl) (fun v7 e_v7 h => ?_)
          refine O_ps 5 (by kernel_rfl) ?_
          refine O_len (l := a0.Steps) cSStep (by kernel_rfl) (by kernel_rfl) ?_
          refine O_rem (kd := .i64) h (by kernel_rfl) (by kernel_rfl) (by kernel_rfl) (fun v8 e_v8 h => ?_)
          refine O_call (fun v => .bool v) h (.inr rfl) (ys := [.agg (cSSequence a0), .int .i64 v7, .int .i64 v8]) (fun _ e => p38 _ _ _ _ e) (by kernel_rfl) (by kernel_rfl) (bels_cons (okSSequence.bel _) (bels_cons rfl (bels_cons rfl rfl))) (fun v9 e_v9 h => ?_)
          refine O_nil ?_
          refine Gh_end (s1 := ⟨⟨35, [(1, .int .i64 a1), (2, .int .i64 a2), (3, .pown 0 1 0 0), (7, .int .i64 s1), (8, .int .i64 s4), (34, .bool v9)]⟩, [.live .norm 2 [[.int .i64 a0.Actuators, .ro (a0.Steps.map cSStep)]]]⟩) _ (by kernel_rfl) ?_
          refine W_gh ?_
          refine W_cond (c := v9) (by kernel_rfl) (fun c10 => ?_) (fun c10 => ?_)
          · replace h := fork_t c10 h
            refine W_seq ?_
            refine W_reg ?_
            refine O_ps 1 (by kernel_rfl) ?_
            refine O_nil ?_
            refine W_ret ?_
            replace h := Option.some.inj h; subst h
            refine ⟨_, rfl, fun h => ?_⟩
            replace h := Option.some.inj h; subst h
            refine ⟨_, rfl, fun h => ?_⟩
            replace h := Option.some.inj h; subst h
            exact Fin_free (l := [.bool false]) (by kernel_rfl) (by kernel_rfl) rfl
          · replace h := fork_f c10 h
            refine W_skip ?_
            refine Gh_end (s1 := ⟨⟨35, [(1, .int .i64 a1), (2, .int .i64 a2), (3, .pown 0 1 0 0), (7, .int .i64 s1), (8, .int .i64 s4)]⟩, [.live .norm 2 [[.int .i64 a0.Actuators, .ro (a0.Steps.map cSStep)]]]⟩) _ (by kernel_rfl) ?_
            refine Gh_end (s1 := ⟨⟨35, [(1, .int .i64 a1), (2, .int .i64 a2), (3, .pown 0 1 0 0), (7, .int .i64 s1), (8, .int .i64 s4)]⟩, [.live .norm 2 [[.int .i64 a0.Actuators, .ro (a0.Steps.map cSStep)]]]⟩) _ (by kernel_rfl) ?_
            refine W_gh ?_
            refine W_reg ?_
            refine O_ps 3 (by kernel_rfl) ?_
            refine O_nil ?_
            refine Gh_end (s1 := ⟨⟨35, [(1, .int .i64 a1), (2, .int .i64 a2), (3, .pown 0 1 0 0), (7, .int .i64 s1), (8, .int .i64 (addI .i64 s4 1))]⟩, [.live .norm 2 [[.int .i64 a0.Actuators, .ro (a0.Steps.map cSStep)]]]⟩) _ (by kernel_rfl) ?_
            refine Gh_end (s1 := ⟨⟨35, [(1, .int .i64 a1), (2, .int .i64 a2), (3, .pown 0 1 0 0), (7, .int .i64 s1), (8, .int .i64 (addI .i64 s4 1))]⟩, [.live .norm 2 [[.int .i64 a0.Actuators, .ro (a0.Steps.map cSStep)]]]⟩) _ (by kernel_rfl) ?_
            replace h := Option.some.inj h; subst h
            exact ⟨_, rfl, by kernel_rfl⟩
        · replace h := fork_f c6 h
          refine W_exit ?_
          refine X_hit ?_
          refine Gh_end (s1 := ⟨⟨35, [(1, .int .i64 a1), (2, .int .i64 a2), (3, .pown 0 1 0 0), (7, .int .i64 s1)]⟩, [.live .norm 2 [[.int .i64 a0.Actuators, .ro (a0.Steps.map cSStep)]]]⟩) _ (by kernel_rfl) ?_
          replace h := Option.some.inj h; subst h
          exact ⟨_, rfl, by kernel_rfl⟩
      · refine Gh_end (s1 := ⟨⟨35, [(1, .int .i64 a1), (2, .int .i64 a2), (3, .pown 0 1 0 0), (7, .int .i64 s1)]⟩, [.live .norm 2 [[.int .i64 a0.Actuators, .ro (a0.Steps.map cSStep)]]]⟩) _ (by kernel_rfl) ?_
        refine W_gh ?_
        refine W_reg ?_
        refine O_ps 3 (by kernel_rfl) ?_
        refine O_nil ?_
        refine Gh_end (s1 := ⟨⟨35, [(1, .int .i64 a1), (2, .int .i64 a2), (3, .pown 0 1 0 0), (7, .int .i64 (addI .i64 s1 1))]⟩, [.live .norm 2 [[.int .i64 a0.Actuators, .ro (a0.Steps.map cSStep)]]]⟩) _ (by kernel_rfl) ?_
        refine Gh_end (s1 := ⟨⟨35, [(1, .int .i64 a1), (2, .int .i64 a2), (3, .pown 0 1 0 0), (7, .int .i64 (addI .i64 s1 1))]⟩, [.live .norm 2 [[.int .i64 a0.Actuators, .ro (a0.Steps.map cSStep)]]]⟩) _ (by kernel_rfl) ?_
        replace h := Option.some.inj h; subst h
        exact ⟨_, rfl, by kernel_rfl⟩
    · replace h := fork_f c3 h
      refine W_exit ?_
      refine X_hit ?_
      refine Gh_end (s1 := ⟨⟨35, [(1, .int .i64 a1), (2, .int .i64 a2)]⟩, [.live .norm 2 [[.int .i64 a0.Actuators, .ro (a0.Steps.map cSStep)]]]⟩) _ (by kernel_rfl) ?_
      replace h := Option.some.inj h; subst h
      exact ⟨_, rfl, by kernel_rfl⟩
  · refine W_seq ?_
    refine W_reg ?_
    refine O_ps 1 (by kernel_rfl) ?_
    refine O_nil ?_
    refine W_ret ?_
    replace h := Option.some.inj h; subst h
    exact Fin_free (l := [.bool true]) (by kernel_rfl) (by kernel_rfl) rfl

theorem p66 (a0 : SSequence) (a1 : (List Int)) (r : Bool) (h : m66 a0 a1 = some r) : Pt E0 hp 66 [.agg (cSSequence a0), .ro (a1.map cI_i64)] (.bool r) := by
  unfold m66 at h
  refine Pt_W (fn66) rfl (by decide) ?_
  refine W_seq ?_
  refine W_gh ?_
  refine W_reg ?_
  refine O_ps 2 (by kernel_rfl) ?_
  refine O_nil ?_
  refine Gh_end (s1 := ⟨⟨28, [(1, .ro (a1.map cI_i64)), (2, .pown 0 1 0 0)]⟩, [.live .norm 2 [[.int .i64 a0.Actuators, .ro (a0.Steps.map cSStep)]]]⟩) _ (by kernel_rfl) ?_
  refine W_seq ?_
  refine W_seq ?_
  refine W_reg ?_
  refine O_ps 1 (by kernel_rfl) ?_
  refine O_nil ?_
  refine W_loop (fun s1 : Int => ⟨⟨28, [(1, .ro (a1.map cI_i64)), (2, .pown 0 1 0 0), (5, .int .i64 s1)]⟩, [.live .norm 2 [[.int .i64 a0.Actuators, .ro (a0.Steps.map cSStep)]]]⟩) (fun w2 : Unit => ⟨⟨28, [(1, .ro (a1.map cI_i64))]⟩, [.live .norm 2 [[.int .i64 a0.Actuators, .ro (a0.Steps.map cSStep)]]]⟩) h (by kernel_rfl) (fun s1 c h => ?_) (fun w2 h => ?_)
  · refine W_gh ?_
    refine W_seq ?_
    refine W_seq ?_
    refine W_gh ?_
    refine W_reg ?_
    refine O_ps 2 (by kernel_rfl) ?_
    refine O_len (l := a1) cI_i64 (by kernel_rfl) (by kernel_rfl) ?_
    refine O_ps 1 (by kernel_rfl) ?_
    refine O_nil ?_
    refine Gh_end (s1 := ⟨⟨28, [(1, .ro (a1.map cI_i64)), (2, .pown 0 1 0 0), (5, .int .i64 s1), (9, .bool (decide (s1 < (a1.length : Int))))]⟩, [.live .norm 2 [[.int .i64 a0.Actuators, .ro (a0.Steps.map cSStep)]]]⟩) _ (by kernel_rfl) ?_
    refine W_gh ?_
    refine W_cond (c := (decide (s1 < (a1.length : Int)))) (by kernel_rfl) (fun c3 => ?_) (fun c3 => ?_)
    · replace h := fork_t c3 h
      refine W_skip ?_
      refine Gh_end (s1 := ⟨⟨28, [(1, .ro (a1.map cI_i64)), (2, .pown 0 1 0 0), (5, .int .i64 s1)]⟩, [.live .norm 2 [[.int .i64 a0.Actuators, .ro (a0.Steps.map cSStep)]]]⟩) _ (by kernel_rfl) ?_
      refine W_seq ?_
      refine W_gh ?_
      refine W_block ?_
      refine W_seq ?_
      refine W_gh ?_
      refine W_draw ?_
      refine O_ps 3 (by kernel_rfl) ?_
      refine O_idx (kd := .i64) cI_i64 h (fun _ => rfl) (by kernel_rfl) (by kernel_rfl) (by kernel_rfl) (fun v4 e_v4 h => ?_)
      refine O_ps 4 (by kernel_rfl) ?_
      refine O_call (fun v => .int .i64 v) h (.inr rfl) (ys := [.agg (cSSequence a0), .ro (a1.map cI_i64), .int .i64 s1]) (fun _ e => p52 _ _ _ _ e) (by kernel_rfl) (by kernel_rfl) (bels_cons (okSSequence.bel _) (bels_cons (ro_bel okI_i64.bel _) (bels_cons rfl rfl))) (fun v5 e_v5 h => ?_)
      refine O_ps 2 (by kernel_rfl) ?_
      refine O_idx (kd := .i64) cI_i64 h (fun _ => rfl) (by kernel_rfl) (by kernel_rfl) (by kernel_rfl) (fun v6 e_v6 h => ?_)
      refine O_ps 2 (by kernel_rfl) ?_
      refine O_call (fun v => .bool v) h (.inr rfl) (ys := [.agg (cSSequence a0), .int .i64 v4, .int .i64 (subI .i64 v5 v6)]) (fun _ e => p78 _ _ _ _ e) (by kernel_rfl) (by kernel_rfl) (bels_cons (okSSequence.bel _) (bels_cons rfl (bels_cons rfl rfl))) (fun v7 e_v7 h => ?_)
      refine O_ps 1 (by kernel_rfl) ?_
      refine O_nil ?_
      refine Gh_end (s1 := ⟨⟨28, [(1, .ro (a1.map cI_i64)), (2, .pown 0 1 0 0), (5, .int .i64 s1), (27, .bool (!v7))]⟩, [.live .norm 2 [[.int .i64 a0.Actuators, .ro (a0.Steps.map cSStep)]]]⟩) _ (by kernel_rfl) ?_
      refine W_gh ?_
      refine W_cond (c := (!v7)) (by kernel_rfl) (fun c8 => ?_) (fun c8 => ?_)
      · replace h := fork_t c8 h
        refine W_seq ?_
        refine W_reg ?_
        refine O_ps 1 (by kernel_rfl) ?_
        refine O_nil ?_
        refine W_ret ?_
        replace h := Option.some.inj h; subst h
        refine ⟨_, rfl, fun h => ?_⟩
        replace h := Option.some.inj h; subst h
        exact Fin_free (l := [.bool false]) (by kernel_rfl) (by kernel_rfl) rfl
      · replace h := fork_f c8 h
        refine W_skip ?_
        refine Gh_end (s1 := ⟨⟨28, [(1, .ro (a1.map cI_i64)), (2, .pown 0 1 0 0), (5, .int .i64 s1)]⟩, [.live .norm 2 [[.int .i64 a0.Actuators, .ro (a0.Steps.map cSStep)]]]⟩) _ (by kernel_rfl) ?_
        refine Gh_end (s1 := ⟨⟨28, [(1, .ro (a1.map cI_i64)), (2, .pown 0 1 0 0), (5, .int .i64 s1)]⟩, [.live .norm 2 [[.int .i64 a0.Actuators, .ro (a0.Steps.map cSStep)]]]⟩) _ (by kernel_rfl) ?_
        refine W_gh ?_
        refine W_reg ?_
        refine O_ps 3 (by kernel_rfl) ?_
        refine O_nil ?_
        refine Gh_end (s1 := ⟨⟨28, [(1, .ro (a1.map cI_i64)), (2, .pown 0 1 0 0), (5, .int .i64 (addI .i64 s1 1))]⟩, [.live .norm 2 [[.int .i64 a0.Actuators, .ro (a0.Steps.map cSStep)]]]⟩) _ (by kernel_rfl) ?_
        refine Gh_end (s1 := ⟨⟨28, [(1, .ro (a1.map cI_i64)), (2, .pown 0 1 0 0), (5, .int .i64 (addI .i64 s1 1))]⟩, [.live .norm 2 [[.int .i64 a0.Actuators, .ro (a0.Steps.map cSStep)]]]⟩) _ (by kernel_rfl) ?_
        replace h := Option.some.inj h; subst h
        exact ⟨_, rfl, by kernel_rfl⟩
    · replace h := fork_f c3 h
      refine W_exit ?_
      refine X_hit ?_
      refine Gh_end (s1 := ⟨⟨28, [(1, .ro (a1.map cI_i64))]⟩, [.live .norm 2 [[.int .i64 a0.Actuators, .ro (a0.Steps.map cSStep)]]]⟩) _ (by kernel_rfl) ?_
      replace h := Option.some.inj h; subst h
      exact ⟨_, rfl, by kernel_rfl⟩
  · refine W_seq ?_
    refine W_reg ?_
    refine O_ps 1 (by kernel_rfl) ?_
    refine O_nil ?_
    refine W_ret ?_
    replace h := Option.some.inj h; subst h
    exact Fin_free (l := [.bool true]) (by kernel_rfl) (by kernel_rfl) rfl

theorem p46 (a0 : SSequence) (a1 : (List Int)) (a2 : Bool) (r : Int) (h : m46 a0 a1 a2 = some r) : Pt E0 hp 46 [.agg (cSSequence a0), .ro (a1.map cI_i64), .bool a2] (.int .i64 r) := by
  unfold m46 at h
  refine Pt_W (fn46) rfl (by decide) ?_
  refine W_seq ?_
  refine W_gh ?_
  refine W_reg ?_
  refine O_ps 2 (by kernel_rfl) ?_
  refine O_nil ?_
  refine Gh_end (s1 := ⟨⟨25, [(1, .ro (a1.map cI_i64)), (2, .bool a2), (3, .pown 0 1 0 0)]⟩, [.live .norm 2 [[.int .i64 a0.Actuators, .ro (a0.Steps.map cSStep)]]]⟩) _ (by kernel_rfl) ?_
  refine W_seq ?_
  refine W_seq ?_
  refine W_gh ?_
  refine W_reg ?_
  refine O_ps 1 (by kernel_rfl) ?_
  refine O_call (fun v => .int .i64 v) h (.inr rfl) (ys := [.agg (cSSequence a0)]) (fun _ e => p37 _ _ e) (by kernel_rfl) (by kernel_rfl) (bels_cons (okSSequence.bel _) rfl) (fun v1 e_v1 h => ?_)
  refine O_ps 1 (by kernel_rfl) ?_
  refine O_nil ?_
  refine Gh_end (s1 := ⟨⟨25, [(1, .ro (a1.map cI_i64)), (2, .bool a2), (3, .pown 0 1 0 0), (7, .int .i64 v1)]⟩, [.live .norm 2 [[.int .i64 a0.Actuators, .ro (a0.Steps.map cSStep)]]]⟩) _ (by kernel_rfl) ?_
  refine W_seq ?_
  refine W_gh ?_
  refine W_reg ?_
  refine O_ps 2 (by kernel_rfl) ?_
  refine O_nil ?_
  refine Gh_end (s1 := ⟨⟨25, [(1, .ro (a1.map cI_i64)), (2, .bool a2), (3, .pown 0 1 0 0), (7, .int .i64 v1), (12, .bool (v1 != 0))]⟩, [.live .norm 2 [[.int .i64 a0.Actuators, .ro (a0.Steps.map cSStep)]]]⟩) _ (by kernel_rfl) ?_
  refine W_gh ?_
  refine W_cond (c := (v1 != 0)) (by kernel_rfl) (fun c2 => ?_) (fun c2 => ?_)
  · replace h := fork_t c2 h
    refine W_seq ?_
    refine W_gh ?_
    refine W_reg ?_
    refine O_ps 2 (by kernel_rfl) ?_
    refine O_nil ?_
    refine Gh_end (s1 := ⟨⟨25, [(1, .ro (a1.map cI_i64)), (2, .bool a2), (3, .pown 0 1 0 0), (6, .int .i64 v1), (12, .bool (v1 != 0))]⟩, [.live .norm 2 [[.int .i64 a0.Actuators, .ro (a0.Steps.map cSStep)]]]⟩) _ (by kernel_rfl) ?_
    refine W_ret ?_
    replace h := Option.some.inj h; subst h
    exact Fin_free (l := [.int .i64 v1]) (by kernel_rfl) (by kernel_rfl) rfl
  · replace h := fork_f c2 h
    refine W_skip ?_
    refine Gh_end (s1 := ⟨⟨25, [(1, .ro (a1.map cI_i64)), (2, .bool a2), (3, .pown 0 1 0 0)]⟩, [.live .norm 2 [[.int .i64 a0.Actuators, .ro (a0.Steps.map cSStep)]]]⟩) _ (by kernel_rfl) ?_
    refine W_seq ?_
    refine W_seq ?_
    refine W_gh ?_
    refine W_reg ?_
    refine O_ps 3 (by kernel_rfl) ?_
    refine O_call (fun v => .int .i64 v) h (.inr rfl) (ys := [.agg (cSSequence a0), .ro (a1.map cI_i64), .bool a2]) (fun _ e => p65 _ _ _ _ e) (by kernel_rfl) (by kernel_rfl) (bels_cons (okSSequence.bel _) (bels_cons (ro_bel okI_i64.bel _) (bels_cons rfl rfl))) (fun v3 e_v3 h => ?_)
    refine O_ps 1 (by kernel_rfl) ?_
    refine O_nil ?_
    refine Gh_end (s1 := ⟨⟨25, [(1, .ro (a1.map cI_i64)), (3, .pown 0 1 0 0), (8, .int .i64 v3)]⟩, [.live .norm 2 [[.int .i64 a0.Actuators, .ro (a0.Steps.map cSStep)]]]⟩) _ (by kernel_rfl) ?_
    refine W_seq ?_
    refine W_gh ?_
    refine W_reg ?_
    refine O_ps 2 (by kernel_rfl) ?_
    refine O_nil ?_
    refine Gh_end (s1 := ⟨⟨25, [(1, .ro (a1.map cI_i64)), (3, .pown 0 1 0 0), (8, .int .i64 v3), (19, .bool (v3 != 0))]⟩, [.live .norm 2 [[.int .i64 a0.Actuators, .ro (a0.Steps.map cSStep)]]]⟩) _ (by kernel_rfl) ?_
    refine W_gh ?_
    refine W_cond (c := (v3 != 0)) (by kernel_rfl) (fun c4 => ?_) (fun c4 => ?_)
    · replace h := fork_t c4 h
      refine W_seq ?_
      refine W_gh ?_
      refine W_reg ?_
      refine O_ps 2 (by kernel_rfl) ?_
      refine O_nil ?_
      refine Gh_end (s1 := ⟨⟨25, [(1, .ro (a1.map cI_i64)), (3, .pown 0 1 0 0), (6, .int .i64 v3), (19, .bool (v3 != 0))]⟩, [.live .norm 2 [[.int .i64 a0.Actuators, .ro (a0.Steps.map cSStep)]]]⟩) _ (by kernel_rfl) ?_
      refine W_ret ?_
      replace h := Option.some.inj h; subst h
      exact Fin_free (l := [.int .i64 v3]) (by kernel_rfl) (by kernel_rfl) rfl
    · replace h := fork_f c4 h
      refine W_skip ?_
      refine Gh_end (s1 := ⟨⟨25, [(1, .ro (a1.map cI_i64)), (3, .pown 0 1 0 0)]⟩, [.live .norm 2 [[.int .i64 a0.Actuators, .ro (a0.Steps.map cSStep)]]]⟩) _ (by kernel_rfl) ?_
      refine W_seq ?_
      refine W_seq ?_
      refine W_gh ?_
      refine W_reg ?_
      refine O_ps 2 (by kernel_rfl) ?_
      refine O_call (fun v => .bool v) h (.inr rfl) (ys := [.agg (cSSequence a0), .ro (a1.map cI_i64)]) (fun _ e => p66 _ _ _ e) (by kernel_rfl) (by kernel_rfl) (bels_cons (okSSequence.bel _) (bels_cons (ro_bel okI_i64.bel _) rfl)) (fun v5 e_v5 h => ?_)
      refine O_ps 1 (by kernel_rfl) ?_
      refine O_nil ?_
      refine Gh_end (s1 := ⟨⟨25, [(24, .bool (!v5))]⟩, [.live .norm 2 [[.int .i64 a0.Actuators, .ro (a0.Steps.map cSStep)]]]⟩) _ (by kernel_rfl) ?_
      refine W_gh ?_
      refine W_cond (c := (!v5)) (by kernel_rfl) (fun c6 => ?_) (fun c6 => ?_)
      · replace h := fork_t c6 h
        refine W_seq ?_
        refine W_reg ?_
        refine O_ps 1 (by kernel_rfl) ?_
        refine O_nil ?_
        refine W_ret ?_
        replace h := Option.some.inj h; subst h
        exact Fin_free (l := [.int .i64 7]) (by kernel_rfl) (by kernel_rfl) rfl
      · replace h := fork_f c6 h
        refine W_skip ?_
        refine Gh_end (s1 := ⟨⟨25, []⟩, [.live .norm 2 [[.int .i64 a0.Actuators, .ro (a0.Steps.map cSStep)]]]⟩) _ (by kernel_rfl) ?_
        refine W_seq ?_
        refine W_reg ?_
        refine O_ps 1 (by kernel_rfl) ?_
        refine O_nil ?_
        refine W_ret ?_
        replace h := Option.some.inj h; subst h
        exact Fin_free (l := [.int .i64 0]) (by kernel_rfl) (by kernel_rfl) rfl

theorem p24 (a0 : SSequence) (a1 : (List Int)) (r : Int) (h : m24 a0 a1 = some r) : Pt E0 hp 24 [.agg (cSSequence a0), .ro (a1.map cI_i64)] (.int .i64 r) := by
  unfold m24 at h
  refine Pt_W (fn24) rfl (by decide) ?_
  refine W_seq ?_
  refine W_gh ?_
  refine W_reg ?_
  refine O_ps 2 (by kernel_rfl) ?_
  refine O_nil ?_
  refine Gh_end (s1 := ⟨⟨8, [(1, .ro (a1.map cI_i64)), (2, .pown 0 1 0 0)]⟩, [.live .norm 2 [[.int .i64 a0.Actuators, .ro (a0.Steps.map cSStep)]]]⟩) _ (by kernel_rfl) ?_
  refine W_seq ?_
  refine W_gh ?_
  refine W_reg ?_
  refine O_ps 2 (by kernel_rfl) ?_
  refine O_call (fun v => .int .i64 v) h (.inr rfl) (ys := [.agg (cSSequence a0), .ro (a1.map cI_i64), .bool true]) (fun _ e => p46 _ _ _ _ e) (by kernel_rfl) (by kernel_rfl) (bels_cons (okSSequence.bel _) (bels_cons (ro_bel okI_i64.bel _) (bels_cons rfl rfl))) (fun v1 e_v1 h => ?_)
  refine O_ps 1 (by kernel_rfl) ?_
  refine O_nil ?_
  refine Gh_end (s1 := ⟨⟨8, [(4, .int .i64 v1)]⟩, [.live .norm 2 [[.int .i64 a0.Actuators, .ro (a0.Steps.map cSStep)]]]⟩) _ (by kernel_rfl) ?_
  refine W_ret ?_
  replace h := Option.some.inj h; subst h
  exact Fin_free (l := [.int .i64 v1]) (by kernel_rfl) (by kernel_rfl) rfl

theorem p29 (a0 : SSequence) (a1 : (List Int)) (r : ((List (List Int)) × Int)) (h : m29 a0 a1 = some r) : Pt E0 hp 29 [.agg (cSSequence a0), .ro (a1.map cI_i64)] (.tup [.ro (r.1.map (cL cI_i64)), .int .i64 r.2]) := by
  unfold m29 at h
  refine Pt_W (fn29) rfl (by decide) ?_
  refine W_seq ?_
  refine W_gh ?_
  refine W_reg ?_
  refine O_ps 3 (by kernel_rfl) ?_
  refine O_nil ?_
  refine Gh_end (s1 := ⟨⟨63, [(1, .ro (a1.map cI_i64)), (2, .pown 0 1 0 0)]⟩, [.live .norm 2 [[.int .i64 a0.Actuators, .ro (a0.Steps.map cSStep)]]]⟩) _ (by kernel_rfl) ?_
  refine W_seq ?_
  refine W_seq ?_
  refine W_gh ?_
  refine W_reg ?_
  refine O_ps 2 (by kernel_rfl) ?_
  refine O_call (fun v => .int .i64 v) h (.inr rfl) (ys := [.agg (cSSequence a0), .ro (a1.map cI_i64)]) (fun _ e => p24 _ _ _ e) (by kernel_rfl) (by kernel_rfl) (bels_cons (okSSequence.bel _) (bels_cons (ro_bel okI_i64.bel _) rfl)) (fun v1 e_v1 h => ?_)
  refine O_ps 1 (by kernel_rfl) ?_
  refine O_nil ?_
  refine Gh_end (s1 := ⟨⟨63, [(1, .ro (a1.map cI_i64)), (2, .pown 0 1 0 0), (6, .int .i64 v1)]⟩, [.live .norm 2 [[.int .i64 a0.Actuators, .ro (a0.Steps.map cSStep)]]]⟩) _ (by kernel_rfl) ?_
  refine W_seq ?_
  refine W_gh ?_
  refine W_reg ?_
  refine O_ps 2 (by kernel_rfl) ?_
  refine O_nil ?_
  refine Gh_end (s1 := ⟨⟨63, [(1, .ro (a1.map cI_i64)), (2, .pown 0 1 0 0), (6, .int .i64 v1), (16, .bool (v1 != 0))]⟩, [.live .norm 2 [[.int .i64 a0.Actuators, .ro (a0.Steps.map cSStep)]]]⟩) _ (by kernel_rfl) ?_
  refine W_gh ?_
  refine W_cond (c := (v1 != 0)) (by kernel_rfl) (fun c2 => ?_) (fun c2 => ?_)
  · replace h := fork_t c2 h
    refine W_seq ?_
    refine W_gh ?_
    refine W_reg ?_
    refine O_ps 3 (by kernel_rfl) ?_
    refine O_nil ?_
    refine Gh_end (s1 := ⟨⟨63, [(1, .ro (a1.map cI_i64)), (2, .pown 0 1 0 0), (4, .ro (([] : List (List Int)).map (cL cI_i64))), (5, .int .i64 v1), (16, .bool (v1 != 0))]⟩, [.live .norm 2 [[.int .i64 a0.Actuators, .ro (a0.Steps.map cSStep)]]]⟩) _ (by kernel_rfl) ?_
    refine W_ret ?_
    replace h := Option.some.inj h; subst h
    exact Fin_free (l := [.ro (([] : List (List Int)).map (cL cI_i64)), .int .i64 v1]) (by kernel_rfl) (by kernel_rfl) (bels_cons (ro_bel (okL okI_i64).bel _) (bels_cons rfl rfl))
  · replace h := fork_f c2 h
    refine W_skip ?_
    refine Gh_end (s1 := ⟨⟨63, [(1, .ro (a1.map cI_i64)), (2, .pown 0 1 0 0)]⟩, [.live .norm 2 [[.int .i64 a0.Actuators, .ro (a0.Steps.map cSStep)]]]⟩) _ (by kernel_rfl) ?_
    refine W_seq ?_
    refine W_gh ?_
    refine W_reg ?_
    refine O_ps 1 (by kernel_rfl) ?_
    refine O_nil ?_
    refine Gh_end (s1 := ⟨⟨63, [(1, .ro (a1.map cI_i64)), (2, .pown 0 1 0 0), (7, .own 1 0 0 0)]⟩, [.live .norm 2 [[.int .i64 a0.Actuators, .ro (a0.Steps.map cSStep)]], .live .nil 1 (([] : List (List Int)).map (cL cI_i64))]⟩) _ (by kernel_rfl) ?_
    refine W_seq ?_
    refine W_seq ?_
    refine W_reg ?_
    refine O_ps 1 (by kernel_rfl) ?_
    refine O_nil ?_
    refine W_loopS (fun s3 : (List (List Int)) × Int => ⟨⟨63, [(1, .ro (a1.map cI_i64)), (2, .pown 0 1 0 0), (7, .own 1 s3.1.length 0 s3.1.length), (8, .int .i64 s3.2)]⟩, [.live .norm 2 [[.int .i64 a0.Actuators, .ro (a0.Steps.map cSStep)]], .live .nil 1 (s3.1.map (cL cI_i64))]⟩) (fun w4 : (List (List Int)) => ⟨⟨63, [(1, .ro (a1.map cI_i64)), (7, .own 1 w4.length 0 w4.length)]⟩, [.live .norm 2 [[.int .i64 a0.Actuators, .ro (a0.Steps.map cSStep)]], .live .nil 1 (w4.map (cL cI_i64))]⟩) h (by kernel_rfl) (fun s3 c h => ?_) (fun w4 e_w4 h => ?_)
    · refine W_gh ?_
      refine W_seq ?_
      refine W_seq ?_
      refine W_gh ?_
      refine W_reg ?_
      refine O_ps 2 (by kernel_rfl) ?_
      refine O_len (l := a1) cI_i64 (by kernel_rfl) (by kernel_rfl) ?_
      refine O_ps 1 (by kernel_rfl) ?_
      refine O_nil ?_
      refine Gh_end (s1 := ⟨⟨63, [(1, .ro (a1.map cI_i64)), (2, .pown 0 1 0 0), (7, .own 1 s3.1.length 0 s3.1.length), (8, .int .i64 s3.2), (21, .bool (decide (s3.2 < (a1.length : Int))))]⟩, [.live .norm 2 [[.int .i64 a0.Actuators, .ro (a0.Steps.map cSStep)]], .live .nil 1 (s3.1.map (cL cI_i64))]⟩) _ (by kernel_rfl) ?_
      refine W_gh ?_
      refine W_cond (c := (decide (s3.2 < (a1.length : Int)))) (by kernel_rfl) (fun c5 => ?_) (fun c5 => ?_)
      · replace h := fork_t c5 h
        refine W_skip ?_
        refine Gh_end (s1 := ⟨⟨63, [(1, .ro (a1.map cI_i64)), (2, .pown 0 1 0 0), (7, .own 1 s3.1.length 0 s3.1.length), (8, .int .i64 s3.2)]⟩, [.live .norm 2 [[.int .i64 a0.Actuators, .ro (a0.Steps.map cSStep)]], .live .nil 1 (s3.1.map (cL cI_i64))]⟩) _ (by kernel_rfl) ?_
        refine W_seq ?_
        refine W_gh ?_
        refine W_block ?_
        refine W_seq ?_
        refine W_gh ?_
        refine W_reg ?_
        refine O_ps 1 (by kernel_rfl) ?_
        refine O_nil ?_
        refine Gh_end (s1 := ⟨⟨63, [(1, .ro (a1.map cI_i64)), (2, .pown 0 1 0 0), (7, .own 1 s3.1.length 0 s3.1.length), (8, .int .i64 s3.2), (9, .own 2 0 0 0)]⟩, [.live .norm 2 [[.int .i64 a0.Actuators, .ro (a0.Steps.map cSStep)]], .live .nil 1 (s3.1.map (cL cI_i64)), .live .nil 1 (([] : List Int).map cI_i64)]⟩) _ (by kernel_rfl) ?_
        refine W_seq ?_
        refine W_seq ?_
        refine W_reg ?_
        refine O_ps 1 (by kernel_rfl) ?_
        refine O_nil ?_
        refine W_loopS (fun s6 : (List Int) × Int => ⟨⟨63, [(1, .ro (a1.map cI_i64)), (2, .pown 0 1 0 0), (7, .own 1 s3.1.length 0 s3.1.length), (8, .int .i64 s3.2), (9, .own 2 s6.1.length 0 s6.1.length), (10, .int .i64 s6.2)]⟩, [.live .norm 2 [[.int .i64 a0.Actuators, .ro (a0.Steps.map cSStep)]], .live .nil 1 (s3.1.map (cL cI_i64)), .live .nil 1 (s6.1.map cI_i64)]⟩) (fun w7 : (List Int) => ⟨⟨63, [(1, .ro (a1.map cI_i64)), (2, .pown 0 1 0 0), (7, .own 1 s3.1.length 0 s3.1.length), (8, .int .i64 s3.2), (9, .own 2 w7.length 0 w7.length)]⟩, [.live .norm 2 [[.int .i64 a0.Actuators, .ro (a0.Steps.map cSStep)]], .live .nil 1 (s3.1.map (cL cI_i64)), .live .nil 1 (w7.map cI_i64)]⟩) h (by kernel_rfl) (fun s6 c h => ?_) (fun w7 e_w7 h => ?_)
        · refine W_gh ?_
          refine W_seq ?_
          refine W_seq ?_
          refine W_gh ?_
          refine W_reg ?_
          refine O_ps 4 (by kernel_rfl) ?_
          refine O_nil ?_
          refine Gh_end (s1 := ⟨⟨63, [(1, .ro (a1.map cI_i64)), (2, .pown 0 1 0 0), (7, .own 1 s3.1.length 0 s3.1.length), (8, .int .i64 s3.2), (9, .own 2 s6.1.length 0 s6.1.length), (10, .int .i64 s6.2), (27, .bool (decide (s6.2 < a0.Actuators)))]⟩, [.live .norm 2 [[.int .i64 a0.Actuators, .ro (a0.Steps.map cSStep)]], .live .nil 1 (s3.1.map (cL cI_i64)), .live .nil 1 (s6.1.map cI_i64)]⟩) _ (by kernel_rfl) ?_
          refine W_gh ?_
          refine W_cond (c := (decide (s6.2 < a0.Actuators))) (by kernel_rfl) (fun c8 => ?_) (fun c8 => ?_)
          · replace h := fork_t c8 h
            refine W_skip ?_
            refine Gh_end (s1 := ⟨⟨63, [(1, .ro (a1.map cI_i64)), (2, .pown 0 1 0 0), (7, .own 1 s3.1.length 0 s3.1.length), (8, .int .i64 s3.2), (9, .own 2 s6.1.length 0 s6.1.length), (10, .int .i64 s6.2)]⟩, [.live .norm 2 [[.int .i64 a0.Actuators, .ro (a0.Steps.map cSStep)]], .live .nil 1 (s3.1.map (cL cI_i64)), .live .nil 1 (s6.1.map cI_i64)]⟩) _ (by kernel_rfl) ?_
            refine W_seq ?_
            refine W_gh ?_
            refine W_block ?_
            refine W_seq ?_
            refine W_gh ?_
            refine W_reg ?_
            refine O_ps 2 (by kernel_rfl) ?_
            refine O_idx (kd := .i64) cI_i64 h (fun _ => rfl) (by kernel_rfl) (by kernel_rfl) (by kernel_rfl) (fun v9 e_v9 h => ?_)
            refine O_ps 2 (by kernel_rfl) ?_
            refine O_nil ?_
            refine Gh_end (s1 := ⟨⟨63, [(1, .ro (a1.map cI_i64)), (2, .pown 0 1 0 0), (7, .own 1 s3.1.length 0 s3.1.length), (8, .int .i64 s3.2), (9, .own 2 s6.1.length 0 s6.1.length), (10, .int .i64 s6.2), (11, .int .i64 v9)]⟩, [.live .norm 2 [[.int .i64 a0.Actuators, .ro (a0.Steps.map cSStep)]], .live .nil 1 (s3.1.map (cL cI_i64)), .live .nil 1 (s6.1.map cI_i64)]⟩) _ (by kernel_rfl) ?_
            refine W_loopS (fun s10 : (List Int) × Int => ⟨⟨63, [(1, .ro (a1.map cI_i64)), (2, .pown 0 1 0 0), (7, .own 1 s3.1.length 0 s3.1.length), (8, .int .i64 s3.2), (9, .own 2 s10.1.length 0 s10.1.length), (10, .int .i64 s6.2), (11, .int .i64 s10.2)]⟩, [.live .norm 2 [[.int .i64 a0.Actuators, .ro (a0.Steps.map cSStep)]], .live .nil 1 (s3.1.map (cL cI_i64)), .live .nil 1 (s10.1.map cI_i64)]⟩) (fun w11 : (List Int) => ⟨⟨63, [(1, .ro (a1.map cI_i64)), (2, .pown 0 1 0 0), (7, .own 1 s3.1.length 0 s3.1.length), (8, .int .i64 s3.2), (9, .own 2 w11.length 0 w11.length), (10, .int .i64 s6.2)]⟩, [.live .norm 2 [[.int .i64 a0.Actuators, .ro (a0.Steps.map cSStep)]], .live .nil 1 (s3.1.map (cL cI_i64)), .live .nil 1 (w11.map cI_i64)]⟩) h (by kernel_rfl) (fun s10 c h => ?_) (fun w11 e_w11 h => ?_)
            · refine W_gh ?_
              refine W_seq ?_
              refine W_seq ?_
              refine W_gh ?_
              refine W_draw ?_
              refine O_ps 4 (by kernel_rfl) ?_
              refine O_call (fun v => .int .i64 v) h (.inr rfl) (ys := [.agg (cSSequence a0), .ro (a1.map cI_i64), .int .i64 s3.2]) (fun _ e => p52 _ _ _ _ e) (by kernel_rfl) (by kernel_rfl) (bels_cons (okSSequence.bel _) (bels_cons (ro_bel okI_i64.bel _) (bels_cons rfl rfl))) (fun v12 e_v12 h => ?_)
              refine O_ps 2 (by kernel_rfl) ?_
              refine O_len (l := a0.Steps) cSStep (by kernel_rfl) (by kernel_rfl) ?_
              refine O_ps 2 (by kernel_rfl) ?_
              refine O_nil ?_
              refine Gh_end (s1 := ⟨⟨63, [(1, .ro (a1.map cI_i64)), (2, .pown 0 1 0 0), (7, .own 1 s3.1.length 0 s3.1.length), (8, .int .i64 s3.2), (9, .own 2 s10.1.length 0 s10.1.length), (10, .int .i64 s6.2), (11, .int .i64 s10.2), (43, .bool (decide (s10.2 < (minI v12 (a0.Steps.length : Int)))))]⟩, [.live .norm 2 [[.int .i64 a0.Actuators, .ro (a0.Steps.map cSStep)]], .live .nil 1 (s3.1.map (cL cI_i64)), .live .nil 1 (s10.1.map cI_i64)]⟩) _ (by kernel_rfl) ?_
              refine W_gh ?_
              refine W_cond (c := (decide (s10.2 < (minI v12 (a0.Steps.length : Int))))) (by kernel_rfl) (fun c13 => ?_) (fun c13 => ?_)
              · replace h := fork_t c13 h
                refine W_skip ?_
                refine Gh_end (s1 := ⟨⟨63, [(1, .ro (a1.map cI_i64)), (2, .pown 0 1 0 0), (7, .own 1 s3.1.length 0 s3.1.length), (8, .int .i64 s3.2), (9, .own 2 s10.1.length 0 s10.1.length), (10, .int .i64 s6.2), (11, .int .i64 s10.2)]⟩, [.live .norm 2 [[.int .i64 a0.Actuators, .ro (a0.Steps.map cSStep)]], .live .nil 1 (s3.1.map (cL cI_i64)), .live .nil 1 (s10.1.map cI_i64)]⟩) _ (by kernel_rfl) ?_
                refine W_seq ?_
                refine W_gh ?_
                refine W_block ?_
                refine W_seq ?_
                refine W_gh ?_
                refine W_reg ?_
                refine O_ps 3 (by kernel_rfl) ?_
                refine O_idx (kd := .i64) cSStep h (fun _ => rfl) (by kernel_rfl) (by kernel_rfl) (by kernel_rfl) (fun v14 e_v14 h => ?_)
                refine O_ps 2 (by kernel_rfl) ?_
                refine O_call (fun v => .int .i64 v) h (.inr rfl) (ys := [.agg (cSStep v14), .int .i64 s6.2]) (fun _ e => p53 _ _ _ e) (by kernel_rfl) (by kernel_rfl) (bels_cons (okSStep.bel _) (bels_cons rfl rfl)) (fun v15 e_v15 h => ?_)
                refine O_ps 1 (by kernel_rfl) ?_
                refine O_nil ?_
                refine Gh_end (s1 := ⟨⟨63, [(1, .ro (a1.map cI_i64)), (2, .pown 0 1 0 0), (7, .own 1 s3.1.length 0 s3.1.length), (8, .int .i64 s3.2), (9, .own 2 s10.1.length 0 s10.1.length), (10, .int .i64 s6.2), (11, .int .i64 s10.2), (53, .bool (v15 != 0))]⟩, [.live .norm 2 [[.int .i64 a0.Actuators, .ro (a0.Steps.map cSStep)]], .live .nil 1 (s3.1.map (cL cI_i64)), .live .nil 1 (s10.1.map cI_i64)]⟩) _ (by kernel_rfl) ?_
                refine W_joinS (fun v : (List Int) => ⟨⟨63, [(1, .ro (a1.map cI_i64)), (2, .pown 0 1 0 0), (7, .own 1 s3.1.length 0 s3.1.length), (8, .int .i64 s3.2), (9, .own 2 v.length 0 v.length), (10, .int .i64 s6.2), (11, .int .i64 s10.2)]⟩, [.live .norm 2 [[.int .i64 a0.Actuators, .ro (a0.Steps.map cSStep)]], .live .nil 1 (s3.1.map (cL cI_i64)), .live .nil 1 (v.map cI_i64)]⟩) h (fun w h => ?_) (fun w16 e_w16 h => ?_)
                · refine W_gh ?_
                  refine W_cond (c := (v15 != 0)) (by kernel_rfl) (fun c17 => ?_) (fun c17 => ?_)
                  · replace h := fork_t c17 h
                    refine W_gh ?_
                    refine W_reg ?_
                    refine O_ps 3 (by kernel_rfl) ?_
                    refine O_app (C := cI_i64) (id := 2) (nl := .nil) okI_i64 h rfl (by kernel_rfl) (by kernel_rfl) (by kernel_rfl) (by kernel_rfl) rfl (fun l18 e_l18 h => ?_)
                    refine O_ps 1 (by kernel_rfl) ?_
                    refine O_nil ?_
                    refine Gh_one (s1 := ⟨⟨63, [(1, .ro (a1.map cI_i64)), (2, .pown 0 1 0 0), (7, .own 1 s3.1.length 0 s3.1.length), (8, .int .i64 s3.2), (9, .own 2 l18.length 0 l18.length), (10, .int .i64 s6.2), (11, .int .i64 s10.2), (53, .bool (v15 != 0))]⟩, [.live .norm 2 [[.int .i64 a0.Actuators, .ro (a0.Steps.map cSStep)]], .live .nil 1 (s3.1.map (cL cI_i64)), .live .nil 1 (l18.map cI_i64), .live .norm 1 (([s6.2] : List Int).map cI_i64)]⟩) (by kernel_rfl) ?_
                    refine Gh_at (s1 := ⟨⟨63, [(1, .ro (a1.map cI_i64)), (2, .pown 0 1 0 0), (7, .own 1 s3.1.length 0 s3.1.length), (8, .int .i64 s3.2), (9, .own 2 l18.length 0 l18.length), (10, .int .i64 s6.2), (11, .int .i64 s10.2), (53, .bool (v15 != 0))]⟩, [.live .norm 2 [[.int .i64 a0.Actuators, .ro (a0.Steps.map cSStep)]], .live .nil 1 (s3.1.map (cL cI_i64)), .live .nil 1 (l18.map cI_i64), .live .norm 1 (([s6.2] : List Int).map cI_i64)]⟩) (by kernel_rfl) ?_
                    refine Gh_trunc (s1 := ⟨⟨63, [(1, .ro (a1.map cI_i64)), (2, .pown 0 1 0 0), (7, .own 1 s3.1.length 0 s3.1.length), (8, .int .i64 s3.2), (9, .own 2 l18.length 0 l18.length), (10, .int .i64 s6.2), (11, .int .i64 s10.2), (53, .bool (v15 != 0))]⟩, [.live .norm 2 [[.int .i64 a0.Actuators, .ro (a0.Steps.map cSStep)]], .live .nil 1 (s3.1.map (cL cI_i64)), .live .nil 1 (l18.map cI_i64)]⟩) (by kernel_rfl) (tb_free (ro_bel okI_i64.bel _) (tb_ref rfl (tb_ref rfl (tb_free rfl (tb_ref rfl (tb_free rfl (tb_free rfl (tb_free rfl rfl)))))))) (H1 := [.live .norm 2 [[.int .i64 a0.Actuators, .ro (a0.Steps.map cSStep)]], .live .nil 1 (s3.1.map (cL cI_i64)), .live .nil 1 (l18.map cI_i64)]) (by kernel_rfl) (ob_boxn (bn_free rfl (bn_free (ro_bel okSStep.bel _) rfl)) (ob_list (okL okI_i64).bel (ob_list okI_i64.bel rfl))) (by kernel_rfl) ?_
                    refine Gh_nil ?_
                    refine Gh_one (s1 := ⟨⟨63, [(1, .ro (a1.map cI_i64)), (2, .pown 0 1 0 0), (7, .own 1 s3.1.length 0 s3.1.length), (8, .int .i64 s3.2), (9, .own 2 l18.length 0 l18.length), (10, .int .i64 s6.2), (11, .int .i64 s10.2)]⟩, [.live .norm 2 [[.int .i64 a0.Actuators, .ro (a0.Steps.map cSStep)]], .live .nil 1 (s3.1.map (cL cI_i64)), .live .nil 1 (l18.map cI_i64)]⟩) (by kernel_rfl) ?_
                    refine Gh_trunc0 (by kernel_rfl) ?_
                    refine Gh_nil ?_
                    replace h := Option.some.inj h; subst h
                    show _ = _
                    kernel_rfl
                  · replace h := fork_f c17 h
                    refine W_skip ?_
                    refine Gh_one (s1 := ⟨⟨63, [(1, .ro (a1.map cI_i64)), (2, .pown 0 1 0 0), (7, .own 1 s3.1.length 0 s3.1.length), (8, .int .i64 s3.2), (9, .own 2 s10.1.length 0 s10.1.length), (10, .int .i64 s6.2), (11, .int .i64 s10.2)]⟩, [.live .norm 2 [[.int .i64 a0.Actuators, .ro (a0.Steps.map cSStep)]], .live .nil 1 (s3.1.map (cL cI_i64)), .live .nil 1 (s10.1.map cI_i64)]⟩) (by kernel_rfl) ?_
                    refine Gh_trunc0 (by kernel_rfl) ?_
                    refine Gh_nil ?_
                    replace h := Option.some.inj h; subst h
                    show _ = _
                    kernel_rfl
                · refine Gh_one (s1 := ⟨⟨63, [(1, .ro (a1.map cI_i64)), (2, .pown 0 1 0 0), (7, .own 1 s3.1.length 0 s3.1.length), (8, .int .i64 s3.2), (9, .own 2 w16.length 0 w16.length), (10, .int .i64 s6.2), (11, .int .i64 s10.2)]⟩, [.live .norm 2 [[.int .i64 a0.Actuators, .ro (a0.Steps.map cSStep)]], .live .nil 1 (s3.1.map (cL cI_i64)), .live .nil 1 (w16.map cI_i64)]⟩) (by kernel_rfl) ?_
                  refine Gh_trunc0 (by kernel_rfl) ?_
                  refine Gh_nil ?_
                  refine W_gh ?_
                  refine W_reg ?_
                  refine O_ps 3 (by kernel_rfl) ?_
                  refine O_nil ?_
                  refine Gh_end (s1 := ⟨⟨63, [(1, .ro (a1.map cI_i64)), (2, .pown 0 1 0 0), (7, .own 1 s3.1.length 0 s3.1.length), (8, .int .i64 s3.2), (9, .own 2 w16.length 0 w16.length), (10, .int .i64 s6.2), (11, .int .i64 (addI .i64 s10.2 1))]⟩, [.live .norm 2 [[.int .i64 a0.Actuators, .ro (a0.Steps.map cSStep)]], .live .nil 1 (s3.1.map (cL cI_i64)), .live .nil 1 (w16.map cI_i64)]⟩) _ (by kernel_rfl) ?_
                  refine Gh_one (s1 := ⟨⟨63, [(1, .ro (a1.map cI_i64)), (2, .pown 0 1 0 0), (7, .own 1 s3.1.length 0 s3.1.length), (8, .int .i64 s3.2), (9, .own 2 w16.length 0 w16.length), (10, .int .i64 s6.2), (11, .int .i64 (addI .i64 s10.2 1))]⟩, [.live .norm 2 [[.int .i64 a0.Actuators, .ro (a0.Steps.map cSStep)]], .live .nil 1 (s3.1.map (cL cI_i64)), .live .nil 1 (w16.map cI_i64)]⟩) (by kernel_rfl) ?_
                  refine Gh_trunc0 (by kernel_rfl) ?_
                  refine Gh_nil ?_
                  replace h := Option.some.inj h; subst h
                  exact ⟨_, rfl, by kernel_rfl⟩
              · replace h := fork_f c13 h
                refine W_exit ?_
                refine X_hit ?_
                refine Gh_one (s1 := ⟨⟨63, [(1, .ro (a1.map cI_i64)), (2, .pown 0 1 0 0), (7, .own 1 s3.1.length 0 s3.1.length), (8, .int .i64 s3.2), (9, .own 2 s10.1.length 0 s10.1.length), (10, .int .i64 s6.2)]⟩, [.live .norm 2 [[.int .i64 a0.Actuators, .ro (a0.Steps.map cSStep)]], .live .nil 1 (s3.1.map (cL cI_i64)), .live .nil 1 (s10.1.map cI_i64)]⟩) (by kernel_rfl) ?_
                refine Gh_trunc0 (by kernel_rfl) ?_
                refine Gh_nil ?_
                replace h := Option.some.inj h; subst h
                exact ⟨_, rfl, by kernel_rfl⟩
            · refine Gh_one (s1 := ⟨⟨63, [(1, .ro (a1.map cI_i64)), (2, .pown 0 1 0 0), (7, .own 1 s3.1.length 0 s3.1.length), (8, .int .i64 s3.2), (9, .own 2 w11.length 0 w11.length), (10, .int .i64 s6.2)]⟩, [.live .norm 2 [[.int .i64 a0.Actuators, .ro (a0.Steps.map cSStep)]], .live .nil 1 (s3.1.map (cL cI_i64)), .live .nil 1 (w11.map cI_i64)]⟩) (by kernel_rfl) ?_
              refine Gh_trunc0 (by kernel_rfl) ?_
              refine Gh_nil ?_
              refine W_gh ?_
              refine W_reg ?_
              refine O_ps 3 (by kernel_rfl) ?_
              refine O_nil ?_
              refine Gh_end (s1 := ⟨⟨63, [(1, .ro (a1.map cI_i64)), (2, .pown 0 1 0 0), (7, .own 1 s3.1.length 0 s3.1.length), (8, .int .i64 s3.2), (9, .own 2 w11.length 0 w11.length), (10, .int .i64 (addI .i64 s6.2 1))]⟩, [.live .norm 2 [[.int .i64 a0.Actuators, .ro (a0.Steps.map cSStep)]], .live .nil 1 (s3.1.map (cL cI_i64)), .live .nil 1 (w11.map cI_i64)]⟩) _ (by kernel_rfl) ?_
              refine Gh_one (s1 := ⟨⟨63, [(1, .ro (a1.map cI_i64)), (2, .pown 0 1 0 0), (7, .own 1 s3.1.length 0 s3.1.length), (8, .int .i64 s3.2), (9, .own 2 w11.length 0 w11.length), (10, .int .i64 (addI .i64 s6.2 1))]⟩, [.live .norm 2 [[.int .i64 a0.Actuators, .ro (a0.Steps.map cSStep)]], .live .nil 1 (s3.1.map (cL cI_i64)), .live .nil 1 (w11.map cI_i64)]⟩) (by kernel_rfl) ?_
              refine Gh_trunc0 (by kernel_rfl) ?_
              refine Gh_nil ?_
              replace h := Option.some.inj h; subst h
              exact ⟨_, rfl, by kernel_rfl⟩
          · replace h := fork_f c8 h
            refine W_exit ?_
            refine X_hit ?_
            refine Gh_one (s1 := ⟨⟨63, [(1, .ro (a1.map cI_i64)), (2, .pown 0 1 0 0), (7, .own 1 s3.1.length 0 s3.1.length), (8, .int .i64 s3.2), (9, .own 2 s6.1.length 0 s6.1.length)]⟩, [.live .norm 2 [[.int .i64 a0.Actuators, .ro (a0.Steps.map cSStep)]], .live .nil 1 (s3.1.map (cL cI_i64)), .live .nil 1 (s6.1.map cI_i64)]⟩) (by kernel_rfl) ?_
            refine Gh_trunc0 (by kernel_rfl) ?_
            refine Gh_nil ?_
            replace h := Option.some.inj h; subst h
            exact ⟨_, rfl, by kernel_rfl⟩
        · refine W_pre ?_
          refine Gh_one (frz_own (id := 2) (nl := .nil) (sz := 1) (l := w7) okI_i64.bel (by kernel_rfl) (by kernel_rfl) rfl rfl (s1 := ⟨⟨63, [(1, .ro (a1.map cI_i64)), (2, .pown 0 1 0 0), (7, .own 1 s3.1.length 0 s3.1.length), (8, .int .i64 s3.2), (9, .ro (w7.map cI_i64))]⟩, [.live .norm 2 [[.int .i64 a0.Actuators, .ro (a0.Steps.map cSStep)]], .live .nil 1 (s3.1.map (cL cI_i64)), .dead]⟩) (by kernel_rfl)) ?_
          refine Gh_nil ?_
          refine W_gh ?_
          refine W_reg ?_
          refine O_ps 3 (by kernel_rfl) ?_
          refine O_app (C := (cL cI_i64)) (id := 1) (nl := .nil) (okL okI_i64) h rfl (by kernel_rfl) (by kernel_rfl) (by kernel_rfl) (by kernel_rfl) rfl (fun l19 e_l19 h => ?_)
          refine O_ps 1 (by kernel_rfl) ?_
          refine O_nil ?_
          refine Gh_one (s1 := ⟨⟨63, [(1, .ro (a1.map cI_i64)), (2, .pown 0 1 0 0), (7, .own 1 l19.length 0 l19.length), (8, .int .i64 s3.2)]⟩, [.live .norm 2 [[.int .i64 a0.Actuators, .ro (a0.Steps.map cSStep)]], .live .nil 1 (l19.map (cL cI_i64)), .dead, .live .norm 1 (([w7] : List (List Int)).map (cL cI_i64))]⟩) (by kernel_rfl) ?_
          refine Gh_at (s1 := ⟨⟨63, [(1, .ro (a1.map cI_i64)), (2, .pown 0 1 0 0), (7, .own 1 l19.length 0 l19.length), (8, .int .i64 s3.2)]⟩, [.live .norm 2 [[.int .i64 a0.Actuators, .ro (a0.Steps.map cSStep)]], .live .nil 1 (l19.map (cL cI_i64)), .dead, .live .norm 1 (([w7] : List (List Int)).map (cL cI_i64))]⟩) (by kernel_rfl) ?_
          refine Gh_trunc (s1 := ⟨⟨63, [(1, .ro (a1.map cI_i64)), (2, .pown 0 1 0 0), (7, .own 1 l19.length 0 l19.length), (8, .int .i64 s3.2)]⟩, [.live .norm 2 [[.int .i64 a0.Actuators, .ro (a0.Steps.map cSStep)]], .live .nil 1 (l19.map (cL cI_i64)), .dead]⟩) (by kernel_rfl) (tb_free (ro_bel okI_i64.bel _) (tb_ref rfl (tb_ref rfl (tb_free rfl rfl)))) (H1 := [.live .norm 2 [[.int .i64 a0.Actuators, .ro (a0.Steps.map cSStep)]], .live .nil 1 (l19.map (cL cI_i64)), .dead]) (by kernel_rfl) (ob_boxn (bn_free rfl (bn_free (ro_bel okSStep.bel _) rfl)) (ob_list (okL okI_i64).bel (ob_dead rfl))) (by kernel_rfl) ?_
          refine Gh_nil ?_
          refine Gh_one (s1 := ⟨⟨63, [(1, .ro (a1.map cI_i64)), (2, .pown 0 1 0 0), (7, .own 1 l19.length 0 l19.length), (8, .int .i64 s3.2)]⟩, [.live .norm 2 [[.int .i64 a0.Actuators, .ro (a0.Steps.map cSStep)]], .live .nil 1 (l19.map (cL cI_i64)), .dead]⟩) (by kernel_rfl) ?_
          refine Gh_at (s1 := ⟨⟨63, [(1, .ro (a1.map cI_i64)), (2, .pown 0 1 0 0), (7, .own 1 l19.length 0 l19.length), (8, .int .i64 s3.2)]⟩, [.live .norm 2 [[.int .i64 a0.Actuators, .ro (a0.Steps.map cSStep)]], .live .nil 1 (l19.map (cL cI_i64)), .dead]⟩) (by kernel_rfl) ?_
          refine Gh_trunc (s1 := ⟨⟨63, [(1, .ro (a1.map cI_i64)), (2, .pown 0 1 0 0), (7, .own 1 l19.length 0 l19.length), (8, .int .i64 s3.2)]⟩, [.live .norm 2 [[.int .i64 a0.Actuators, .ro (a0.Steps.map cSStep)]], .live .nil 1 (l19.map (cL cI_i64))]⟩) (by kernel_rfl) (tb_free (ro_bel okI_i64.bel _) (tb_ref rfl (tb_ref rfl (tb_free rfl rfl)))) (H1 := [.live .norm 2 [[.int .i64 a0.Actuators, .ro (a0.Steps.map cSStep)]], .live .nil 1 (l19.map (cL cI_i64))]) (by kernel_rfl) (ob_boxn (bn_free rfl (bn_free (ro_bel okSStep.bel _) rfl)) (ob_list (okL okI_i64).bel rfl)) (by kernel_rfl) ?_
          refine Gh_nil ?_
          refine W_gh ?_
          refine W_reg ?_
          refine O_ps 3 (by kernel_rfl) ?_
          refine O_nil ?_
          refine Gh_end (s1 := ⟨⟨63, [(1, .ro (a1.map cI_i64)), (2, .pown 0 1 0 0), (7, .own 1 l19.length 0 l19.length), (8, .int .i64 (addI .i64 s3.2 1))]⟩, [.live .norm 2 [[.int .i64 a0.Actuators, .ro (a0.Steps.map cSStep)]], .live .nil 1 (l19.map (cL cI_i64))]⟩) _ (by kernel_rfl) ?_
          refine Gh_one (s1 := ⟨⟨63, [(1, .ro (a1.map cI_i64)), (2, .pown 0 1 0 0), (7, .own 1 l19.length 0 l19.length), (8, .int .i64 (addI .i64 s3.2 1))]⟩, [.live .norm 2 [[.int .i64 a0.Actuators, .ro (a0.Steps.map cSStep)]], .live .nil 1 (l19.map (cL cI_i64))]⟩) (by kernel_rfl) ?_
          refine Gh_trunc0 (by kernel_rfl) ?_
          refine Gh_nil ?_
          replace h := Option.some.inj h; subst h
          exact ⟨_, rfl, by kernel_rfl⟩
      · replace h := fork_f c5 h
        refine W_exit ?_
        refine X_hit ?_
        refine Gh_one (s1 := ⟨⟨63, [(1, .ro (a1.map cI_i64)), (7, .own 1 s3.1.length 0 s3.1.length)]⟩, [.live .norm 2 [[.int .i64 a0.Actuators, .ro (a0.Steps.map cSStep)]], .live .nil 1 (s3.1.map (cL cI_i64))]⟩) (by kernel_rfl) ?_
        refine Gh_trunc0 (by kernel_rfl) ?_
        refine Gh_nil ?_
        replace h := Option.some.inj h; subst h
        exact ⟨_, rfl, by kernel_rfl⟩
    · refine W_seq ?_
      refine W_gh ?_
      refine W_reg ?_
      refine O_ps 3 (by kernel_rfl) ?_
      refine O_nil ?_
      refine Gh_end (s1 := ⟨⟨63, [(1, .ro (a1.map cI_i64)), (4, .own 1 w4.length 0 w4.length), (5, .int .i64 0)]⟩, [.live .norm 2 [[.int .i64 a0.Actuators, .ro (a0.Steps.map cSStep)]], .live .nil 1 (w4.map (cL cI_i64))]⟩) _ (by kernel_rfl) ?_
      refine W_ret ?_
      replace h := Option.some.inj h; subst h
      exact Fin_pk (l := [.own 1 w4.length 0 w4.length, .int .i64 0]) (by kernel_rfl) (pk_tup (d := 5) (mapO_cons (pk_own (d := 4) (id := 1) (nl := .nil) (sz := 1) (l := w4) (okL okI_i64).bel (by kernel_rfl) rfl) (mapO_cons (pk_free rfl) rfl)))

theorem p70 (a0 : Int) (r : Bool) (h : m70 a0 = some r) : Pt E0 hp 70 [.int .i64 a0] (.bool r) := by
  unfold m70 at h
  refine Pt_W (fn70) rfl (by decide) ?_
  refine W_seq ?_
  refine W_gh ?_
  refine W_reg ?_
  refine O_ps 1 (by kernel_rfl) ?_
  refine O_nil ?_
  refine Gh_end (s1 := ⟨⟨6, [(0, .int .i64 a0)]⟩, []⟩) _ (by kernel_rfl) ?_
  refine W_seq ?_
  refine W_gh ?_
  refine W_reg ?_
  refine O_ps 4 (by kernel_rfl) ?_
  refine O_nil ?_
  refine Gh_end (s1 := ⟨⟨6, [(2, .bool (a0 != a0))]⟩, []⟩) _ (by kernel_rfl) ?_
  refine W_ret ?_
  replace h := Option.some.inj h; subst h
  exact Fin_free (l := [.bool (a0 != a0)]) (by kernel_rfl) (by kernel_rfl) rfl

theorem p57 (a0 : Int) (a1 : Int) (r : Bool) (h : m57 a0 a1 = some r) : Pt E0 hp 57 [.int .i64 a0, .int .i64 a1] (.bool r) := by
  unfold m57 at h
  refine Pt_W (fn57) rfl (by decide) ?_
  refine W_seq ?_
  refine W_gh ?_
  refine W_reg ?_
  refine O_ps 1 (by kernel_rfl) ?_
  refine O_nil ?_
  refine Gh_end (s1 := ⟨⟨17, [(0, .int .i64 a0), (1, .int .i64 a1)]⟩, []⟩) _ (by kernel_rfl) ?_
  refine W_seq ?_
  refine W_joinS (fun v : Bool => ⟨⟨17, [(4, .bool v)]⟩, []⟩) h (fun w h => ?_) (fun w1 e_w1 h => ?_)
  · refine W_gh ?_
    refine W_reg ?_
    refine O_ps 1 (by kernel_rfl) ?_
    refine O_call (fun v => .bool v) h (.inr rfl) (ys := [.int .i64 a0]) (fun _ e => p70 _ _ e) (by kernel_rfl) (by kernel_rfl) (bels_cons rfl rfl) (fun v2 e_v2 h => ?_)
    refine O_ps 1 (by kernel_rfl) ?_
    refine O_fork (n := 7) v2 (by kernel_rfl) (fun c3 => ?_) (fun c3 => ?_)
    · replace h := fork_t c3 h
      refine O_ps 1 (by kernel_rfl) ?_
      refine O_call (fun v => .bool v) h (.inr rfl) (ys := [.int .i64 a1]) (fun _ e => p70 _ _ e) (by kernel_rfl) (by kernel_rfl) (bels_cons rfl rfl) (fun v4 e_v4 h => ?_)
      refine O_ps 3 (by kernel_rfl) ?_
      refine O_fork (n := 12) (!v4) (by kernel_rfl) (fun c5 => ?_) (fun c5 => ?_)
      · replace h := fork_t c5 h
        refine O_ps 5 (by kernel_rfl) ?_
        refine O_nil ?_
        refine Gh_end (s1 := ⟨⟨17, [(4, .bool true)]⟩, []⟩) _ (by kernel_rfl) ?_
        replace h := Option.some.inj h; subst h
        show _ = _
        kernel_rfl
      · replace h := fork_f c5 h
        refine O_ps 5 (by kernel_rfl) ?_
        refine O_nil ?_
        refine Gh_end (s1 := ⟨⟨17, [(4, .bool (decide (a0 < a1)))]⟩, []⟩) _ (by kernel_rfl) ?_
        replace h := Option.some.inj h; subst h
        show _ = _
        kernel_rfl
    · replace h := fork_f c3 h
      refine O_ps 10 (by kernel_rfl) ?_
      refine O_nil ?_
      refine Gh_end (s1 := ⟨⟨17, [(4, .bool (decide (a0 < a1)))]⟩, []⟩) _ (by kernel_rfl) ?_
      replace h := Option.some.inj h; subst h
      show _ = _
      kernel_rfl
  · refine W_ret ?_
    replace h := Option.some.inj h; subst h
    exact Fin_free (l := [.bool w1]) (by kernel_rfl) (by kernel_rfl) rfl

theorem p69 (a0 : Int) (r : Bool) (h : m69 a0 = some r) : Pt E0 hp 69 [.int .i64 a0] (.bool r) := by
  unfold m69 at h
  refine Pt_W (fn69) rfl (by decide) ?_
  refine W_seq ?_
  refine W_gh ?_
  refine W_reg ?_
  refine O_ps 1 (by kernel_rfl) ?_
  refine O_nil ?_
  refine Gh_end (s1 := ⟨⟨6, [(0, .int .i64 a0)]⟩, []⟩) _ (by kernel_rfl) ?_
  refine W_seq ?_
  refine W_gh ?_
  refine W_reg ?_
  refine O_ps 4 (by kernel_rfl) ?_
  refine O_nil ?_
  refine Gh_end (s1 := ⟨⟨6, [(2, .bool (a0 != a0))]⟩, []⟩) _ (by kernel_rfl) ?_
  refine W_ret ?_
  replace h := Option.some.inj h; subst h
  exact Fin_free (l := [.bool (a0 != a0)]) (by kernel_rfl) (by kernel_rfl) rfl

theorem p54 (a0 : (List Int)) (a1 : Int) (r : (Int × Bool)) (h : m54 a0 a1 = some r) : Pt E0 hp 54 [.ro (a0.map cI_i64), .int .i64 a1] (.tup [.int .i64 r.1, .bool r.2]) := by
  unfold m54 at h
  refine Pt_W (fn54) rfl (by decide) ?_
  refine W_seq ?_
  refine W_gh ?_
  refine W_reg ?_
  refine O_ps 2 (by kernel_rfl) ?_
  refine O_nil ?_
  refine Gh_end (s1 := ⟨⟨54, [(0, .ro (a0.map cI_i64)), (1, .int .i64 a1)]⟩, []⟩) _ (by kernel_rfl) ?_
  refine W_seq ?_
  refine W_gh ?_
  refine W_reg ?_
  refine O_ps 1 (by kernel_rfl) ?_
  refine O_len (l := a0) cI_i64 (by kernel_rfl) (by kernel_rfl) ?_
  refine O_ps 1 (by kernel_rfl) ?_
  refine O_nil ?_
  refine Gh_end (s1 := ⟨⟨54, [(0, .ro (a0.map cI_i64)), (1, .int .i64 a1), (6, .int .i64 (a0.length : Int))]⟩, []⟩) _ (by kernel_rfl) ?_
  refine W_seq ?_
  refine W_gh ?_
  refine W_reg ?_
  refine O_ps 3 (by kernel_rfl) ?_
  refine O_nil ?_
  refine Gh_end (s1 := ⟨⟨54, [(0, .ro (a0.map cI_i64)), (1, .int .i64 a1), (6, .int .i64 (a0.length : Int)), (7, .int .i64 0), (8, .int .i64 (a0.length : Int))]⟩, []⟩) _ (by kernel_rfl) ?_
  refine W_seq ?_
  refine W_loopS (fun s1 : Int × Int => ⟨⟨54, [(0, .ro (a0.map cI_i64)), (1, .int .i64 a1), (6, .int .i64 (a0.length : Int)), (7, .int .i64 s1.1), (8, .int .i64 s1.2)]⟩, []⟩) (fun w2 : Int => ⟨⟨54, [(0, .ro (a0.map cI_i64)), (1, .int .i64 a1), (6, .int .i64 (a0.length : Int)), (7, .int .i64 w2)]⟩, []⟩) h (by kernel_rfl) (fun s1 c h => ?_) (fun w2 e_w2 h => ?_)
  · refine W_gh ?_
    refine W_seq ?_
    refine W_seq ?_
    refine W_gh ?_
    refine W_reg ?_
    refine O_ps 3 (by kernel_rfl) ?_
    refine O_nil ?_
    refine Gh_end (s1 := ⟨⟨54, [(0, .ro (a0.map cI_i64)), (1, .int .i64 a1), (6, .int .i64 (a0.length : Int)), (7, .int .i64 s1.1), (8, .int .i64 s1.2), (15, .bool (decide (s1.1 < s1.2)))]⟩, []⟩) _ (by kernel_rfl) ?_
    refine W_gh ?_
    refine W_cond (c := (decide (s1.1 < s1.2))) (by kernel_rfl) (fun c3 => ?_) (fun c3 => ?_)
    · replace h := fork_t c3 h
      refine W_skip ?_
      refine Gh_end (s1 := ⟨⟨54, [(0, .ro (a0.map cI_i64)), (1, .int .i64 a1), (6, .int .i64 (a0.length : Int)), (7, .int .i64 s1.1), (8, .int .i64 s1.2)]⟩, []⟩) _ (by kernel_rfl) ?_
      refine W_gh ?_
      refine W_block ?_
      refine W_seq ?_
      refine W_gh ?_
      refine W_reg ?_
      refine O_ps 7 (by kernel_rfl) ?_
      refine O_nil ?_
      refine Gh_end (s1 := ⟨⟨54, [(0, .ro (a0.map cI_i64)), (1, .int .i64 a1), (6, .int .i64 (a0.length : Int)), (7, .int .i64 s1.1), (8, .int .i64 s1.2), (9, .int .i64 (IntKind.wrap .i64 (shrI .u64 (IntKind.wrap .u64 (addI .i64 s1.1 s1.2)) 1)))]⟩, []⟩) _ (by kernel_rfl) ?_
      refine W_seq ?_
      refine W_gh ?_
      refine W_reg ?_
      refine O_ps 2 (by kernel_rfl) ?_
      refine O_idx (kd := .i64) cI_i64 h (fun _ => rfl) (by kernel_rfl) (by kernel_rfl) (by kernel_rfl) (fun v4 e_v4 h => ?_)
      refine O_ps 2 (by kernel_rfl) ?_
      refine O_call (fun v => .bool v) h (.inr rfl) (ys := [.int .i64 v4, .int .i64 a1]) (fun _ e => p57 _ _ _ e) (by kernel_rfl) (by kernel_rfl) (bels_cons rfl (bels_cons rfl rfl)) (fun v5 e_v5 h => ?_)
      refine O_nil ?_
      refine Gh_end (s1 := ⟨⟨54, [(0, .ro (a0.map cI_i64)), (1, .int .i64 a1), (6, .int .i64 (a0.length : Int)), (7, .int .i64 s1.1), (8, .int .i64 s1.2), (9, .int .i64 (IntKind.wrap .i64 (shrI .u64 (IntKind.wrap .u64 (addI .i64 s1.1 s1.2)) 1))), (27, .bool v5)]⟩, []⟩) _ (by kernel_rfl) ?_
      refine W_cut ⟨⟨54, [(0, .ro (a0.map cI_i64)), (1, .int .i64 a1), (6, .int .i64 (a0.length : Int)), (7, .int .i64 (bif v5 then (addI .i64 (IntKind.wrap .i64 (shrI .u64 (IntKind.wrap .u64 (addI .i64 s1.1 s1.2)) 1)) 1) else s1.1)), (8, .int .i64 (bif v5 then s1.2 else (IntKind.wrap .i64 (shrI .u64 (IntKind.wrap .u64 (addI .i64 s1.1 s1.2)) 1))))]⟩, []⟩ ?_ ?_
      · generalize e_g6 : (bif v5 then (addI .i64 (IntKind.wrap .i64 (shrI .u64 (IntKind.wrap .u64 (addI .i64 s1.1 s1.2)) 1)) 1) else s1.1) = g6
        generalize e_g7 : (bif v5 then s1.2 else (IntKind.wrap .i64 (shrI .u64 (IntKind.wrap .u64 (addI .i64 s1.1 s1.2)) 1))) = g7
        refine W_gh ?_
        refine W_cond (c := v5) (by kernel_rfl) (fun c8 => ?_) (fun c8 => ?_)
        · skip
          refine W_gh ?_
          refine W_reg ?_
          refine O_ps 3 (by kernel_rfl) ?_
          refine O_nil ?_
          refine Gh_end (s1 := ⟨⟨54, [(0, .ro (a0.map cI_i64)), (1, .int .i64 a1), (6, .int .i64 (a0.length : Int)), (7, .int .i64 (addI .i64 (IntKind.wrap .i64 (shrI .u64 (IntKind.wrap .u64 (addI .i64 s1.1 s1.2)) 1)) 1)), (8, .int .i64 s1.2), (27, .bool v5)]⟩, []⟩) _ (by kernel_rfl) ?_
          refine Gh_end (s1 := ⟨⟨54, [(0, .ro (a0.map cI_i64)), (1, .int .i64 a1), (6, .int .i64 (a0.length : Int)), (7, .int .i64 (addI .i64 (IntKind.wrap .i64 (shrI .u64 (IntKind.wrap .u64 (addI .i64 s1.1 s1.2)) 1)) 1)), (8, .int .i64 s1.2)]⟩, []⟩) _ (by kernel_rfl) ?_
          have q := e_g6; simp only [c3, c8, cond_true, cond_false, Bool.true_and, Bool.false_and, Bool.true_or, Bool.false_or] at q; subst q
          have q := e_g7; simp only [c3, c8, cond_true, cond_false, Bool.true_and, Bool.false_and, Bool.true_or, Bool.false_or] at q; subst q
          show _ = _
          kernel_rfl
        · skip
          refine W_gh ?_
          refine W_reg ?_
          refine O_ps 2 (by kernel_rfl) ?_
          refine O_nil ?_
          refine Gh_end (s1 := ⟨⟨54, [(0, .ro (a0.map cI_i64)), (1, .int .i64 a1), (6, .int .i64 (a0.length : Int)), (7, .int .i64 s1.1), (8, .int .i64 (IntKind.wrap .i64 (shrI .u64 (IntKind.wrap .u64 (addI .i64 s1.1 s1.2)) 1))), (27, .bool v5)]⟩, []⟩) _ (by kernel_rfl) ?_
          refine Gh_end (s1 := ⟨⟨54, [(0, .ro (a0.map cI_i64)), (1, .int .i64 a1), (6, .int .i64 (a0.length : Int)), (7, .int .i64 s1.1), (8, .int .i64 (IntKind.wrap .i64 (shrI .u64 (IntKind.wrap .u64 (addI .i64 s1.1 s1.2)) 1)))]⟩, []⟩) _ (by kernel_rfl) ?_
          have q := e_g6; simp only [c3, c8, cond_true, cond_false, Bool.true_and, Bool.false_and, Bool.true_or, Bool.false_or] at q; subst q
          have q := e_g7; simp only [c3, c8, cond_true, cond_false, Bool.true_and, Bool.false_and, Bool.true_or, Bool.false_or] at q; subst q
          show _ = _
          kernel_rfl
      · refine Gh_end (s1 := ⟨⟨54, [(0, .ro (a0.map cI_i64)), (1, .int .i64 a1), (6, .int .i64 (a0.length : Int)), (7, .int .i64 (bif v5 then (addI .i64 (IntKind.wrap .i64 (shrI .u64 (IntKind.wrap .u64 (addI .i64 s1.1 s1.2)) 1)) 1) else s1.1)), (8, .int .i64 (bif v5 then s1.2 else (IntKind.wrap .i64 (shrI .u64 (IntKind.wrap .u64 (addI .i64 s1.1 s1.2)) 1))))]⟩, []⟩) _ (by kernel_rfl) ?_
        refine Gh_end (s1 := ⟨⟨54, [(0, .ro (a0.map cI_i64)), (1, .int .i64 a1), (6, .int .i64 (a0.length : Int)), (7, .int .i64 (bif v5 then (addI .i64 (IntKind.wrap .i64 (shrI .u64 (IntKind.wrap .u64 (addI .i64 s1.1 s1.2)) 1)) 1) else s1.1)), (8, .int .i64 (bif v5 then s1.2 else (IntKind.wrap .i64 (shrI .u64 (IntKind.wrap .u64 (addI .i64 s1.1 s1.2)) 1))))]⟩, []⟩) _ (by kernel_rfl) ?_
        replace h := Option.some.inj h; subst h
        exact ⟨_, rfl, by kernel_rfl⟩
    · replace h := fork_f c3 h
      refine W_exit ?_
      refine X_hit ?_
      refine Gh_end (s1 := ⟨⟨54, [(0, .ro (a0.map cI_i64)), (1, .int .i64 a1), (6, .int .i64 (a0.length : Int)), (7, .int .i64 s1.1)]⟩, []⟩) _ (by kernel_rfl) ?_
      replace h := Option.some.inj h; subst h
      exact ⟨_, rfl, by kernel_rfl⟩
  · refine W_seq ?_
    refine W_joinS (fun v : Bool => ⟨⟨54, [(4, .int .i64 w2), (5, .bool v)]⟩, []⟩) h (fun w h => ?_) (fun w9 e_w9 h => ?_)
    · refine W_gh ?_
      refine W_reg ?_
      refine O_ps 5 (by kernel_rfl) ?_
      refine O_fork (n := 35) (decide (w2 < (a0.length : Int))) (by kernel_rfl) (fun c10 => ?_) (fun c10 => ?_)
      · replace h := fork_t c10 h
        refine O_ps 2 (by kernel_rfl) ?_
        refine O_idx (kd := .i64) cI_i64 h (fun _ => rfl) (by kernel_rfl) (by kernel_rfl) (by kernel_rfl) (fun v11 e_v11 h => ?_)
        refine O_ps 4 (by kernel_rfl) ?_
        refine O_fork (n := 42) (v11 == a1) (by kernel_rfl) (fun c12 => ?_) (fun c12 => ?_)
        · replace h := fork_t c12 h
          refine O_ps 13 (by kernel_rfl) ?_
          refine O_nil ?_
          refine Gh_end (s1 := ⟨⟨54, [(4, .int .i64 w2), (5, .bool true)]⟩, []⟩) _ (by kernel_rfl) ?_
          replace h := Option.some.inj h; subst h
          show _ = _
          kernel_rfl
        · replace h := fork_f c12 h
          refine O_ps 2 (by kernel_rfl) ?_
          refine O_idx (kd := .i64) cI_i64 h (fun _ => rfl) (by kernel_rfl) (by kernel_rfl) (by kernel_rfl) (fun v13 e_v13 h => ?_)
          refine O_ps 1 (by kernel_rfl) ?_
          refine O_call (fun v => .bool v) h (.inr rfl) (ys := [.int .i64 v13]) (fun _ e => p69 _ _ e) (by kernel_rfl) (by kernel_rfl) (bels_cons rfl rfl) (fun v14 e_v14 h => ?_)
          refine O_ps 1 (by kernel_rfl) ?_
          refine O_fork (n := 48) v14 (by kernel_rfl) (fun c15 => ?_) (fun c15 => ?_)
          · replace h := fork_t c15 h
            refine O_ps 1 (by kernel_rfl) ?_
            refine O_call (fun v => .bool v) h (.inr rfl) (ys := [.int .i64 a1]) (fun _ e => p69 _ _ e) (by kernel_rfl) (by kernel_rfl) (bels_cons rfl rfl) (fun v16 e_v16 h => ?_)
            refine O_ps 5 (by kernel_rfl) ?_
            refine O_nil ?_
            refine Gh_end (s1 := ⟨⟨54, [(4, .int .i64 w2), (5, .bool v16)]⟩, []⟩) _ (by kernel_rfl) ?_
            replace h := Option.some.inj h; subst h
            show _ = _
            kernel_rfl
          · replace h := fork_f c15 h
            refine O_ps 7 (by kernel_rfl) ?_
            refine O_nil ?_
            refine Gh_end (s1 := ⟨⟨54, [(4, .int .i64 w2), (5, .bool false)]⟩, []⟩) _ (by kernel_rfl) ?_
            replace h := Option.some.inj h; subst h
            show _ = _
            kernel_rfl
      · replace h := fork_f c10 h
        refine O_ps 20 (by kernel_rfl) ?_
        refine O_nil ?_
        refine Gh_end (s1 := ⟨⟨54, [(4, .int .i64 w2), (5, .bool false)]⟩, []⟩) _ (by kernel_rfl) ?_
        replace h := Option.some.inj h; subst h
        show _ = _
        kernel_rfl
    · refine W_ret ?_
      replace h := Option.some.inj h; subst h
      exact Fin_free (l := [.int .i64 w2, .bool w9]) (by kernel_rfl) (by kernel_rfl) rfl

theorem p30 (a0 : SSequence) (a1 : (List Int)) (a2 : Int) (r : (Int × Int)) (h : m30 a0 a1 a2 = some r) : Pt E0 hp 30 [.agg (cSSequence a0), .ro (a1.map cI_i64), .int .i64 a2] (.tup [.int .i64 r.1, .int .i64 r.2]) := by
  unfold m30 at h
  refine Pt_W (fn30) rfl (by decide) ?_
  refine W_seq ?_
  refine W_gh ?_
  refine W_reg ?_
  refine O_ps 3 (by kernel_rfl) ?_
  refine O_nil ?_
  refine Gh_end (s1 := ⟨⟨37, [(1, .ro (a1.map cI_i64)), (2, .int .i64 a2), (3, .pown 0 1 0 0)]⟩, [.live .norm 2 [[.int .i64 a0.Actuators, .ro (a0.Steps.map cSStep)]]]⟩) _ (by kernel_rfl) ?_
  refine W_seq ?_
  refine W_seq ?_
  refine W_gh ?_
  refine W_reg ?_
  refine O_ps 2 (by kernel_rfl) ?_
  refine O_call (fun v => .int .i64 v) h (.inr rfl) (ys := [.agg (cSSequence a0), .ro (a1.map cI_i64)]) (fun _ e => p28 _ _ _ e) (by kernel_rfl) (by kernel_rfl) (bels_cons (okSSequence.bel _) (bels_cons (ro_bel okI_i64.bel _) rfl)) (fun v1 e_v1 h => ?_)
  refine O_ps 1 (by kernel_rfl) ?_
  refine O_nil ?_
  refine Gh_end (s1 := ⟨⟨37, [(1, .ro (a1.map cI_i64)), (2, .int .i64 a2), (3, .pown 0 1 0 0), (8, .int .i64 v1)]⟩, [.live .norm 2 [[.int .i64 a0.Actuators, .ro (a0.Steps.map cSStep)]]]⟩) _ (by kernel_rfl) ?_
  refine W_seq ?_
  refine W_gh ?_
  refine W_reg ?_
  refine O_ps 2 (by kernel_rfl) ?_
  refine O_nil ?_
  refine Gh_end (s1 := ⟨⟨37, [(1, .ro (a1.map cI_i64)), (2, .int .i64 a2), (3, .pown 0 1 0 0), (8, .int .i64 v1), (15, .bool (v1 != 0))]⟩, [.live .norm 2 [[.int .i64 a0.Actuators, .ro (a0.Steps.map cSStep)]]]⟩) _ (by kernel_rfl) ?_
  refine W_gh ?_
  refine W_cond (c := (v1 != 0)) (by kernel_rfl) (fun c2 => ?_) (fun c2 => ?_)
  · replace h := fork_t c2 h
    refine W_seq ?_
    refine W_gh ?_
    refine W_reg ?_
    refine O_ps 3 (by kernel_rfl) ?_
    refine O_nil ?_
    refine Gh_end (s1 := ⟨⟨37, [(1, .ro (a1.map cI_i64)), (2, .int .i64 a2), (3, .pown 0 1 0 0), (6, .int .i64 0), (7, .int .i64 v1), (15, .bool (v1 != 0))]⟩, [.live .norm 2 [[.int .i64 a0.Actuators, .ro (a0.Steps.map cSStep)]]]⟩) _ (by kernel_rfl) ?_
    refine W_ret ?_
    replace h := Option.some.inj h; subst h
    exact Fin_free (l := [.int .i64 0, .int .i64 v1]) (by kernel_rfl) (by kernel_rfl) rfl
  · replace h := fork_f c2 h
    refine W_skip ?_
    refine Gh_end (s1 := ⟨⟨37, [(1, .ro (a1.map cI_i64)), (2, .int .i64 a2), (3, .pown 0 1 0 0)]⟩, [.live .norm 2 [[.int .i64 a0.Actuators, .ro (a0.Steps.map cSStep)]]]⟩) _ (by kernel_rfl) ?_
    refine W_seq ?_
    refine W_seq ?_
    refine W_cut ⟨⟨37, [(1, .ro (a1.map cI_i64)), (2, .int .i64 a2), (25, .bool ((decide (a2 < 0)) || (decide (a2 ≥ (a0.Steps.length : Int)))))]⟩, [.live .norm 2 [[.int .i64 a0.Actuators, .ro (a0.Steps.map cSStep)]]]⟩ ?_ ?_
    · generalize e_g3 : ((decide (a2 < 0)) || (decide (a2 ≥ (a0.Steps.length : Int)))) = g3
      refine W_gh ?_
      refine W_reg ?_
      refine O_ps 3 (by kernel_rfl) ?_
      refine O_fork (n := 19) (decide (a2 < 0)) (by kernel_rfl) (fun c4 => ?_) (fun c4 => ?_)
      · skip
        refine O_ps 6 (by kernel_rfl) ?_
        refine O_nil ?_
        refine Gh_end (s1 := ⟨⟨37, [(1, .ro (a1.map cI_i64)), (2, .int .i64 a2), (25, .bool true)]⟩, [.live .norm 2 [[.int .i64 a0.Actuators, .ro (a0.Steps.map cSStep)]]]⟩) _ (by kernel_rfl) ?_
        have q := e_g3; simp only [c2, c4, cond_true, cond_false, Bool.true_and, Bool.false_and, Bool.true_or, Bool.false_or] at q; subst q
        show _ = _
        kernel_rfl
      · skip
        refine O_ps 3 (by kernel_rfl) ?_
        refine O_len (l := a0.Steps) cSStep (by kernel_rfl) (by kernel_rfl) ?_
        refine O_ps 2 (by kernel_rfl) ?_
        refine O_nil ?_
        refine Gh_end (s1 := ⟨⟨37, [(1, .ro (a1.map cI_i64)), (2, .int .i64 a2), (25, .bool (decide (a2 ≥ (a0.Steps.length : Int))))]⟩, [.live .norm 2 [[.int .i64 a0.Actuators, .ro (a0.Steps.map cSStep)]]]⟩) _ (by kernel_rfl) ?_
        have q := e_g3; simp only [c2, c4, cond_true, cond_false, Bool.true_and, Bool.false_and, Bool.true_or, Bool.false_or] at q; subst q
        show _ = _
        kernel_rfl
    · refine W_gh ?_
      refine W_cond (c := ((decide (a2 < 0)) || (decide (a2 ≥ (a0.Steps.length : Int))))) (by kernel_rfl) (fun c5 => ?_) (fun c5 => ?_)
      · replace h := fork_t c5 h
        refine W_seq ?_
        refine W_reg ?_
        refine O_ps 2 (by kernel_rfl) ?_
        refine O_nil ?_
        refine W_ret ?_
        replace h := Option.some.inj h; subst h
        exact Fin_free (l := [.int .i64 0, .int .i64 2]) (by kernel_rfl) (by kernel_rfl) rfl
      · replace h := fork_f c5 h
        refine W_skip ?_
        refine Gh_end (s1 := ⟨⟨37, [(1, .ro (a1.map cI_i64)), (2, .int .i64 a2)]⟩, [.live .norm 2 [[.int .i64 a0.Actuators, .ro (a0.Steps.map cSStep)]]]⟩) _ (by kernel_rfl) ?_
        refine W_seq ?_
        refine W_gh ?_
        refine W_reg ?_
        refine O_ps 2 (by kernel_rfl) ?_
        refine O_call (fun v => .tup [.int .i64 v.1, .bool v.2]) h (.inr rfl) (ys := [.ro (a1.map cI_i64), .int .i64 a2]) (fun _ e => p54 _ _ _ e) (by kernel_rfl) (by kernel_rfl) (bels_cons (ro_bel okI_i64.bel _) (bels_cons rfl rfl)) (fun v6 e_v6 h => ?_)
        refine O_ps 5 (by kernel_rfl) ?_
        refine O_nil ?_
        refine Gh_end (s1 := ⟨⟨37, [(9, .int .i64 v6.1), (10, .bool v6.2)]⟩, [.live .norm 2 [[.int .i64 a0.Actuators, .ro (a0.Steps.map cSStep)]]]⟩) _ (by kernel_rfl) ?_
        refine W_seq ?_
        refine W_seq ?_
        refine W_gh ?_
        refine W_reg ?_
        refine O_ps 2 (by kernel_rfl) ?_
        refine O_nil ?_
        refine Gh_end (s1 := ⟨⟨37, [(9, .int .i64 v6.1), (33, .bool (!v6.2))]⟩, [.live .norm 2 [[.int .i64 a0.Actuators, .ro (a0.Steps.map cSStep)]]]⟩) _ (by kernel_rfl) ?_
        refine W_cut ⟨⟨37, [(9, .int .i64 (bif (!v6.2) then (subI .i64 v6.1 1) else v6.1))]⟩, [.live .norm 2 [[.int .i64 a0.Actuators, .ro (a0.Steps.map cSStep)]]]⟩ ?_ ?_
        · generalize e_g7 : (bif (!v6.2) then (subI .i64 v6.1 1) else v6.1) = g7
          refine W_gh ?_
          refine W_cond (c := (!v6.2)) (by kernel_rfl) (fun c8 => ?_) (fun c8 => ?_)
          · skip
            refine W_gh ?_
            refine W_reg ?_
            refine O_ps 3 (by kernel_rfl) ?_
            refine O_nil ?_
            refine Gh_end (s1 := ⟨⟨37, [(9, .int .i64 (subI .i64 v6.1 1)), (33, .bool (!v6.2))]⟩, [.live .norm 2 [[.int .i64 a0.Actuators, .ro (a0.Steps.map cSStep)]]]⟩) _ (by kernel_rfl) ?_
            refine Gh_end (s1 := ⟨⟨37, [(9, .int .i64 (subI .i64 v6.1 1))]⟩, [.live .norm 2 [[.int .i64 a0.Actuators, .ro (a0.Steps.map cSStep)]]]⟩) _ (by kernel_rfl) ?_
            have q := e_g7; simp only [c2, c5, c8, cond_true, cond_false, Bool.true_and, Bool.false_and, Bool.true_or, Bool.false_or] at q; subst q
            show _ = _
            kernel_rfl
          · skip
            refine W_skip ?_
            refine Gh_end (s1 := ⟨⟨37, [(9, .int .i64 v6.1)]⟩, [.live .norm 2 [[.int .i64 a0.Actuators, .ro (a0.Steps.map cSStep)]]]⟩) _ (by kernel_rfl) ?_
            have q := e_g7; simp only [c2, c5, c8, cond_true, cond_false, Bool.true_and, Bool.false_and, Bool.true_or, Bool.false_or] at q; subst q
            show _ = _
            kernel_rfl
        · refine W_seq ?_
          refine W_gh ?_
          refine W_reg ?_
          refine O_ps 3 (by kernel_rfl) ?_
          refine O_nil ?_
          refine Gh_end (s1 := ⟨⟨37, [(6, .int .i64 (bif (!v6.2) then (subI .i64 v6.1 1) else v6.1)), (7, .int .i64 0)]⟩, [.live .norm 2 [[.int .i64 a0.Actuators, .ro (a0.Steps.map cSStep)]]]⟩) _ (by kernel_rfl) ?_
          refine W_ret ?_
          replace h := Option.some.inj h; subst h
          exact Fin_free (l := [.int .i64 (bif (!v6.2) then (subI .i64 v6.1 1) else v6.1), .int .i64 0]) (by kernel_rfl) (by kernel_rfl) rfl

theorem p55 (a0 : (List Int)) (a1 : Int) (r : Int) (h : m55 a0 a1 = some r) : Pt E0 hp 55 [.ro (a0.map cI_i64), .int .i64 a1] (.int .i64 r) := by
  unfold m55 at h
  refine Pt_W (fn55) rfl (by decide) ?_
  refine W_seq ?_
  refine W_gh ?_
  refine W_reg ?_
  refine O_ps 1 (by kernel_rfl) ?_
  refine O_nil ?_
  refine Gh_end (s1 := ⟨⟨21, [(0, .ro (a0.map cI_i64)), (1, .int .i64 a1)]⟩, []⟩) _ (by kernel_rfl) ?_
  refine W_seq ?_
  refine W_reg ?_
  refine O_ps 1 (by kernel_rfl) ?_
  refine O_nil ?_
  refine W_seq ?_
  refine W_seq ?_
  refine W_reg ?_
  refine O_ps 1 (by kernel_rfl) ?_
  refine O_nil ?_
  refine W_loopS (fun s1 : Int × Int => ⟨⟨21, [(0, .ro (a0.map cI_i64)), (1, .int .i64 a1), (5, .int .i64 s1.1), (6, .int .i64 s1.2)]⟩, []⟩) (fun w2 : Int => ⟨⟨21, [(0, .ro (a0.map cI_i64)), (1, .int .i64 a1), (5, .int .i64 w2)]⟩, []⟩) h (by kernel_rfl) (fun s1 c h => ?_) (fun w2 e_w2 h => ?_)
  · refine W_gh ?_
    refine W_seq ?_
    refine W_seq ?_
    refine W_gh ?_
    refine W_reg ?_
    refine O_ps 2 (by kernel_rfl) ?_
    refine O_len (l := a0) cI_i64 (by kernel_rfl) (by kernel_rfl) ?_
    refine O_ps 1 (by kernel_rfl) ?_
    refine O_nil ?_
    refine Gh_end (s1 := ⟨⟨21, [(0, .ro (a0.map cI_i64)), (1, .int .i64 a1), (5, .int .i64 s1.1), (6, .int .i64 s1.2), (10, .bool (decide (s1.2 < (a0.length : Int))))]⟩, []⟩) _ (by kernel_rfl) ?_
    refine W_gh ?_
    refine W_cond (c := (decide (s1.2 < (a0.length : Int)))) (by kernel_rfl) (fun c3 => ?_) (fun c3 => ?_)
    · replace h := fork_t c3 h
      refine W_skip ?_
      refine Gh_end (s1 := ⟨⟨21, [(0, .ro (a0.map cI_i64)), (1, .int .i64 a1), (5, .int .i64 s1.1), (6, .int .i64 s1.2)]⟩, []⟩) _ (by kernel_rfl) ?_
      refine W_seq ?_
      refine W_gh ?_
      refine W_block ?_
      refine W_seq ?_
      refine W_gh ?_
      refine W_reg ?_
      refine O_ps 2 (by kernel_rfl) ?_
      refine O_idx (kd := .i64) cI_i64 h (fun _ => rfl) (by kernel_rfl) (by kernel_rfl) (by kernel_rfl) (fun v4 e_v4 h => ?_)
      refine O_ps 3 (by kernel_rfl) ?_
      refine O_nil ?_
      refine Gh_end (s1 := ⟨⟨21, [(0, .ro (a0.map cI_i64)), (1, .int .i64 a1), (5, .int .i64 s1.1), (6, .int .i64 s1.2), (18, .bool (decide (v4 ≤ a1)))]⟩, []⟩) _ (by kernel_rfl) ?_
      refine W_cut ⟨⟨21, [(0, .ro (a0.map cI_i64)), (1, .int .i64 a1), (5, .int .i64 (bif (decide (v4 ≤ a1)) then s1.2 else s1.1)), (6, .int .i64 s1.2)]⟩, []⟩ ?_ ?_
      · generalize e_g5 : (bif (decide (v4 ≤ a1)) then s1.2 else s1.1) = g5
        refine W_gh ?_
        refine W_cond (c := (decide (v4 ≤ a1))) (by kernel_rfl) (fun c6 => ?_) (fun c6 => ?_)
        · skip
          refine W_gh ?_
          refine W_reg ?_
          refine O_ps 2 (by kernel_rfl) ?_
          refine O_nil ?_
          refine Gh_end (s1 := ⟨⟨21, [(0, .ro (a0.map cI_i64)), (1, .int .i64 a1), (5, .int .i64 s1.2), (6, .int .i64 s1.2), (18, .bool (decide (v4 ≤ a1)))]⟩, []⟩) _ (by kernel_rfl) ?_
          refine Gh_end (s1 := ⟨⟨21, [(0, .ro (a0.map cI_i64)), (1, .int .i64 a1), (5, .int .i64 s1.2), (6, .int .i64 s1.2)]⟩, []⟩) _ (by kernel_rfl) ?_
          have q := e_g5; simp only [c3, c6, cond_true, cond_false, Bool.true_and, Bool.false_and, Bool.true_or, Bool.false_or] at q; subst q
          show _ = _
          kernel_rfl
        · skip
          refine W_skip ?_
          refine Gh_end (s1 := ⟨⟨21, [(0, .ro (a0.map cI_i64)), (1, .int .i64 a1), (5, .int .i64 s1.1), (6, .int .i64 s1.2)]⟩, []⟩) _ (by kernel_rfl) ?_
          have q := e_g5; simp only [c3, c6, cond_true, cond_false, Bool.true_and, Bool.false_and, Bool.true_or, Bool.false_or] at q; subst q
          show _ = _
          kernel_rfl
      · refine Gh_end (s1 := ⟨⟨21, [(0, .ro (a0.map cI_i64)), (1, .int .i64 a1), (5, .int .i64 (bif (decide (v4 ≤ a1)) then s1.2 else s1.1)), (6, .int .i64 s1.2)]⟩, []⟩) _ (by kernel_rfl) ?_
        refine W_gh ?_
        refine W_reg ?_
        refine O_ps 3 (by kernel_rfl) ?_
        refine O_nil ?_
        refine Gh_end (s1 := ⟨⟨21, [(0, .ro (a0.map cI_i64)), (1, .int .i64 a1), (5, .int .i64 (bif (decide (v4 ≤ a1)) then s1.2 else s1.1)), (6, .int .i64 (addI .i64 s1.2 1))]⟩, []⟩) _ (by kernel_rfl) ?_
        refine Gh_end (s1 := ⟨⟨21, [(0, .ro (a0.map cI_i64)), (1, .int .i64 a1), (5, .int .i64 (bif (decide (v4 ≤ a1)) then s1.2 else s1.1)), (6, .int .i64 (addI .i64 s1.2 1))]⟩, []⟩) _ (by kernel_rfl) ?_
        replace h := Option.some.inj h; subst h
        exact ⟨_, rfl, by kernel_rfl⟩
    · replace h := fork_f c3 h
      refine W_exit ?_
      refine X_hit ?_
      refine Gh_end (s1 := ⟨⟨21, [(0, .ro (a0.map cI_i64)), (1, .int .i64 a1), (5, .int .i64 s1.1)]⟩, []⟩) _ (by kernel_rfl) ?_
      replace h := Option.some.inj h; subst h
      exact ⟨_, rfl, by kernel_rfl⟩
  · refine W_seq ?_
    refine W_gh ?_
    refine W_reg ?_
    refine O_ps 2 (by kernel_rfl) ?_
    refine O_nil ?_
    refine Gh_end (s1 := ⟨⟨21, [(0, .ro (a0.map cI_i64)), (1, .int .i64 a1), (4, .int .i64 w2)]⟩, []⟩) _ (by kernel_rfl) ?_
    refine W_ret ?_
    replace h := Option.some.inj h; subst h
    exact Fin_free (l := [.int .i64 w2]) (by kernel_rfl) (by kernel_rfl) rfl

theorem p31 (a0 : SSequence) (a1 : (List Int)) (a2 : Int) (r : (Int × Int)) (h : m31 a0 a1 a2 = some r) : Pt E0 hp 31 [.agg (cSSequence a0), .ro (a1.map cI_i64), .int .i64 a2] (.tup [.int .i64 r.1, .int .i64 r.2]) := by
  unfold m31 at h
  refine Pt_W (fn31) rfl (by decide) ?_
  refine W_seq ?_
  refine W_gh ?_
  refine W_reg ?_
  refine O_ps 3 (by kernel_rfl) ?_
  refine O_nil ?_
  refine Gh_end (s1 := ⟨⟨27, [(1, .ro (a1.map cI_i64)), (2, .int .i64 a2), (3, .pown 0 1 0 0)]⟩, [.live .norm 2 [[.int .i64 a0.Actuators, .ro (a0.Steps.map cSStep)]]]⟩) _ (by kernel_rfl) ?_
  refine W_seq ?_
  refine W_seq ?_
  refine W_gh ?_
  refine W_reg ?_
  refine O_ps 2 (by kernel_rfl) ?_
  refine O_call (fun v => .int .i64 v) h (.inr rfl) (ys := [.agg (cSSequence a0), .ro (a1.map cI_i64)]) (fun _ e => p24 _ _ _ e) (by kernel_rfl) (by kernel_rfl) (bels_cons (okSSequence.bel _) (bels_cons (ro_bel okI_i64.bel _) rfl)) (fun v1 e_v1 h => ?_)
  refine O_ps 1 (by kernel_rfl) ?_
  refine O_nil ?_
  refine Gh_end (s1 := ⟨⟨27, [(1, .ro (a1.map cI_i64)), (2, .int .i64 a2), (3, .pown 0 1 0 0), (8, .int .i64 v1)]⟩, [.live .norm 2 [[.int .i64 a0.Actuators, .ro (a0.Steps.map cSStep)]]]⟩) _ (by kernel_rfl) ?_
  refine W_seq ?_
  refine W_gh ?_
  refine W_reg ?_
  refine O_ps 2 (by kernel_rfl) ?_
  refine O_nil ?_
  refine Gh_end (s1 := ⟨⟨27, [(1, .ro (a1.map cI_i64)), (2, .int .i64 a2), (3, .pown 0 1 0 0), (8, .int .i64 v1), (13, .bool (v1 != 0))]⟩, [.live .norm 2 [[.int .i64 a0.Actuators, .ro (a0.Steps.map cSStep)]]]⟩) _ (by kernel_rfl) ?_
  refine W_gh ?_
  refine W_cond (c := (v1 != 0)) (by kernel_rfl) (fun c2 => ?_) (fun c2 => ?_)
  · replace h := fork_t c2 h
    refine W_seq ?_
    refine W_gh ?_
    refine W_reg ?_
    refine O_ps 3 (by kernel_rfl) ?_
    refine O_nil ?_
    refine Gh_end (s1 := ⟨⟨27, [(1, .ro (a1.map cI_i64)), (2, .int .i64 a2), (3, .pown 0 1 0 0), (6, .int .i64 0), (7, .int .i64 v1), (13, .bool (v1 != 0))]⟩, [.live .norm 2 [[.int .i64 a0.Actuators, .ro (a0.Steps.map cSStep)]]]⟩) _ (by kernel_rfl) ?_
    refine W_ret ?_
    replace h := Option.some.inj h; subst h
    exact Fin_free (l := [.int .i64 0, .int .i64 v1]) (by kernel_rfl) (by kernel_rfl) rfl
  · replace h := fork_f c2 h
    refine W_skip ?_
    refine Gh_end (s1 := ⟨⟨27, [(1, .ro (a1.map cI_i64)), (2, .int .i64 a2), (3, .pown 0 1 0 0)]⟩, [.live .norm 2 [[.int .i64 a0.Actuators, .ro (a0.Steps.map cSStep)]]]⟩) _ (by kernel_rfl) ?_
    refine W_seq ?_
    refine W_seq ?_
    refine W_cut ⟨⟨27, [(1, .ro (a1.map cI_i64)), (2, .int .i64 a2), (23, .bool ((decide (a2 < 0)) || (decide (a2 ≥ (a0.Steps.length : Int)))))]⟩, [.live .norm 2 [[.int .i64 a0.Actuators, .ro (a0.Steps.map cSStep)]]]⟩ ?_ ?_
    · generalize e_g3 : ((decide (a2 < 0)) || (decide (a2 ≥ (a0.Steps.length : Int)))) = g3
      refine W_gh ?_
      refine W_reg ?_
      refine O_ps 3 (by kernel_rfl) ?_
      refine O_fork (n := 17) (decide (a2 < 0)) (by kernel_rfl) (fun c4 => ?_) (fun c4 => ?_)
      · skip
        refine O_ps 6 (by kernel_rfl) ?_
        refine O_nil ?_
        refine Gh_end (s1 := ⟨⟨27, [(1, .ro (a1.map cI_i64)), (2, .int .i64 a2), (23, .bool true)]⟩, [.live .norm 2 [[.int .i64 a0.Actuators, .ro (a0.Steps.map cSStep)]]]⟩) _ (by kernel_rfl) ?_
        have q := e_g3; simp only [c2, c4, cond_true, cond_false, Bool.true_and, Bool.false_and, Bool.true_or, Bool.false_or] at q; subst q
        show _ = _
        kernel_rfl
      · skip
        refine O_ps 3 (by kernel_rfl) ?_
        refine O_len (l := a0.Steps) cSStep (by kernel_rfl) (by kernel_rfl) ?_
        refine O_ps 2 (by kernel_rfl) ?_
        refine O_nil ?_
        refine Gh_end (s1 := ⟨⟨27, [(1, .ro (a1.map cI_i64)), (2, .int .i64 a2), (23, .bool (decide (a2 ≥ (a0.Steps.length : Int))))]⟩, [.live .norm 2 [[.int .i64 a0.Actuators, .ro (a0.Steps.map cSStep)]]]⟩) _ (by kernel_rfl) ?_
        have q := e_g3; simp only [c2, c4, cond_true, cond_false, Bool.true_and, Bool.false_and, Bool.true_or, Bool.false_or] at q; subst q
        show _ = _
        kernel_rfl
    · refine W_gh ?_
      refine W_cond (c := ((decide (a2 < 0)) || (decide (a2 ≥ (a0.Steps.length : Int))))) (by kernel_rfl) (fun c5 => ?_) (fun c5 => ?_)
      · replace h := fork_t c5 h
        refine W_seq ?_
        refine W_reg ?_
        refine O_ps 2 (by kernel_rfl) ?_
        refine O_nil ?_
        refine W_ret ?_
        replace h := Option.some.inj h; subst h
        exact Fin_free (l := [.int .i64 0, .int .i64 2]) (by kernel_rfl) (by kernel_rfl) rfl
      · replace h := fork_f c5 h
        refine W_skip ?_
        refine Gh_end (s1 := ⟨⟨27, [(1, .ro (a1.map cI_i64)), (2, .int .i64 a2)]⟩, [.live .norm 2 [[.int .i64 a0.Actuators, .ro (a0.Steps.map cSStep)]]]⟩) _ (by kernel_rfl) ?_
        refine W_seq ?_
        refine W_gh ?_
        refine W_reg ?_
        refine O_ps 2 (by kernel_rfl) ?_
        refine O_call (fun v => .int .i64 v) h (.inr rfl) (ys := [.ro (a1.map cI_i64), .int .i64 a2]) (fun _ e => p55 _ _ _ e) (by kernel_rfl) (by kernel_rfl) (bels_cons (ro_bel okI_i64.bel _) (bels_cons rfl rfl)) (fun v6 e_v6 h => ?_)
        refine O_ps 2 (by kernel_rfl) ?_
        refine O_nil ?_
        refine Gh_end (s1 := ⟨⟨27, [(6, .int .i64 v6), (7, .int .i64 0)]⟩, [.live .norm 2 [[.int .i64 a0.Actuators, .ro (a0.Steps.map cSStep)]]]⟩) _ (by kernel_rfl) ?_
        refine W_ret ?_
        replace h := Option.some.inj h; subst h
        exact Fin_free (l := [.int .i64 v6, .int .i64 0]) (by kernel_rfl) (by kernel_rfl) rfl

theorem p23 (a0 : SSequence) (a1 : (List Int)) (r : Int) (h : m23 a0 a1 = some r) : Pt E0 hp 23 [.agg (cSSequence a0), .ro (a1.map cI_i64)] (.int .i64 r) := by
  unfold m23 at h
  refine Pt_W (fn23) rfl (by decide) ?_
  refine W_seq ?_
  refine W_gh ?_
  refine W_reg ?_
  refine O_ps 2 (by kernel_rfl) ?_
  refine O_nil ?_
  refine Gh_end (s1 := ⟨⟨8, [(1, .ro (a1.map cI_i64)), (2, .pown 0 1 0 0)]⟩, [.live .norm 2 [[.int .i64 a0.Actuators, .ro (a0.Steps.map cSStep)]]]⟩) _ (by kernel_rfl) ?_
  refine W_seq ?_
  refine W_gh ?_
  refine W_reg ?_
  refine O_ps 2 (by kernel_rfl) ?_
  refine O_call (fun v => .int .i64 v) h (.inr rfl) (ys := [.agg (cSSequence a0), .ro (a1.map cI_i64), .bool false]) (fun _ e => p47 _ _ _ _ e) (by kernel_rfl) (by kernel_rfl) (bels_cons (okSSequence.bel _) (bels_cons (ro_bel okI_i64.bel _) (bels_cons rfl rfl))) (fun v1 e_v1 h => ?_)
  refine O_ps 1 (by kernel_rfl) ?_
  refine O_nil ?_
  refine Gh_end (s1 := ⟨⟨8, [(4, .int .i64 v1)]⟩, [.live .norm 2 [[.int .i64 a0.Actuators, .ro (a0.Steps.map cSStep)]]]⟩) _ (by kernel_rfl) ?_
  refine W_ret ?_
  replace h := Option.some.inj h; subst h
  exact Fin_free (l := [.int .i64 v1]) (by kernel_rfl) (by kernel_rfl) rfl

theorem p22 (a0 : SSequence) (a1 : (List Int)) (r : Int) (h : m22 a0 a1 = some r) : Pt E0 hp 22 [.agg (cSSequence a0), .ro (a1.map cI_i64)] (.int .i64 r) := by
  unfold m22 at h
  refine Pt_W (fn22) rfl (by decide) ?_
  refine W_seq ?_
  refine W_gh ?_
  refine W_reg ?_
  refine O_ps 2 (by kernel_rfl) ?_
  refine O_nil ?_
  refine Gh_end (s1 := ⟨⟨8, [(1, .ro (a1.map cI_i64)), (2, .pown 0 1 0 0)]⟩, [.live .norm 2 [[.int .i64 a0.Actuators, .ro (a0.Steps.map cSStep)]]]⟩) _ (by kernel_rfl) ?_
  refine W_seq ?_
  refine W_gh ?_
  refine W_reg ?_
  refine O_ps 2 (by kernel_rfl) ?_
  refine O_call (fun v => .int .i64 v) h (.inr rfl) (ys := [.agg (cSSequence a0), .ro (a1.map cI_i64), .bool false]) (fun _ e => p46 _ _ _ _ e) (by kernel_rfl) (by kernel_rfl) (bels_cons (okSSequence.bel _) (bels_cons (ro_bel okI_i64.bel _) (bels_cons rfl rfl))) (fun v1 e_v1 h => ?_)
  refine O_ps 1 (by kernel_rfl) ?_
  refine O_nil ?_
  refine Gh_end (s1 := ⟨⟨8, [(4, .int .i64 v1)]⟩, [.live .norm 2 [[.int .i64 a0.Actuators, .ro (a0.Steps.map cSStep)]]]⟩) _ (by kernel_rfl) ?_
  refine W_ret ?_
  replace h := Option.some.inj h; subst h
  exact Fin_free (l := [.int .i64 v1]) (by kernel_rfl) (by kernel_rfl) rfl

theorem p56 (a0 : (List Int)) (a1 : (List Int)) (r : Bool) (h : m56 a0 a1 = some r) : Pt E0 hp 56 [.ro (a0.map cI_i64), .ro (a1.map cI_i64)] (.bool r) := by
  unfold m56 at h
  refine Pt_W (fn56) rfl (by decide) ?_
  refine W_seq ?_
  refine W_gh ?_
  refine W_reg ?_
  refine O_ps 1 (by kernel_rfl) ?_
  refine O_nil ?_
  refine Gh_end (s1 := ⟨⟨26, [(0, .ro (a0.map cI_i64)), (1, .ro (a1.map cI_i64))]⟩, []⟩) _ (by kernel_rfl) ?_
  refine W_seq ?_
  refine W_seq ?_
  refine W_gh ?_
  refine W_reg ?_
  refine O_ps 1 (by kernel_rfl) ?_
  refine O_len (l := a0) cI_i64 (by kernel_rfl) (by kernel_rfl) ?_
  refine O_ps 1 (by kernel_rfl) ?_
  refine O_len (l := a1) cI_i64 (by kernel_rfl) (by kernel_rfl) ?_
  refine O_ps 1 (by kernel_rfl) ?_
  refine O_nil ?_
  refine Gh_end (s1 := ⟨⟨26, [(0, .ro (a0.map cI_i64)), (1, .ro (a1.map cI_i64)), (10, .bool ((a0.length : Int) != (a1.length : Int)))]⟩, []⟩) _ (by kernel_rfl) ?_
  refine W_gh ?_
  refine W_cond (c := ((a0.length : Int) != (a1.length : Int))) (by kernel_rfl) (fun c1 => ?_) (fun c1 => ?_)
  · replace h := fork_t c1 h
    refine W_seq ?_
    refine W_reg ?_
    refine O_ps 1 (by kernel_rfl) ?_
    refine O_nil ?_
    refine W_ret ?_
    replace h := Option.some.inj h; subst h
    exact Fin_free (l := [.bool false]) (by kernel_rfl) (by kernel_rfl) rfl
  · replace h := fork_f c1 h
    refine W_skip ?_
    refine Gh_end (s1 := ⟨⟨26, [(0, .ro (a0.map cI_i64)), (1, .ro (a1.map cI_i64))]⟩, []⟩) _ (by kernel_rfl) ?_
    refine W_seq ?_
    refine W_seq ?_
    refine W_reg ?_
    refine O_ps 1 (by kernel_rfl) ?_
    refine O_nil ?_
    refine W_loop (fun s2 : Int => ⟨⟨26, [(0, .ro (a0.map cI_i64)), (1, .ro (a1.map cI_i64)), (5, .int .i64 s2)]⟩, []⟩) (fun w3 : Unit => ⟨⟨26, [(0, .ro (a0.map cI_i64)), (1, .ro (a1.map cI_i64))]⟩, []⟩) h (by kernel_rfl) (fun s2 c h => ?_) (fun w3 h => ?_)
    · refine W_gh ?_
      refine W_seq ?_
      refine W_seq ?_
      refine W_gh ?_
      refine W_reg ?_
      refine O_ps 2 (by kernel_rfl) ?_
      refine O_len (l := a0) cI_i64 (by kernel_rfl) (by kernel_rfl) ?_
      refine O_ps 1 (by kernel_rfl) ?_
      refine O_nil ?_
      refine Gh_end (s1 := ⟨⟨26, [(0, .ro (a0.map cI_i64)), (1, .ro (a1.map cI_i64)), (5, .int .i64 s2), (14, .bool (decide (s2 < (a0.length : Int))))]⟩, []⟩) _ (by kernel_rfl) ?_
      refine W_gh ?_
      refine W_cond (c := (decide (s2 < (a0.length : Int)))) (by kernel_rfl) (fun c4 => ?_) (fun c4 => ?_)
      · replace h := fork_t c4 h
        refine W_skip ?_
        refine Gh_end (s1 := ⟨⟨26, [(0, .ro (a0.map cI_i64)), (1, .ro (a1.map cI_i64)), (5, .int .i64 s2)]⟩, []⟩) _ (by kernel_rfl) ?_
        refine W_seq ?_
        refine W_gh ?_
        refine W_block ?_
        refine W_seq ?_
        refine W_gh ?_
        refine W_draw ?_
        refine O_ps 2 (by kernel_rfl) ?_
        refine O_idx (kd := .i64) cI_i64 h (fun _ => rfl) (by kernel_rfl) (by kernel_rfl) (by kernel_rfl) (fun v5 e_v5 h => ?_)
        refine O_ps 3 (by kernel_rfl) ?_
        refine O_idx (kd := .i64) cI_i64 h (fun _ => rfl) (by kernel_rfl) (by kernel_rfl) (by kernel_rfl) (fun v6 e_v6 h => ?_)
        refine O_ps 2 (by kernel_rfl) ?_
        refine O_nil ?_
        refine Gh_end (s1 := ⟨⟨26, [(0, .ro (a0.map cI_i64)), (1, .ro (a1.map cI_i64)), (5, .int .i64 s2), (25, .bool (v5 != v6))]⟩, []⟩) _ (by kernel_rfl) ?_
        refine W_gh ?_
        refine W_cond (c := (v5 != v6)) (by kernel_rfl) (fun c7 => ?_) (fun c7 => ?_)
        · replace h := fork_t c7 h
          refine W_seq ?_
          refine W_reg ?_
          refine O_ps 1 (by kernel_rfl) ?_
          refine O_nil ?_
          refine W_ret ?_
          replace h := Option.some.inj h; subst h
          refine ⟨_, rfl, fun h => ?_⟩
          replace h := Option.some.inj h; subst h
          exact Fin_free (l := [.bool false]) (by kernel_rfl) (by kernel_rfl) rfl
        · replace h := fork_f c7 h
          refine W_skip ?_
          refine Gh_end (s1 := ⟨⟨26, [(0, .ro (a0.map cI_i64)), (1, .ro (a1.map cI_i64)), (5, .int .i64 s2)]⟩, []⟩) _ (by kernel_rfl) ?_
          refine Gh_end (s1 := ⟨⟨26, [(0, .ro (a0.map cI_i64)), (1, .ro (a1.map cI_i64)), (5, .int .i64 s2)]⟩, []⟩) _ (by kernel_rfl) ?_
          refine W_gh ?_
          refine W_reg ?_
          refine O_ps 3 (by kernel_rfl) ?_
          refine O_nil ?_
          refine Gh_end (s1 := ⟨⟨26, [(0, .ro (a0.map cI_i64)), (1, .ro (a1.map cI_i64)), (5, .int .i64 (addI .i64 s2 1))]⟩, []⟩) _ (by kernel_rfl) ?_
          refine Gh_end (s1 := ⟨⟨26, [(0, .ro (a0.map cI_i64)), (1, .ro (a1.map cI_i64)), (5, .int .i64 (addI .i64 s2 1))]⟩, []⟩) _ (by kernel_rfl) ?_
          replace h := Option.some.inj h; subst h
          exact ⟨_, rfl, by kernel_rfl⟩
      · replace h := fork_f c4 h
        refine W_exit ?_
        refine X_hit ?_
        refine Gh_end (s1 := ⟨⟨26, [(0, .ro (a0.map cI_i64)), (1, .ro (a1.map cI_i64))]⟩, []⟩) _ (by kernel_rfl) ?_
        replace h := Option.some.inj h; subst h
        exact ⟨_, rfl, by kernel_rfl⟩
    · refine W_seq ?_
      refine W_reg ?_
      refine O_ps 1 (by kernel_rfl) ?_
      refine O_nil ?_
      refine W_ret ?_
      replace h := Option.some.inj h; subst h
      exact Fin_free (l := [.bool true]) (by kernel_rfl) (by kernel_rfl) rfl

theorem p32 (a0 : (List (List Int))) (a1 : (List (List Int))) (r : Bool) (h : m32 a0 a1 = some r) : Pt E0 hp 32 [.ro (a0.map (cL cI_i64)), .ro (a1.map (cL cI_i64))] (.bool r) := by
  unfold m32 at h
  refine Pt_W (fn32) rfl (by decide) ?_
  refine W_seq ?_
  refine W_gh ?_
  refine W_reg ?_
  refine O_ps 1 (by kernel_rfl) ?_
  refine O_nil ?_
  refine Gh_end (s1 := ⟨⟨27, [(0, .ro (a0.map (cL cI_i64))), (1, .ro (a1.map (cL cI_i64)))]⟩, []⟩) _ (by kernel_rfl) ?_
  refine W_seq ?_
  refine W_seq ?_
  refine W_gh ?_
  refine W_reg ?_
  refine O_ps 1 (by kernel_rfl) ?_
  refine O_len (l := a0) (cL cI_i64) (by kernel_rfl) (by kernel_rfl) ?_
  refine O_ps 1 (by kernel_rfl) ?_
  refine O_len (l := a1) (cL cI_i64) (by kernel_rfl) (by kernel_rfl) ?_
  refine O_ps 1 (by kernel_rfl) ?_
  refine O_nil ?_
  refine Gh_end (s1 := ⟨⟨27, [(0, .ro (a0.map (cL cI_i64))), (1, .ro (a1.map (cL cI_i64))), (10, .bool ((a0.length : Int) != (a1.length : Int)))]⟩, []⟩) _ (by kernel_rfl) ?_
  refine W_gh ?_
  refine W_cond (c := ((a0.length : Int) != (a1.length : Int))) (by kernel_rfl) (fun c1 => ?_) (fun c1 => ?_)
  · replace h := fork_t c1 h
    refine W_seq ?_
    refine W_reg ?_
    refine O_ps 1 (by kernel_rfl) ?_
    refine O_nil ?_
    refine W_ret ?_
    replace h := Option.some.inj h; subst h
    exact Fin_free (l := [.bool false]) (by kernel_rfl) (by kernel_rfl) rfl
  · replace h := fork_f c1 h
    refine W_skip ?_
    refine Gh_end (s1 := ⟨⟨27, [(0, .ro (a0.map (cL cI_i64))), (1, .ro (a1.map (cL cI_i64)))]⟩, []⟩) _ (by kernel_rfl) ?_
    refine W_seq ?_
    refine W_seq ?_
    refine W_reg ?_
    refine O_ps 1 (by kernel_rfl) ?_
    refine O_nil ?_
    refine W_loop (fun s2 : Int => ⟨⟨27, [(0, .ro (a0.map (cL cI_i64))), (1, .ro (a1.map (cL cI_i64))), (5, .int .i64 s2)]⟩, []⟩) (fun w3 : Unit => ⟨⟨27, [(0, .ro (a0.map (cL cI_i64))), (1, .ro (a1.map (cL cI_i64)))]⟩, []⟩) h (by kernel_rfl) (fun s2 c h => ?_) (fun w3 h => ?_)
    · refine W_gh ?_
      refine W_seq ?_
      refine W_seq ?_
      refine W_gh ?_
      refine W_reg ?_
      refine O_ps 2 (by kernel_rfl) ?_
      refine O_len (l := a0) (cL cI_i64) (by kernel_rfl) (by kernel_rfl) ?_
      refine O_ps 1 (by kernel_rfl) ?_
      refine O_nil ?_
      refine Gh_end (s1 := ⟨⟨27, [(0, .ro (a0.map (cL cI_i64))), (1, .ro (a1.map (cL cI_i64))), (5, .int .i64 s2), (14, .bool (decide (s2 < (a0.length : Int))))]⟩, []⟩) _ (by kernel_rfl) ?_
      refine W_gh ?_
      refine W_cond (c := (decide (s2 < (a0.length : Int)))) (by kernel_rfl) (fun c4 => ?_) (fun c4 => ?_)
      · replace h := fork_t c4 h
        refine W_skip ?_
        refine Gh_end (s1 := ⟨⟨27, [(0, .ro (a0.map (cL cI_i64))), (1, .ro (a1.map (cL cI_i64))), (5, .int .i64 s2)]⟩, []⟩) _ (by kernel_rfl) ?_
        refine W_seq ?_
        refine W_gh ?_
        refine W_block ?_
        refine W_seq ?_
        refine W_gh ?_
        refine W_draw ?_
        refine O_ps 2 (by kernel_rfl) ?_
        refine O_idx (kd := .i64) (cL cI_i64) h (fun _ => rfl) (by kernel_rfl) (by kernel_rfl) (by kernel_rfl) (fun v5 e_v5 h => ?_)
        refine O_ps 3 (by kernel_rfl) ?_
        refine O_idx (kd := .i64) (cL cI_i64) h (fun _ => rfl) (by kernel_rfl) (by kernel_rfl) (by kernel_rfl) (fun v6 e_v6 h => ?_)
        refine O_ps 1 (by kernel_rfl) ?_
        refine O_call (fun v => .bool v) h (.inr rfl) (ys := [.ro (v5.map cI_i64), .ro (v6.map cI_i64)]) (fun _ e => p56 _ _ _ e) (by kernel_rfl) (by kernel_rfl) (bels_cons (ro_bel okI_i64.bel _) (bels_cons (ro_bel okI_i64.bel _) rfl)) (fun v7 e_v7 h => ?_)
        refine O_ps 1 (by kernel_rfl) ?_
        refine O_nil ?_
        refine Gh_end (s1 := ⟨⟨27, [(0, .ro (a0.map (cL cI_i64))), (1, .ro (a1.map (cL cI_i64))), (5, .int .i64 s2), (26, .bool (!v7))]⟩, []⟩) _ (by kernel_rfl) ?_
        refine W_gh ?_
        refine W_cond (c := (!v7)) (by kernel_rfl) (fun c8 => ?_) (fun c8 => ?_)
        · replace h := fork_t c8 h
          refine W_seq ?_
          refine W_reg ?_
          refine O_ps 1 (by kernel_rfl) ?_
          refine O_nil ?_
          refine W_ret ?_
          replace h := Option.some.inj h; subst h
          refine ⟨_, rfl, fun h => ?_⟩
          replace h := Option.some.inj h; subst h
          exact Fin_free (l := [.bool false]) (by kernel_rfl) (by kernel_rfl) rfl
        · replace h := fork_f c8 h
          refine W_skip ?_
          refine Gh_end (s1 := ⟨⟨27, [(0, .ro (a0.map (cL cI_i64))), (1, .ro (a1.map (cL cI_i64))), (5, .int .i64 s2)]⟩, []⟩) _ (by kernel_rfl) ?_
          refine Gh_end (s1 := ⟨⟨27, [(0, .ro (a0.map (cL cI_i64))), (1, .ro (a1.map (cL cI_i64))), (5, .int .i64 s2)]⟩, []⟩) _ (by kernel_rfl) ?_
          refine W_gh ?_
          refine W_reg ?_
          refine O_ps 3 (by kernel_rfl) ?_
          refine O_nil ?_
          refine Gh_end (s1 := ⟨⟨27, [(0, .ro (a0.map (cL cI_i64))), (1, .ro (a1.map (cL cI_i64))), (5, .int .i64 (addI .i64 s2 1))]⟩, []⟩) _ (by kernel_rfl) ?_
          refine Gh_end (s1 := ⟨⟨27, [(0, .ro (a0.map (cL cI_i64))), (1, .ro (a1.map (cL cI_i64))), (5, .int .i64 (addI .i64 s2 1))]⟩, []⟩) _ (by kernel_rfl) ?_
          replace h := Option.some.inj h; subst h
          exact ⟨_, rfl, by kernel_rfl⟩
      · replace h := fork_f c4 h
        refine W_exit ?_
        refine X_hit ?_
        refine Gh_end (s1 := ⟨⟨27, [(0, .ro (a0.map (cL cI_i64))), (1, .ro (a1.map (cL cI_i64)))]⟩, []⟩) _ (by kernel_rfl) ?_
        replace h := Option.some.inj h; subst h
        exact ⟨_, rfl, by kernel_rfl⟩
    · refine W_seq ?_
      refine W_reg ?_
      refine O_ps 1 (by kernel_rfl) ?_
      refine O_nil ?_
      refine W_ret ?_
      replace h := Option.some.inj h; subst h
      exact Fin_free (l := [.bool true]) (by kernel_rfl) (by kernel_rfl) rfl

theorem p9 (a0 : SSequence) (a1 : (List Int)) (a2 : Int) (r : Bool) (h : m9 a0 a1 a2 = some r) : Pt E0 hp 9 [.agg (cSSequence a0), .ro (a1.map cI_i64), .int .i64 a2] (.bool r) := by
  unfold m9 at h
  refine Pt_W (fn9) rfl (by decide) ?_
  refine W_seq ?_
  refine W_gh ?_
  refine W_reg ?_
  refine O_ps 2 (by kernel_rfl) ?_
  refine O_nil ?_
  refine Gh_end (s1 := ⟨⟨95, [(1, .ro (a1.map cI_i64)), (2, .int .i64 a2), (3, .pown 0 1 0 0)]⟩, [.live .norm 2 [[.int .i64 a0.Actuators, .ro (a0.Steps.map cSStep)]]]⟩) _ (by kernel_rfl) ?_
  refine W_seq ?_
  refine W_seq ?_
  refine W_joinS (fun v : Bool => ⟨⟨95, [(1, .ro (a1.map cI_i64)), (2, .int .i64 a2), (3, .pown 0 1 0 0), (28, .bool v)]⟩, [.live .norm 2 [[.int .i64 a0.Actuators, .ro (a0.Steps.map cSStep)]]]⟩) h (fun w h => ?_) (fun w1 e_w1 h => ?_)
  · refine W_gh ?_
    refine W_reg ?_
    refine O_ps 1 (by kernel_rfl) ?_
    refine O_call (fun v => .bool v) h (.inr rfl) (ys := [.agg (cSSequence a0)]) (fun _ e => p11 _ _ e) (by kernel_rfl) (by kernel_rfl) (bels_cons (okSSequence.bel _) rfl) (fun v2 e_v2 h => ?_)
    refine O_ps 2 (by kernel_rfl) ?_
    refine O_fork (n := 18) (!v2) (by kernel_rfl) (fun c3 => ?_) (fun c3 => ?_)
    · replace h := fork_t c3 h
      refine O_ps 10 (by kernel_rfl) ?_
      refine O_nil ?_
      refine Gh_end (s1 := ⟨⟨95, [(1, .ro (a1.map cI_i64)), (2, .int .i64 a2), (3, .pown 0 1 0 0), (28, .bool true)]⟩, [.live .norm 2 [[.int .i64 a0.Actuators, .ro (a0.Steps.map cSStep)]]]⟩) _ (by kernel_rfl) ?_
      replace h := Option.some.inj h; subst h
      show _ = _
      kernel_rfl
    · replace h := fork_f c3 h
      refine O_ps 2 (by kernel_rfl) ?_
      refine O_len (l := a0.Steps) cSStep (by kernel_rfl) (by kernel_rfl) ?_
      refine O_ps 3 (by kernel_rfl) ?_
      refine O_fork (n := 24) (decide ((a0.Steps.length : Int) > 40)) (by kernel_rfl) (fun c4 => ?_) (fun c4 => ?_)
      · replace h := fork_t c4 h
        refine O_ps 4 (by kernel_rfl) ?_
        refine O_nil ?_
        refine Gh_end (s1 := ⟨⟨95, [(1, .ro (a1.map cI_i64)), (2, .int .i64 a2), (3, .pown 0 1 0 0), (28, .bool true)]⟩, [.live .norm 2 [[.int .i64 a0.Actuators, .ro (a0.Steps.map cSStep)]]]⟩) _ (by kernel_rfl) ?_
        replace h := Option.some.inj h; subst h
        show _ = _
        kernel_rfl
      · replace h := fork_f c4 h
        refine O_ps 1 (by kernel_rfl) ?_
        refine O_len (l := a1) cI_i64 (by kernel_rfl) (by kernel_rfl) ?_
        refine O_ps 2 (by kernel_rfl) ?_
        refine O_nil ?_
        refine Gh_end (s1 := ⟨⟨95, [(1, .ro (a1.map cI_i64)), (2, .int .i64 a2), (3, .pown 0 1 0 0), (28, .bool (decide ((a1.length : Int) > 200)))]⟩, [.live .norm 2 [[.int .i64 a0.Actuators, .ro (a0.Steps.map cSStep)]]]⟩) _ (by kernel_rfl) ?_
        replace h := Option.some.inj h; subst h
        show _ = _
        kernel_rfl
  · refine W_gh ?_
    refine W_cond (c := w1) (by kernel_rfl) (fun c5 => ?_) (fun c5 => ?_)
    · replace h := fork_t c5 h
      refine W_seq ?_
      refine W_gh ?_
      refine W_reg ?_
      refine O_call (fun v => .bool v) h (.inr rfl) (ys := []) (fun _ e => p12  _ e) (by kernel_rfl) (by kernel_rfl) rfl (fun v6 e_v6 h => ?_)
      refine O_ps 1 (by kernel_rfl) ?_
      refine O_nil ?_
      refine Gh_end (s1 := ⟨⟨95, [(1, .ro (a1.map cI_i64)), (2, .int .i64 a2), (3, .pown 0 1 0 0), (6, .bool v6), (28, .bool w1)]⟩, [.live .norm 2 [[.int .i64 a0.Actuators, .ro (a0.Steps.map cSStep)]]]⟩) _ (by kernel_rfl) ?_
      refine W_ret ?_
      replace h := Option.some.inj h; subst h
      exact Fin_free (l := [.bool v6]) (by kernel_rfl) (by kernel_rfl) rfl
    · replace h := fork_f c5 h
      refine W_skip ?_
      refine Gh_end (s1 := ⟨⟨95, [(1, .ro (a1.map cI_i64)), (2, .int .i64 a2), (3, .pown 0 1 0 0)]⟩, [.live .norm 2 [[.int .i64 a0.Actuators, .ro (a0.Steps.map cSStep)]]]⟩) _ (by kernel_rfl) ?_
      refine W_seq ?_
      refine W_gh ?_
      refine W_reg ?_
      refine O_ps 2 (by kernel_rfl) ?_
      refine O_call (fun v => .tup [.ro (v.1.map (cL cI_i64)), .int .i64 v.2]) h (.inr rfl) (ys := [.agg (cSSequence a0), .ro (a1.map cI_i64)]) (fun _ e => p25 _ _ _ e) (by kernel_rfl) (by kernel_rfl) (bels_cons (okSSequence.bel _) (bels_cons (ro_bel okI_i64.bel _) rfl)) (fun v7 e_v7 h => ?_)
      refine O_ps 5 (by kernel_rfl) ?_
      refine O_nil ?_
      refine Gh_end (s1 := ⟨⟨95, [(1, .ro (a1.map cI_i64)), (2, .int .i64 a2), (3, .pown 0 1 0 0), (7, .ro (v7.1.map (cL cI_i64))), (8, .int .i64 v7.2)]⟩, [.live .norm 2 [[.int .i64 a0.Actuators, .ro (a0.Steps.map cSStep)]]]⟩) _ (by kernel_rfl) ?_
      refine W_seq ?_
      refine W_gh ?_
      refine W_reg ?_
      refine O_ps 2 (by kernel_rfl) ?_
      refine O_call (fun v => .tup [.ro (v.1.map (cL cI_i64)), .int .i64 v.2]) h (.inr rfl) (ys := [.agg (cSSequence a0), .ro (a1.map cI_i64)]) (fun _ e => p29 _ _ _ e) (by kernel_rfl) (by kernel_rfl) (bels_cons (okSSequence.bel _) (bels_cons (ro_bel okI_i64.bel _) rfl)) (fun v8 e_v8 h => ?_)
      refine O_ps 5 (by kernel_rfl) ?_
      refine O_nil ?_
      refine Gh_end (s1 := ⟨⟨95, [(1, .ro (a1.map cI_i64)), (2, .int .i64 a2), (3, .pown 0 1 0 0), (7, .ro (v7.1.map (cL cI_i64))), (8, .int .i64 v7.2), (9, .ro (v8.1.map (cL cI_i64))), (10, .int .i64 v8.2)]⟩, [.live .norm 2 [[.int .i64 a0.Actuators, .ro (a0.Steps.map cSStep)]]]⟩) _ (by kernel_rfl) ?_
      refine W_seq ?_
      refine W_gh ?_
      refine W_reg ?_
      refine O_ps 3 (by kernel_rfl) ?_
      refine O_call (fun v => .tup [.int .i64 v.1, .int .i64 v.2]) h (.inr rfl) (ys := [.agg (cSSequence a0), .ro (a1.map cI_i64), .int .i64 a2]) (fun _ e => p30 _ _ _ _ e) (by kernel_rfl) (by kernel_rfl) (bels_cons (okSSequence.bel _) (bels_cons (ro_bel okI_i64.bel _) (bels_cons rfl rfl))) (fun v9 e_v9 h => ?_)
      refine O_ps 5 (by kernel_rfl) ?_
      refine O_nil ?_
      refine Gh_end (s1 := ⟨⟨95, [(1, .ro (a1.map cI_i64)), (2, .int .i64 a2), (3, .pown 0 1 0 0), (7, .ro (v7.1.map (cL cI_i64))), (8, .int .i64 v7.2), (9, .ro (v8.1.map (cL cI_i64))), (10, .int .i64 v8.2), (11, .int .i64 v9.1), (12, .int .i64 v9.2)]⟩, [.live .norm 2 [[.int .i64 a0.Actuators, .ro (a0.Steps.map cSStep)]]]⟩) _ (by kernel_rfl) ?_
      refine W_seq ?_
      refine W_gh ?_
      refine W_reg ?_
      refine O_ps 3 (by kernel_rfl) ?_
      refine O_call (fun v => .tup [.int .i64 v.1, .int .i64 v.2]) h (.inr rfl) (ys := [.agg (cSSequence a0), .ro (a1.map cI_i64), .int .i64 a2]) (fun _ e => p31 _ _ _ _ e) (by kernel_rfl) (by kernel_rfl) (bels_cons (okSSequence.bel _) (bels_cons (ro_bel okI_i64.bel _) (bels_cons rfl rfl))) (fun v10 e_v10 h => ?_)
      refine O_ps 5 (by kernel_rfl) ?_
      refine O_nil ?_
      refine Gh_end (s1 := ⟨⟨95, [(1, .ro (a1.map cI_i64)), (3, .pown 0 1 0 0), (7, .ro (v7.1.map (cL cI_i64))), (8, .int .i64 v7.2), (9, .ro (v8.1.map (cL cI_i64))), (10, .int .i64 v8.2), (11, .int .i64 v9.1), (12, .int .i64 v9.2), (13, .int .i64 v10.1), (14, .int .i64 v10.2)]⟩, [.live .norm 2 [[.int .i64 a0.Actuators, .ro (a0.Steps.map cSStep)]]]⟩) _ (by kernel_rfl) ?_
      refine W_seq ?_
      refine W_joinS (fun v : Bool => ⟨⟨95, [(6, .bool v)]⟩, [.live .norm 2 [[.int .i64 a0.Actuators, .ro (a0.Steps.map cSStep)]]]⟩) h (fun w h => ?_) (fun w11 e_w11 h => ?_)
      · refine W_gh ?_
        refine W_draw ?_
        refine O_ps 2 (by kernel_rfl) ?_
        refine O_call (fun v => .int .i64 v) h (.inr rfl) (ys := [.agg (cSSequence a0), .ro (a1.map cI_i64)]) (fun _ e => p28 _ _ _ e) (by kernel_rfl) (by kernel_rfl) (bels_cons (okSSequence.bel _) (bels_cons (ro_bel okI_i64.bel _) rfl)) (fun v12 e_v12 h => ?_)
        refine O_ps 2 (by kernel_rfl) ?_
        refine O_call (fun v => .int .i64 v) h (.inr rfl) (ys := [.agg (cSSequence a0), .ro (a1.map cI_i64)]) (fun _ e => p24 _ _ _ e) (by kernel_rfl) (by kernel_rfl) (bels_cons (okSSequence.bel _) (bels_cons (ro_bel okI_i64.bel _) rfl)) (fun v13 e_v13 h => ?_)
        refine O_ps 2 (by kernel_rfl) ?_
        refine O_fork (n := 63) (v12 == v13) (by kernel_rfl) (fun c14 => ?_) (fun c14 => ?_)
        · replace h := fork_t c14 h
          refine O_ps 2 (by kernel_rfl) ?_
          refine O_call (fun v => .int .i64 v) h (.inr rfl) (ys := [.agg (cSSequence a0), .ro (a1.map cI_i64)]) (fun _ e => p23 _ _ _ e) (by kernel_rfl) (by kernel_rfl) (bels_cons (okSSequence.bel _) (bels_cons (ro_bel okI_i64.bel _) rfl)) (fun v15 e_v15 h => ?_)
          refine O_ps 2 (by kernel_rfl) ?_
          refine O_call (fun v => .int .i64 v) h (.inr rfl) (ys := [.agg (cSSequence a0), .ro (a1.map cI_i64)]) (fun _ e => p22 _ _ _ e) (by kernel_rfl) (by kernel_rfl) (bels_cons (okSSequence.bel _) (bels_cons (ro_bel okI_i64.bel _) rfl)) (fun v16 e_v16 h => ?_)
          refine O_ps 3 (by kernel_rfl) ?_
          refine O_fork (n := 72) (v15 == v16) (by kernel_rfl) (fun c17 => ?_) (fun c17 => ?_)
          · replace h := fork_t c17 h
            refine O_ps 2 (by kernel_rfl) ?_
            refine O_call (fun v => .bool v) h (.inr rfl) (ys := [.ro (v7.1.map (cL cI_i64)), .ro (v8.1.map (cL cI_i64))]) (fun _ e => p32 _ _ _ e) (by kernel_rfl) (by kernel_rfl) (bels_cons (ro_bel (okL okI_i64).bel _) (bels_cons (ro_bel (okL okI_i64).bel _) rfl)) (fun v18 e_v18 h => ?_)
            refine O_ps 2 (by kernel_rfl) ?_
            refine O_fork (n := 77) v18 (by kernel_rfl) (fun c19 => ?_) (fun c19 => ?_)
            · replace h := fork_t c19 h
              refine O_ps 5 (by kernel_rfl) ?_
              refine O_fork (n := 82) (v7.2 == v8.2) (by kernel_rfl) (fun c20 => ?_) (fun c20 => ?_)
              · replace h := fork_t c20 h
                refine O_ps 5 (by kernel_rfl) ?_
                refine O_fork (n := 87) (v9.1 == v10.1) (by kernel_rfl) (fun c21 => ?_) (fun c21 => ?_)
                · replace h := fork_t c21 h
                  refine O_ps 5 (by kernel_rfl) ?_
                  refine O_fork (n := 92) (v9.2 == v10.2) (by kernel_rfl) (fun c22 => ?_) (fun c22 => ?_)
                  · replace h := fork_t c22 h
                    refine O_call (fun v => .bool v) h (.inr rfl) (ys := []) (fun _ e => p12  _ e) (by kernel_rfl) (by kernel_rfl) rfl (fun v23 e_v23 h => ?_)
                    refine O_ps 2 (by kernel_rfl) ?_
                    refine O_nil ?_
                    refine Gh_end (s1 := ⟨⟨95, [(6, .bool v23)]⟩, [.live .norm 2 [[.int .i64 a0.Actuators, .ro (a0.Steps.map cSStep)]]]⟩) _ (by kernel_rfl) ?_
                    replace h := Option.some.inj h; subst h
                    show _ = _
                    kernel_rfl
                  · replace h := fork_f c22 h
                    refine O_ps 3 (by kernel_rfl) ?_
                    refine O_nil ?_
                    refine Gh_end (s1 := ⟨⟨95, [(6, .bool false)]⟩, [.live .norm 2 [[.int .i64 a0.Actuators, .ro (a0.Steps.map cSStep)]]]⟩) _ (by kernel_rfl) ?_
                    replace h := Option.some.inj h; subst h
                    show _ = _
                    kernel_rfl
                · replace h := fork_f c21 h
                  refine O_ps 8 (by kernel_rfl) ?_
                  refine O_nil ?_
                  refine Gh_end (s1 := ⟨⟨95, [(6, .bool false)]⟩, [.live .norm 2 [[.int .i64 a0.Actuators, .ro (a0.Steps.map cSStep)]]]⟩) _ (by kernel_rfl) ?_
                  replace h := Option.some.inj h; subst h
                  show _ = _
                  kernel_rfl
              · replace h := fork_f c20 h
                refine O_ps 13 (by kernel_rfl) ?_
                refine O_nil ?_
                refine Gh_end (s1 := ⟨⟨95, [(6, .bool false)]⟩, [.live .norm 2 [[.int .i64 a0.Actuators, .ro (a0.Steps.map cSStep)]]]⟩) _ (by kernel_rfl) ?_
                replace h := Option.some.inj h; subst h
                show _ = _
                kernel_rfl
            · replace h := fork_f c19 h
              refine O_ps 18 (by kernel_rfl) ?_
              refine O_nil ?_
              refine Gh_end (s1 := ⟨⟨95, [(6, .bool false)]⟩, [.live .norm 2 [[.int .i64 a0.Actuators, .ro (a0.Steps.map cSStep)]]]⟩) _ (by kernel_rfl) ?_
              replace h := Option.some.inj h; subst h
              show _ = _
              kernel_rfl
          · replace h := fork_f c17 h
            refine O_ps 23 (by kernel_rfl) ?_
            refine O_nil ?_
            refine Gh_end (s1 := ⟨⟨95, [(6, .bool false)]⟩, [.live .norm 2 [[.int .i64 a0.Actuators, .ro (a0.Steps.map cSStep)]]]⟩) _ (by kernel_rfl) ?_
            replace h := Option.some.inj h; subst h
            show _ = _
            kernel_rfl
        · replace h := fork_f c14 h
          refine O_ps 32 (by kernel_rfl) ?_
          refine O_nil ?_
          refine Gh_end (s1 := ⟨⟨95, [(6, .bool false)]⟩, [.live .norm 2 [[.int .i64 a0.Actuators, .ro (a0.Steps.map cSStep)]]]⟩) _ (by kernel_rfl) ?_
          replace h := Option.some.inj h; subst h
          show _ = _
          kernel_rfl
      · refine W_ret ?_
        replace h := Option.some.inj h; subst h
        exact Fin_free (l := [.bool w11]) (by kernel_rfl) (by kernel_rfl) rfl
end G18
