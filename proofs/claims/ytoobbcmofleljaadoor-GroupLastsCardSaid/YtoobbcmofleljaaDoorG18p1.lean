/- The code computes the models, printed by a program of mine (dec.py). No condition. -/
import Derived.Test.YtoobbcmofleljaaDoorG18p0
import Derived.Test.YtoobbcmofleljaaDoorG18r
namespace G18
open Go Go.Pl Go.Am Go.Am.As
set_option linter.unusedVariables false
set_option linter.unusedSimpArgs false
set_option maxHeartbeats 1000000

theorem p44 (a0 : SSequence) (a1 : Int) (a2 : Int) (r : (Int × Bool)) (h : m44 a0 a1 a2 = some r) : Pt E0 hp 44 [.agg (cSSequence a0), .int .i64 a1, .int .i64 a2] (.tup [.int .u64 r.1, .bool r.2]) := by
  unfold m44 at h
  refine Pt_W (fn44) rfl (by decide) ?_
  refine W_seq ?_
  refine W_gh ?_
  refine W_reg ?_
  refine O_ps 3 (by kernel_rfl) ?_
  refine O_nil ?_
  refine Gh_end (s1 := ⟨⟨37, [(1, .int .i64 a1), (2, .int .i64 a2), (3, .pown 0 1 0 0)]⟩, [.live .norm 2 [[.int .i64 a0.Actuators, .ro (a0.Steps.map cSStep)]]]⟩) _ (by kernel_rfl) ?_
  refine W_seq ?_
  refine W_reg ?_
  refine O_ps 1 (by kernel_rfl) ?_
  refine O_nil ?_
  refine W_seq ?_
  refine W_seq ?_
  refine W_gh ?_
  refine W_reg ?_
  refine O_ps 2 (by kernel_rfl) ?_
  refine O_nil ?_
  refine Gh_end (s1 := ⟨⟨37, [(1, .int .i64 a1), (3, .pown 0 1 0 0), (8, .int .u64 0), (11, .int .i64 a2), (12, .int .i64 0)]⟩, [.live .norm 2 [[.int .i64 a0.Actuators, .ro (a0.Steps.map cSStep)]]]⟩) _ (by kernel_rfl) ?_
  refine W_loop (fun s1 : Int × Int => ⟨⟨37, [(1, .int .i64 a1), (3, .pown 0 1 0 0), (8, .int .u64 s1.2), (11, .int .i64 a2), (12, .int .i64 s1.1)]⟩, [.live .norm 2 [[.int .i64 a0.Actuators, .ro (a0.Steps.map cSStep)]]]⟩) (fun w2 : Int => ⟨⟨37, [(1, .int .i64 a1), (8, .int .u64 w2)]⟩, [.live .norm 2 [[.int .i64 a0.Actuators, .ro (a0.Steps.map cSStep)]]]⟩) h (by kernel_rfl) (fun s1 c h => ?_) (fun w2 h => ?_)
  · refine W_gh ?_
    refine W_seq ?_
    refine W_reg ?_
    refine O_ps 1 (by kernel_rfl) ?_
    refine O_nil ?_
    refine W_seq ?_
    refine W_gh ?_
    refine W_cond (c := (decide (s1.1 < a2))) (by kernel_rfl) (fun c3 => ?_) (fun c3 => ?_)
    · replace h := fork_t c3 h
      refine W_skip ?_
      refine Gh_end (s1 := ⟨⟨37, [(1, .int .i64 a1), (3, .pown 0 1 0 0), (8, .int .u64 s1.2), (11, .int .i64 a2), (12, .int .i64 s1.1)]⟩, [.live .norm 2 [[.int .i64 a0.Actuators, .ro (a0.Steps.map cSStep)]]]⟩) _ (by kernel_rfl) ?_
      refine W_seq ?_
      refine W_gh ?_
      refine W_block ?_
      refine W_seq ?_
      refine W_gh ?_
      refine W_reg ?_
      refine O_ps 2 (by kernel_rfl) ?_
      refine O_nil ?_
      refine Gh_end (s1 := ⟨⟨37, [(1, .int .i64 a1), (3, .pown 0 1 0 0), (8, .int .u64 s1.2), (9, .int .i64 s1.1), (11, .int .i64 a2), (12, .int .i64 s1.1)]⟩, [.live .norm 2 [[.int .i64 a0.Actuators, .ro (a0.Steps.map cSStep)]]]⟩) _ (by kernel_rfl) ?_
      refine W_seq ?_
      refine W_gh ?_
      refine W_draw ?_
      refine O_ps 7 (by kernel_rfl) ?_
      refine O_len (l := a0.Steps) cSStep (by kernel_rfl) (by kernel_rfl) ?_
      refine O_rem (kd := .i64) h (by kernel_rfl) (by kernel_rfl) (by kernel_rfl) (fun v4 e_v4 h => ?_)
      refine O_idx (kd := .i64) cSStep h (fun _ => rfl) (by kernel_rfl) (by kernel_rfl) (by kernel_rfl) (fun v5 e_v5 h => ?_)
      refine O_ps 1 (by kernel_rfl) ?_
      refine O_call (fun v => .int .u64 v) h (.inr rfl) (ys := [.agg (cSStep v5)]) (fun _ e => p36 _ _ e) (by kernel_rfl) (by kernel_rfl) (bels_cons (okSStep.bel _) rfl) (fun v6 e_v6 h => ?_)
      refine O_ps 1 (by kernel_rfl) ?_
      refine O_nil ?_
      refine Gh_end (s1 := ⟨⟨37, [(1, .int .i64 a1), (3, .pown 0 1 0 0), (8, .int .u64 s1.2), (10, .int .u64 v6), (11, .int .i64 a2), (12, .int .i64 s1.1)]⟩, [.live .norm 2 [[.int .i64 a0.Actuators, .ro (a0.Steps.map cSStep)]]]⟩) _ (by kernel_rfl) ?_
      refine W_seq ?_
      refine W_seq ?_
      refine W_gh ?_
      refine W_reg ?_
      refine O_ps 4 (by kernel_rfl) ?_
      refine O_nil ?_
      refine Gh_end (s1 := ⟨⟨37, [(1, .int .i64 a1), (3, .pown 0 1 0 0), (8, .int .u64 s1.2), (10, .int .u64 v6), (11, .int .i64 a2), (12, .int .i64 s1.1), (30, .bool ((andI .u64 s1.2 v6) != 0))]⟩, [.live .norm 2 [[.int .i64 a0.Actuators, .ro (a0.Steps.map cSStep)]]]⟩) _ (by kernel_rfl) ?_
      refine W_gh ?_
      refine W_cond (c := ((andI .u64 s1.2 v6) != 0)) (by kernel_rfl) (fun c7 => ?_) (fun c7 => ?_)
      · replace h := fork_t c7 h
        refine W_seq ?_
        refine W_gh ?_
        refine W_reg ?_
        refine O_ps 3 (by kernel_rfl) ?_
        refine O_nil ?_
        refine Gh_end (s1 := ⟨⟨37, [(1, .int .i64 a1), (3, .pown 0 1 0 0), (6, .int .u64 s1.2), (7, .bool false), (10, .int .u64 v6), (11, .int .i64 a2), (12, .int .i64 s1.1), (30, .bool ((andI .u64 s1.2 v6) != 0))]⟩, [.live .norm 2 [[.int .i64 a0.Actuators, .ro (a0.Steps.map cSStep)]]]⟩) _ (by kernel_rfl) ?_
        refine W_ret ?_
        replace h := Option.some.inj h; subst h
        refine ⟨_, rfl, fun h => ?_⟩
        replace h := Option.some.inj h; subst h
        exact Fin_free (l := [.int .u64 s1.2, .bool false]) (by kernel_rfl) (by kernel_rfl) rfl
      · replace h := fork_f c7 h
        refine W_skip ?_
        refine Gh_end (s1 := ⟨⟨37, [(1, .int .i64 a1), (3, .pown 0 1 0 0), (8, .int .u64 s1.2), (10, .int .u64 v6), (11, .int .i64 a2), (12, .int .i64 s1.1)]⟩, [.live .norm 2 [[.int .i64 a0.Actuators, .ro (a0.Steps.map cSStep)]]]⟩) _ (by kernel_rfl) ?_
        refine W_gh ?_
        refine W_reg ?_
        refine O_ps 4 (by kernel_rfl) ?_
        refine O_nil ?_
        refine Gh_end (s1 := ⟨⟨37, [(1, .int .i64 a1), (3, .pown 0 1 0 0), (8, .int .u64 (orI .u64 s1.2 v6)), (11, .int .i64 a2), (12, .int .i64 s1.1)]⟩, [.live .norm 2 [[.int .i64 a0.Actuators, .ro (a0.Steps.map cSStep)]]]⟩) _ (by kernel_rfl) ?_
        refine Gh_end (s1 := ⟨⟨37, [(1, .int .i64 a1), (3, .pown 0 1 0 0), (8, .int .u64 (orI .u64 s1.2 v6)), (11, .int .i64 a2), (12, .int .i64 s1.1)]⟩, [.live .norm 2 [[.int .i64 a0.Actuators, .ro (a0.Steps.map cSStep)]]]⟩) _ (by kernel_rfl) ?_
        refine W_gh ?_
        refine W_reg ?_
        refine O_ps 2 (by kernel_rfl) ?_
        refine O_nil ?_
        refine Gh_end (s1 := ⟨⟨37, [(1, .int .i64 a1), (3, .pown 0 1 0 0), (8, .int .u64 (orI .u64 s1.2 v6)), (11, .int .i64 a2), (12, .int .i64 (addI .i64 s1.1 1))]⟩, [.live .norm 2 [[.int .i64 a0.Actuators, .ro (a0.Steps.map cSStep)]]]⟩) _ (by kernel_rfl) ?_
        refine Gh_end (s1 := ⟨⟨37, [(1, .int .i64 a1), (3, .pown 0 1 0 0), (8, .int .u64 (orI .u64 s1.2 v6)), (11, .int .i64 a2), (12, .int .i64 (addI .i64 s1.1 1))]⟩, [.live .norm 2 [[.int .i64 a0.Actuators, .ro (a0.Steps.map cSStep)]]]⟩) _ (by kernel_rfl) ?_
        replace h := Option.some.inj h; subst h
        exact ⟨_, rfl, by kernel_rfl⟩
    · replace h := fork_f c3 h
      refine W_exit ?_
      refine X_hit ?_
      refine Gh_end (s1 := ⟨⟨37, [(1, .int .i64 a1), (8, .int .u64 s1.2)]⟩, [.live .norm 2 [[.int .i64 a0.Actuators, .ro (a0.Steps.map cSStep)]]]⟩) _ (by kernel_rfl) ?_
      replace h := Option.some.inj h; subst h
      exact ⟨_, rfl, by kernel_rfl⟩
  · refine W_seq ?_
    refine W_gh ?_
    refine W_reg ?_
    refine O_ps 3 (by kernel_rfl) ?_
    refine O_nil ?_
    refine Gh_end (s1 := ⟨⟨37, [(1, .int .i64 a1), (6, .int .u64 w2), (7, .bool true)]⟩, [.live .norm 2 [[.int .i64 a0.Actuators, .ro (a0.Steps.map cSStep)]]]⟩) _ (by kernel_rfl) ?_
    refine W_ret ?_
    replace h := Option.some.inj h; subst h
    exact Fin_free (l := [.int .u64 w2, .bool true]) (by kernel_rfl) (by kernel_rfl) rfl

theorem p39 (a0 : SSequence) (a1 : Int) (r : (List Int)) (h : m39 a0 a1 = some r) : Pt E0 hp 39 [.agg (cSSequence a0), .int .i64 a1] (.ro (r.map cI_i64)) := by
  unfold m39 at h
  refine Pt_W (fn39) rfl (by decide) ?_
  refine W_seq ?_
  refine W_gh ?_
  refine W_reg ?_
  refine O_ps 2 (by kernel_rfl) ?_
  refine O_nil ?_
  refine Gh_end (s1 := ⟨⟨43, [(1, .int .i64 a1), (2, .pown 0 1 0 0)]⟩, [.live .norm 2 [[.int .i64 a0.Actuators, .ro (a0.Steps.map cSStep)]]]⟩) _ (by kernel_rfl) ?_
  refine W_seq ?_
  refine W_gh ?_
  refine W_reg ?_
  refine O_ps 3 (by kernel_rfl) ?_
  refine O_nil ?_
  refine Gh_one (s1 := ⟨⟨43, [(1, .int .i64 a1), (2, .pown 0 1 0 0), (5, .own 1 1 0 1)]⟩, [.live .norm 2 [[.int .i64 a0.Actuators, .ro (a0.Steps.map cSStep)]], .live .norm 1 (([a1] : List Int).map cI_i64)]⟩) (by kernel_rfl) ?_
  refine Gh_trunc0 (by kernel_rfl) ?_
  refine Gh_nil ?_
  refine W_seq ?_
  refine W_seq ?_
  refine W_reg ?_
  refine O_ps 2 (by kernel_rfl) ?_
  refine O_nil ?_
  refine W_loopS (fun s1 : (List Int) × Int × Int => ⟨⟨43, [(1, .int .i64 a1), (2, .pown 0 1 0 0), (5, .own 1 s1.1.length 0 s1.1.length), (6, .int .i64 s1.2.1), (7, .int .i64 s1.2.2)]⟩, [.live .norm 2 [[.int .i64 a0.Actuators, .ro (a0.Steps.map cSStep)]], .live .norm 1 (s1.1.map cI_i64)]⟩) (fun w2 : (List Int) => ⟨⟨43, [(1, .int .i64 a1), (5, .own 1 w2.length 0 w2.length)]⟩, [.live .norm 2 [[.int .i64 a0.Actuators, .ro (a0.Steps.map cSStep)]], .live .norm 1 (w2.map cI_i64)]⟩) h (by kernel_rfl) (fun s1 c h => ?_) (fun w2 e_w2 h => ?_)
  · refine W_gh ?_
    refine W_seq ?_
    refine W_seq ?_
    refine W_gh ?_
    refine W_reg ?_
    refine O_ps 3 (by kernel_rfl) ?_
    refine O_len (l := a0.Steps) cSStep (by kernel_rfl) (by kernel_rfl) ?_
    refine O_ps 1 (by kernel_rfl) ?_
    refine O_nil ?_
    refine Gh_end (s1 := ⟨⟨43, [(1, .int .i64 a1), (2, .pown 0 1 0 0), (5, .own 1 s1.1.length 0 s1.1.length), (6, .int .i64 s1.2.1), (7, .int .i64 s1.2.2), (16, .bool (decide (s1.2.2 < (a0.Steps.length : Int))))]⟩, [.live .norm 2 [[.int .i64 a0.Actuators, .ro (a0.Steps.map cSStep)]], .live .norm 1 (s1.1.map cI_i64)]⟩) _ (by kernel_rfl) ?_
    refine W_gh ?_
    refine W_cond (c := (decide (s1.2.2 < (a0.Steps.length : Int)))) (by kernel_rfl) (fun c3 => ?_) (fun c3 => ?_)
    · replace h := fork_t c3 h
      refine W_skip ?_
      refine Gh_end (s1 := ⟨⟨43, [(1, .int .i64 a1), (2, .pown 0 1 0 0), (5, .own 1 s1.1.length 0 s1.1.length), (6, .int .i64 s1.2.1), (7, .int .i64 s1.2.2)]⟩, [.live .norm 2 [[.int .i64 a0.Actuators, .ro (a0.Steps.map cSStep)]], .live .norm 1 (s1.1.map cI_i64)]⟩) _ (by kernel_rfl) ?_
      refine W_seq ?_
      refine W_gh ?_
      refine W_block ?_
      refine W_seq ?_
      refine W_seq ?_
      refine W_gh ?_
      refine W_draw ?_
      refine O_ps 5 (by kernel_rfl) ?_
      refine O_iadO (kd := .i64) (id := 1) (nl := .norm) cI_i64 h rfl (by kernel_rfl) (by kernel_rfl) (by kernel_rfl) (by kernel_rfl) (fun v4 e_v4 h => ?_)
      refine O_ldO (id := 1) (nl := .norm) (sz := 1) (o := 0) cI_i64 e_v4 rfl (by kernel_rfl) (by kernel_rfl) (by kernel_rfl) (w := .int .i64 v4) (by kernel_rfl) ?_
      refine O_ps 2 (by kernel_rfl) ?_
      refine O_call (fun v => .tup [.int .u64 v.1, .bool v.2]) h (.inr rfl) (ys := [.agg (cSSequence a0), .int .i64 v4, .int .i64 (addI .i64 s1.2.1 1)]) (fun _ e => p44 _ _ _ _ e) (by kernel_rfl) (by kernel_rfl) (bels_cons (okSSequence.bel _) (bels_cons rfl (bels_cons rfl rfl))) (fun v5 e_v5 h => ?_)
      refine O_ps 5 (by kernel_rfl) ?_
      refine O_nil ?_
      refine Gh_end (s1 := ⟨⟨43, [(1, .int .i64 a1), (2, .pown 0 1 0 0), (5, .own 1 s1.1.length 0 s1.1.length), (6, .int .i64 s1.2.1), (7, .int .i64 s1.2.2), (9, .bool v5.2)]⟩, [.live .norm 2 [[.int .i64 a0.Actuators, .ro (a0.Steps.map cSStep)]], .live .norm 1 (s1.1.map cI_i64)]⟩) _ (by kernel_rfl) ?_
      refine W_seq ?_
      refine W_gh ?_
      refine W_reg ?_
      refine O_ps 2 (by kernel_rfl) ?_
      refine O_nil ?_
      refine Gh_end (s1 := ⟨⟨43, [(1, .int .i64 a1), (2, .pown 0 1 0 0), (5, .own 1 s1.1.length 0 s1.1.length), (6, .int .i64 s1.2.1), (7, .int .i64 s1.2.2), (33, .bool (!v5.2))]⟩, [.live .norm 2 [[.int .i64 a0.Actuators, .ro (a0.Steps.map cSStep)]], .live .norm 1 (s1.1.map cI_i64)]⟩) _ (by kernel_rfl) ?_
      refine W_joinS (fun v : (List Int) × Int => ⟨⟨43, [(1, .int .i64 a1), (2, .pown 0 1 0 0), (5, .own 1 v.1.length 0 v.1.length), (6, .int .i64 v.2), (7, .int .i64 s1.2.2)]⟩, [.live .norm 2 [[.int .i64 a0.Actuators, .ro (a0.Steps.map cSStep)]], .live .norm 1 (v.1.map cI_i64)]⟩) h (fun w h => ?_) (fun w6 e_w6 h => ?_)
      · refine W_gh ?_
        refine W_cond (c := (!v5.2)) (by kernel_rfl) (fun c7 => ?_) (fun c7 => ?_)
        · replace h := fork_t c7 h
          refine W_seq ?_
          refine W_gh ?_
          refine W_reg ?_
          refine O_ps 5 (by kernel_rfl) ?_
          refine O_app (C := cI_i64) (id := 1) (nl := .norm) okI_i64 h rfl (by kernel_rfl) (by kernel_rfl) (by kernel_rfl) (by kernel_rfl) rfl (fun l8 e_l8 h => ?_)
          refine O_ps 1 (by kernel_rfl) ?_
          refine O_nil ?_
          refine Gh_one (s1 := ⟨⟨43, [(1, .int .i64 a1), (2, .pown 0 1 0 0), (5, .own 1 l8.length 0 l8.length), (6, .int .i64 s1.2.1), (7, .int .i64 s1.2.2), (33, .bool (!v5.2))]⟩, [.live .norm 2 [[.int .i64 a0.Actuators, .ro (a0.Steps.map cSStep)]], .live .norm 1 (l8.map cI_i64), .live .norm 1 (([(addI .i64 a1 s1.2.2)] : List Int).map cI_i64)]⟩) (by kernel_rfl) ?_
          refine Gh_at (s1 := ⟨⟨43, [(1, .int .i64 a1), (2, .pown 0 1 0 0), (5, .own 1 l8.length 0 l8.length), (6, .int .i64 s1.2.1), (7, .int .i64 s1.2.2), (33, .bool (!v5.2))]⟩, [.live .norm 2 [[.int .i64 a0.Actuators, .ro (a0.Steps.map cSStep)]], .live .norm 1 (l8.map cI_i64), .live .norm 1 (([(addI .i64 a1 s1.2.2)] : List Int).map cI_i64)]⟩) (by kernel_rfl) ?_
          refine Gh_trunc (s1 := ⟨⟨43, [(1, .int .i64 a1), (2, .pown 0 1 0 0), (5, .own 1 l8.length 0 l8.length), (6, .int .i64 s1.2.1), (7, .int .i64 s1.2.2), (33, .bool (!v5.2))]⟩, [.live .norm 2 [[.int .i64 a0.Actuators, .ro (a0.Steps.map cSStep)]], .live .norm 1 (l8.map cI_i64)]⟩) (by kernel_rfl) (tb_free rfl (tb_ref rfl (tb_ref rfl (tb_free rfl (tb_free rfl (tb_free rfl rfl)))))) (H1 := [.live .norm 2 [[.int .i64 a0.Actuators, .ro (a0.Steps.map cSStep)]], .live .norm 1 (l8.map cI_i64)]) (by kernel_rfl) (ob_boxn (bn_free rfl (bn_free (ro_bel okSStep.bel _) rfl)) (ob_list okI_i64.bel rfl)) (by kernel_rfl) ?_
          refine Gh_nil ?_
          refine W_reg ?_
          refine O_ps 1 (by kernel_rfl) ?_
          refine O_nil ?_
          refine Gh_one (s1 := ⟨⟨43, [(1, .int .i64 a1), (2, .pown 0 1 0 0), (5, .own 1 l8.length 0 l8.length), (6, .int .i64 0), (7, .int .i64 s1.2.2)]⟩, [.live .norm 2 [[.int .i64 a0.Actuators, .ro (a0.Steps.map cSStep)]], .live .norm 1 (l8.map cI_i64)]⟩) (by kernel_rfl) ?_
          refine Gh_trunc0 (by kernel_rfl) ?_
          refine Gh_nil ?_
          replace h := Option.some.inj h; subst h
          show _ = _
          kernel_rfl
        · replace h := fork_f c7 h
          refine W_skip ?_
          refine Gh_one (s1 := ⟨⟨43, [(1, .int .i64 a1), (2, .pown 0 1 0 0), (5, .own 1 s1.1.length 0 s1.1.length), (6, .int .i64 s1.2.1), (7, .int .i64 s1.2.2)]⟩, [.live .norm 2 [[.int .i64 a0.Actuators, .ro (a0.Steps.map cSStep)]], .live .norm 1 (s1.1.map cI_i64)]⟩) (by kernel_rfl) ?_
          refine Gh_trunc0 (by kernel_rfl) ?_
          refine Gh_nil ?_
          replace h := Option.some.inj h; subst h
          show _ = _
          kernel_rfl
      · refine W_gh ?_
        refine W_reg ?_
        refine O_ps 3 (by kernel_rfl) ?_
        refine O_nil ?_
        refine Gh_end (s1 := ⟨⟨43, [(1, .int .i64 a1), (2, .pown 0 1 0 0), (5, .own 1 w6.1.length 0 w6.1.length), (6, .int .i64 (addI .i64 w6.2 1)), (7, .int .i64 s1.2.2)]⟩, [.live .norm 2 [[.int .i64 a0.Actuators, .ro (a0.Steps.map cSStep)]], .live .norm 1 (w6.1.map cI_i64)]⟩) _ (by kernel_rfl) ?_
        refine Gh_one (s1 := ⟨⟨43, [(1, .int .i64 a1), (2, .pown 0 1 0 0), (5, .own 1 w6.1.length 0 w6.1.length), (6, .int .i64 (addI .i64 w6.2 1)), (7, .int .i64 s1.2.2)]⟩, [.live .norm 2 [[.int .i64 a0.Actuators, .ro (a0.Steps.map cSStep)]], .live .norm 1 (w6.1.map cI_i64)]⟩) (by kernel_rfl) ?_
        refine Gh_trunc0 (by kernel_rfl) ?_
        refine Gh_nil ?_
        refine W_gh ?_
        refine W_reg ?_
        refine O_ps 3 (by kernel_rfl) ?_
        refine O_nil ?_
        refine Gh_end (s1 := ⟨⟨43, [(1, .int .i64 a1), (2, .pown 0 1 0 0), (5, .own 1 w6.1.length 0 w6.1.length), (6, .int .i64 (addI .i64 w6.2 1)), (7, .int .i64 (addI .i64 s1.2.2 1))]⟩, [.live .norm 2 [[.int .i64 a0.Actuators, .ro (a0.Steps.map cSStep)]], .live .norm 1 (w6.1.map cI_i64)]⟩) _ (by kernel_rfl) ?_
        refine Gh_one (s1 := ⟨⟨43, [(1, .int .i64 a1), (2, .pown 0 1 0 0), (5, .own 1 w6.1.length 0 w6.1.length), (6, .int .i64 (addI .i64 w6.2 1)), (7, .int .i64 (addI .i64 s1.2.2 1))]⟩, [.live .norm 2 [[.int .i64 a0.Actuators, .ro (a0.Steps.map cSStep)]], .live .norm 1 (w6.1.map cI_i64)]⟩) (by kernel_rfl) ?_
        refine Gh_trunc0 (by kernel_rfl) ?_
        refine Gh_nil ?_
        replace h := Option.some.inj h; subst h
        exact ⟨_, rfl, by kernel_rfl⟩
    · replace h := fork_f c3 h
      refine W_exit ?_
      refine X_hit ?_
      refine Gh_one (s1 := ⟨⟨43, [(1, .int .i64 a1), (5, .own 1 s1.1.length 0 s1.1.length)]⟩, [.live .norm 2 [[.int .i64 a0.Actuators, .ro (a0.Steps.map cSStep)]], .live .norm 1 (s1.1.map cI_i64)]⟩) (by kernel_rfl) ?_
      refine Gh_trunc0 (by kernel_rfl) ?_
      refine Gh_nil ?_
      replace h := Option.some.inj h; subst h
      exact ⟨_, rfl, by kernel_rfl⟩
  · refine W_seq ?_
    refine W_gh ?_
    refine W_reg ?_
    refine O_ps 2 (by kernel_rfl) ?_
    refine O_nil ?_
    refine Gh_end (s1 := ⟨⟨43, [(1, .int .i64 a1), (4, .own 1 w2.length 0 w2.length)]⟩, [.live .norm 2 [[.int .i64 a0.Actuators, .ro (a0.Steps.map cSStep)]], .live .norm 1 (w2.map cI_i64)]⟩) _ (by kernel_rfl) ?_
    refine W_ret ?_
    replace h := Option.some.inj h; subst h
    exact Fin_pk (l := [.own 1 w2.length 0 w2.length]) (by kernel_rfl) (pk_own (d := 5) (id := 1) (nl := .norm) (sz := 1) (l := w2) okI_i64.bel (by kernel_rfl) rfl)

theorem p16 (a0 : SSequence) (r : ((List Int) × Int)) (h : m16 a0 = some r) : Pt E0 hp 16 [.agg (cSSequence a0)] (.tup [.ro (r.1.map cI_i64), .int .i64 r.2]) := by
  unfold m16 at h
  refine Pt_W (fn16) rfl (by decide) ?_
  refine W_seq ?_
  refine W_gh ?_
  refine W_reg ?_
  refine O_ps 3 (by kernel_rfl) ?_
  refine O_nil ?_
  refine Gh_end (s1 := ⟨⟨12, [(1, .pown 0 1 0 0)]⟩, [.live .norm 2 [[.int .i64 a0.Actuators, .ro (a0.Steps.map cSStep)]]]⟩) _ (by kernel_rfl) ?_
  refine W_seq ?_
  refine W_seq ?_
  refine W_gh ?_
  refine W_reg ?_
  refine O_ps 1 (by kernel_rfl) ?_
  refine O_call (fun v => .int .i64 v) h (.inr rfl) (ys := [.agg (cSSequence a0)]) (fun _ e => p35 _ _ e) (by kernel_rfl) (by kernel_rfl) (bels_cons (okSSequence.bel _) rfl) (fun v1 e_v1 h => ?_)
  refine O_ps 1 (by kernel_rfl) ?_
  refine O_nil ?_
  refine Gh_end (s1 := ⟨⟨12, [(1, .pown 0 1 0 0), (4, .int .i64 v1)]⟩, [.live .norm 2 [[.int .i64 a0.Actuators, .ro (a0.Steps.map cSStep)]]]⟩) _ (by kernel_rfl) ?_
  refine W_seq ?_
  refine W_gh ?_
  refine W_reg ?_
  refine O_ps 2 (by kernel_rfl) ?_
  refine O_nil ?_
  refine Gh_end (s1 := ⟨⟨12, [(1, .pown 0 1 0 0), (4, .int .i64 v1), (8, .bool (v1 != 0))]⟩, [.live .norm 2 [[.int .i64 a0.Actuators, .ro (a0.Steps.map cSStep)]]]⟩) _ (by kernel_rfl) ?_
  refine W_gh ?_
  refine W_cond (c := (v1 != 0)) (by kernel_rfl) (fun c2 => ?_) (fun c2 => ?_)
  · replace h := fork_t c2 h
    refine W_seq ?_
    refine W_gh ?_
    refine W_reg ?_
    refine O_ps 3 (by kernel_rfl) ?_
    refine O_nil ?_
    refine Gh_end (s1 := ⟨⟨12, [(1, .pown 0 1 0 0), (2, .ro (([] : List Int).map cI_i64)), (3, .int .i64 v1), (8, .bool (v1 != 0))]⟩, [.live .norm 2 [[.int .i64 a0.Actuators, .ro (a0.Steps.map cSStep)]]]⟩) _ (by kernel_rfl) ?_
    refine W_ret ?_
    replace h := Option.some.inj h; subst h
    exact Fin_free (l := [.ro (([] : List Int).map cI_i64), .int .i64 v1]) (by kernel_rfl) (by kernel_rfl) (bels_cons (ro_bel okI_i64.bel _) (bels_cons rfl rfl))
  · replace h := fork_f c2 h
    refine W_skip ?_
    refine Gh_end (s1 := ⟨⟨12, [(1, .pown 0 1 0 0)]⟩, [.live .norm 2 [[.int .i64 a0.Actuators, .ro (a0.Steps.map cSStep)]]]⟩) _ (by kernel_rfl) ?_
    refine W_seq ?_
    refine W_gh ?_
    refine W_reg ?_
    refine O_ps 1 (by kernel_rfl) ?_
    refine O_call (fun v => .ro (v.map cI_i64)) h (.inr rfl) (ys := [.agg (cSSequence a0), .int .i64 0]) (fun _ e => p39 _ _ _ e) (by kernel_rfl) (by kernel_rfl) (bels_cons (okSSequence.bel _) (bels_cons rfl rfl)) (fun v3 e_v3 h => ?_)
    refine O_ps 2 (by kernel_rfl) ?_
    refine O_nil ?_
    refine Gh_end (s1 := ⟨⟨12, [(2, .ro (v3.map cI_i64)), (3, .int .i64 0)]⟩, [.live .norm 2 [[.int .i64 a0.Actuators, .ro (a0.Steps.map cSStep)]]]⟩) _ (by kernel_rfl) ?_
    refine W_ret ?_
    replace h := Option.some.inj h; subst h
    exact Fin_free (l := [.ro (v3.map cI_i64), .int .i64 0]) (by kernel_rfl) (by kernel_rfl) (bels_cons (ro_bel okI_i64.bel _) (bels_cons rfl rfl))

theorem p18 (a0 : (List Int)) (a1 : (List Int)) (r : Bool) (h : m18 a0 a1 = some r) : Pt E0 hp 18 [.ro (a0.map cI_i64), .ro (a1.map cI_i64)] (.bool r) := by
  unfold m18 at h
  refine Pt_W (fn18) rfl (by decide) ?_
  refine W_seq ?_
  refine W_gh ?_
  refine W_reg ?_
  refine O_ps 1 (by kernel_rfl) ?_
  refine O_nil ?_
  refine Gh_end (s1 := ⟨⟨26, [(0, .ro (a0.map cI_i64)), (1, .ro (a1.map cI_i64))]⟩, []⟩) _ (by kernel_rfl) ?_
  refine W_seq ?_
  refine W_seq ?_
  refine W_gh ?_
  refine W_reg ?_
  refine O_ps 1 (by kernel_rfl) ?_
  refine O_len (l := a0) cI_i64 (by kernel_rfl) (by kernel_rfl) ?_
  refine O_ps 1 (by kernel_rfl) ?_
  refine O_len (l := a1) cI_i64 (by kernel_rfl) (by kernel_rfl) ?_
  refine O_ps 1 (by kernel_rfl) ?_
  refine O_nil ?_
  refine Gh_end (s1 := ⟨⟨26, [(0, .ro (a0.map cI_i64)), (1, .ro (a1.map cI_i64)), (10, .bool ((a0.length : Int) != (a1.length : Int)))]⟩, []⟩) _ (by kernel_rfl) ?_
  refine W_gh ?_
  refine W_cond (c := ((a0.length : Int) != (a1.length : Int))) (by kernel_rfl) (fun c1 => ?_) (fun c1 => ?_)
  · replace h := fork_t c1 h
    refine W_seq ?_
    refine W_reg ?_
    refine O_ps 1 (by kernel_rfl) ?_
    refine O_nil ?_
    refine W_ret ?_
    replace h := Option.some.inj h; subst h
    exact Fin_free (l := [.bool false]) (by kernel_rfl) (by kernel_rfl) rfl
  · replace h := fork_f c1 h
    refine W_skip ?_
    refine Gh_end (s1 := ⟨⟨26, [(0, .ro (a0.map cI_i64)), (1, .ro (a1.map cI_i64))]⟩, []⟩) _ (by kernel_rfl) ?_
    refine W_seq ?_
    refine W_seq ?_
    refine W_gh ?_
    refine W_reg ?_
    refine O_ps 1 (by kernel_rfl) ?_
    refine O_len (l := a0) cI_i64 (by kernel_rfl) (by kernel_rfl) ?_
    refine O_ps 1 (by kernel_rfl) ?_
    refine O_nil ?_
    refine Gh_end (s1 := ⟨⟨26, [(0, .ro (a0.map cI_i64)), (1, .ro (a1.map cI_i64)), (12, .int .i64 (a0.length : Int)), (13, .int .i64 0)]⟩, []⟩) _ (by kernel_rfl) ?_
    refine W_loop (fun s2 : Int => ⟨⟨26, [(0, .ro (a0.map cI_i64)), (1, .ro (a1.map cI_i64)), (12, .int .i64 (a0.length : Int)), (13, .int .i64 s2)]⟩, []⟩) (fun w3 : Unit => ⟨⟨26, [(0, .ro (a0.map cI_i64)), (1, .ro (a1.map cI_i64))]⟩, []⟩) h (by kernel_rfl) (fun s2 c h => ?_) (fun w3 h => ?_)
    · refine W_gh ?_
      refine W_seq ?_
      refine W_reg ?_
      refine O_ps 1 (by kernel_rfl) ?_
      refine O_nil ?_
      refine W_seq ?_
      refine W_gh ?_
      refine W_cond (c := (decide (s2 < (a0.length : Int)))) (by kernel_rfl) (fun c4 => ?_) (fun c4 => ?_)
      · replace h := fork_t c4 h
        refine W_skip ?_
        refine Gh_end (s1 := ⟨⟨26, [(0, .ro (a0.map cI_i64)), (1, .ro (a1.map cI_i64)), (12, .int .i64 (a0.length : Int)), (13, .int .i64 s2)]⟩, []⟩) _ (by kernel_rfl) ?_
        refine W_seq ?_
        refine W_gh ?_
        refine W_block ?_
        refine W_seq ?_
        refine W_gh ?_
        refine W_reg ?_
        refine O_ps 2 (by kernel_rfl) ?_
        refine O_nil ?_
        refine Gh_end (s1 := ⟨⟨26, [(0, .ro (a0.map cI_i64)), (1, .ro (a1.map cI_i64)), (5, .int .i64 s2), (12, .int .i64 (a0.length : Int)), (13, .int .i64 s2)]⟩, []⟩) _ (by kernel_rfl) ?_
        refine W_seq ?_
        refine W_gh ?_
        refine W_draw ?_
        refine O_ps 2 (by kernel_rfl) ?_
        refine O_idx (kd := .i64) cI_i64 h (fun _ => rfl) (by kernel_rfl) (by kernel_rfl) (by kernel_rfl) (fun v5 e_v5 h => ?_)
        refine O_ps 3 (by kernel_rfl) ?_
        refine O_idx (kd := .i64) cI_i64 h (fun _ => rfl) (by kernel_rfl) (by kernel_rfl) (by kernel_rfl) (fun v6 e_v6 h => ?_)
        refine O_ps 2 (by kernel_rfl) ?_
        refine O_nil ?_
        refine Gh_end (s1 := ⟨⟨26, [(0, .ro (a0.map cI_i64)), (1, .ro (a1.map cI_i64)), (12, .int .i64 (a0.length : Int)), (13, .int .i64 s2), (24, .bool (v5 != v6))]⟩, []⟩) _ (by kernel_rfl) ?_
        refine W_gh ?_
        refine W_cond (c := (v5 != v6)) (by kernel_rfl) (fun c7 => ?_) (fun c7 => ?_)
        · replace h := fork_t c7 h
          refine W_seq ?_
          refine W_reg ?_
          refine O_ps 1 (by kernel_rfl) ?_
          refine O_nil ?_
          refine W_ret ?_
          replace h := Option.some.inj h; subst h
          refine ⟨_, rfl, fun h => ?_⟩
          replace h := Option.some.inj h; subst h
          exact Fin_free (l := [.bool false]) (by kernel_rfl) (by kernel_rfl) rfl
        · replace h := fork_f c7 h
          refine W_skip ?_
          refine Gh_end (s1 := ⟨⟨26, [(0, .ro (a0.map cI_i64)), (1, .ro (a1.map cI_i64)), (12, .int .i64 (a0.length : Int)), (13, .int .i64 s2)]⟩, []⟩) _ (by kernel_rfl) ?_
          refine Gh_end (s1 := ⟨⟨26, [(0, .ro (a0.map cI_i64)), (1, .ro (a1.map cI_i64)), (12, .int .i64 (a0.length : Int)), (13, .int .i64 s2)]⟩, []⟩) _ (by kernel_rfl) ?_
          refine W_gh ?_
          refine W_reg ?_
          refine O_ps 2 (by kernel_rfl) ?_
          refine O_nil ?_
          refine Gh_end (s1 := ⟨⟨26, [(0, .ro (a0.map cI_i64)), (1, .ro (a1.map cI_i64)), (12, .int .i64 (a0.length : Int)), (13, .int .i64 (addI .i64 s2 1))]⟩, []⟩) _ (by kernel_rfl) ?_
          refine Gh_end (s1 := ⟨⟨26, [(0, .ro (a0.map cI_i64)), (1, .ro (a1.map cI_i64)), (12, .int .i64 (a0.length : Int)), (13, .int .i64 (addI .i64 s2 1))]⟩, []⟩) _ (by kernel_rfl) ?_
          replace h := Option.some.inj h; subst h
          exact ⟨_, rfl, by kernel_rfl⟩
      · replace h := fork_f c4 h
        refine W_exit ?_
        refine X_hit ?_
        refine Gh_end (s1 := ⟨⟨26, [(0, .ro (a0.map cI_i64)), (1, .ro (a1.map cI_i64))]⟩, []⟩) _ (by kernel_rfl) ?_
        replace h := Option.some.inj h; subst h
        exact ⟨_, rfl, by kernel_rfl⟩
    · refine W_seq ?_
      refine W_reg ?_
      refine O_ps 1 (by kernel_rfl) ?_
      refine O_nil ?_
      refine W_ret ?_
      replace h := Option.some.inj h; subst h
      exact Fin_free (l := [.bool true]) (by kernel_rfl) (by kernel_rfl) rfl

theorem p13 (a0 : SSequence) (a1 : (List (Int × Int))) (r : (Int × Int)) (h : m13 a0 a1 = some r) : Pt E0 hp 13 [.agg (cSSequence a0), .ro (a1.map (cP2 cI_i64))] (.tup [.int .i64 r.1, .int .i64 r.2]) := by
  unfold m13 at h
  refine Pt_W (fn13) rfl (by decide) ?_
  refine W_seq ?_
  refine W_gh ?_
  refine W_reg ?_
  refine O_ps 3 (by kernel_rfl) ?_
  refine O_nil ?_
  refine Gh_end (s1 := ⟨⟨85, [(1, .ro (a1.map (cP2 cI_i64))), (2, .pown 0 1 0 0)]⟩, [.live .norm 2 [[.int .i64 a0.Actuators, .ro (a0.Steps.map cSStep)]]]⟩) _ (by kernel_rfl) ?_
  refine W_seq ?_
  refine W_seq ?_
  refine W_gh ?_
  refine W_reg ?_
  refine O_ps 1 (by kernel_rfl) ?_
  refine O_call (fun v => .int .i64 v) h (.inr rfl) (ys := [.agg (cSSequence a0)]) (fun _ e => p35 _ _ e) (by kernel_rfl) (by kernel_rfl) (bels_cons (okSSequence.bel _) rfl) (fun v1 e_v1 h => ?_)
  refine O_ps 1 (by kernel_rfl) ?_
  refine O_nil ?_
  refine Gh_end (s1 := ⟨⟨85, [(1, .ro (a1.map (cP2 cI_i64))), (2, .pown 0 1 0 0), (6, .int .i64 v1)]⟩, [.live .norm 2 [[.int .i64 a0.Actuators, .ro (a0.Steps.map cSStep)]]]⟩) _ (by kernel_rfl) ?_
  refine W_seq ?_
  refine W_gh ?_
  refine W_reg ?_
  refine O_ps 2 (by kernel_rfl) ?_
  refine O_nil ?_
  refine Gh_end (s1 := ⟨⟨85, [(1, .ro (a1.map (cP2 cI_i64))), (2, .pown 0 1 0 0), (6, .int .i64 v1), (13, .bool (v1 != 0))]⟩, [.live .norm 2 [[.int .i64 a0.Actuators, .ro (a0.Steps.map cSStep)]]]⟩) _ (by kernel_rfl) ?_
  refine W_gh ?_
  refine W_cond (c := (v1 != 0)) (by kernel_rfl) (fun c2 => ?_) (fun c2 => ?_)
  · replace h := fork_t c2 h
    refine W_seq ?_
    refine W_gh ?_
    refine W_reg ?_
    refine O_ps 3 (by kernel_rfl) ?_
    refine O_nil ?_
    refine Gh_end (s1 := ⟨⟨85, [(1, .ro (a1.map (cP2 cI_i64))), (2, .pown 0 1 0 0), (4, .int .i64 0), (5, .int .i64 v1), (13, .bool (v1 != 0))]⟩, [.live .norm 2 [[.int .i64 a0.Actuators, .ro (a0.Steps.map cSStep)]]]⟩) _ (by kernel_rfl) ?_
    refine W_ret ?_
    replace h := Option.some.inj h; subst h
    exact Fin_free (l := [.int .i64 0, .int .i64 v1]) (by kernel_rfl) (by kernel_rfl) rfl
  · replace h := fork_f c2 h
    refine W_skip ?_
    refine Gh_end (s1 := ⟨⟨85, [(1, .ro (a1.map (cP2 cI_i64))), (2, .pown 0 1 0 0)]⟩, [.live .norm 2 [[.int .i64 a0.Actuators, .ro (a0.Steps.map cSStep)]]]⟩) _ (by kernel_rfl) ?_
    refine W_seq ?_
    refine W_seq ?_
    refine W_gh ?_
    refine W_reg ?_
    refine O_ps 1 (by kernel_rfl) ?_
    refine O_len (l := a1) (cP2 cI_i64) (by kernel_rfl) (by kernel_rfl) ?_
    refine O_ps 2 (by kernel_rfl) ?_
    refine O_len (l := a0.Steps) cSStep (by kernel_rfl) (by kernel_rfl) ?_
    refine O_ps 1 (by kernel_rfl) ?_
    refine O_nil ?_
    refine Gh_end (s1 := ⟨⟨85, [(1, .ro (a1.map (cP2 cI_i64))), (2, .pown 0 1 0 0), (20, .bool (decide ((a1.length : Int) > (a0.Steps.length : Int))))]⟩, [.live .norm 2 [[.int .i64 a0.Actuators, .ro (a0.Steps.map cSStep)]]]⟩) _ (by kernel_rfl) ?_
    refine W_gh ?_
    refine W_cond (c := (decide ((a1.length : Int) > (a0.Steps.length : Int)))) (by kernel_rfl) (fun c3 => ?_) (fun c3 => ?_)
    · replace h := fork_t c3 h
      refine W_seq ?_
      refine W_reg ?_
      refine O_ps 2 (by kernel_rfl) ?_
      refine O_nil ?_
      refine W_ret ?_
      replace h := Option.some.inj h; subst h
      exact Fin_free (l := [.int .i64 0, .int .i64 5]) (by kernel_rfl) (by kernel_rfl) rfl
    · replace h := fork_f c3 h
      refine W_skip ?_
      refine Gh_end (s1 := ⟨⟨85, [(1, .ro (a1.map (cP2 cI_i64))), (2, .pown 0 1 0 0)]⟩, [.live .norm 2 [[.int .i64 a0.Actuators, .ro (a0.Steps.map cSStep)]]]⟩) _ (by kernel_rfl) ?_
      refine W_seq ?_
      refine W_reg ?_
      refine O_ps 1 (by kernel_rfl) ?_
      refine O_nil ?_
      refine W_seq ?_
      refine W_seq ?_
      refine W_reg ?_
      refine O_ps 1 (by kernel_rfl) ?_
      refine O_len (l := a1) (cP2 cI_i64) (by kernel_rfl) (by kernel_rfl) ?_
      refine O_ps 1 (by kernel_rfl) ?_
      refine O_nil ?_
      refine W_loop (fun s4 : Int × Int => ⟨⟨85, [(1, .ro (a1.map (cP2 cI_i64))), (2, .pown 0 1 0 0), (7, .int .i64 s4.2), (21, .ro (a1.map (cP2 cI_i64))), (22, .int .i64 (a1.length : Int)), (23, .int .i64 s4.1)]⟩, [.live .norm 2 [[.int .i64 a0.Actuators, .ro (a0.Steps.map cSStep)]]]⟩) (fun w5 : Unit => ⟨⟨85, [(1, .ro (a1.map (cP2 cI_i64)))]⟩, [.live .norm 2 [[.int .i64 a0.Actuators, .ro (a0.Steps.map cSStep)]]]⟩) h (by kernel_rfl) (fun s4 c h => ?_) (fun w5 h => ?_)
      · refine W_gh ?_
        refine W_seq ?_
        refine W_reg ?_
        refine O_ps 1 (by kernel_rfl) ?_
        refine O_nil ?_
        refine W_seq ?_
        refine W_gh ?_
        refine W_cond (c := (decide (s4.1 < (a1.length : Int)))) (by kernel_rfl) (fun c6 => ?_) (fun c6 => ?_)
        · replace h := fork_t c6 h
          refine W_skip ?_
          refine Gh_end (s1 := ⟨⟨85, [(1, .ro (a1.map (cP2 cI_i64))), (2, .pown 0 1 0 0), (7, .int .i64 s4.2), (21, .ro (a1.map (cP2 cI_i64))), (22, .int .i64 (a1.length : Int)), (23, .int .i64 s4.1)]⟩, [.live .norm 2 [[.int .i64 a0.Actuators, .ro (a0.Steps.map cSStep)]]]⟩) _ (by kernel_rfl) ?_
          refine W_seq ?_
          refine W_gh ?_
          refine W_block ?_
          refine W_seq ?_
          refine W_gh ?_
          refine W_reg ?_
          refine O_ps 1 (by kernel_rfl) ?_
          refine O_idx (kd := .i64) (cP2 cI_i64) h (fun _ => rfl) (by kernel_rfl) (by kernel_rfl) (by kernel_rfl) (fun v7 e_v7 h => ?_)
          refine O_ps 4 (by kernel_rfl) ?_
          refine O_nil ?_
          refine Gh_end (s1 := ⟨⟨85, [(1, .ro (a1.map (cP2 cI_i64))), (2, .pown 0 1 0 0), (7, .int .i64 s4.2), (8, .int .i64 s4.1), (9, .pown 1 1 0 0), (21, .ro (a1.map (cP2 cI_i64))), (22, .int .i64 (a1.length : Int)), (23, .int .i64 s4.1)]⟩, [.live .norm 2 [[.int .i64 a0.Actuators, .ro (a0.Steps.map cSStep)]], .live .norm 2 [[.int .i64 v7.1, .int .i64 v7.2]]]⟩) _ (by kernel_rfl) ?_
          refine W_seq ?_
          refine W_gh ?_
          refine W_block ?_
          refine W_seq ?_
          refine W_cut ⟨⟨85, [(1, .ro (a1.map (cP2 cI_i64))), (2, .pown 0 1 0 0), (7, .int .i64 s4.2), (8, .int .i64 s4.1), (9, .pown 1 1 0 0), (21, .ro (a1.map (cP2 cI_i64))), (22, .int .i64 (a1.length : Int)), (23, .int .i64 s4.1), (28, .bool ((decide ((minI v7.1 v7.2) < 0)) || (decide ((maxI v7.1 v7.2) ≥ (a0.Steps.length : Int)))))]⟩, [.live .norm 2 [[.int .i64 a0.Actuators, .ro (a0.Steps.map cSStep)]], .live .norm 2 [[.int .i64 v7.1, .int .i64 v7.2]]]⟩ ?_ ?_
          · generalize e_g8 : ((decide ((minI v7.1 v7.2) < 0)) || (decide ((maxI v7.1 v7.2) ≥ (a0.Steps.length : Int)))) = g8
            refine W_gh ?_
            refine W_reg ?_
            refine O_ps 7 (by kernel_rfl) ?_
            refine O_fork (n := 35) (decide ((minI v7.1 v7.2) < 0)) (by kernel_rfl) (fun c9 => ?_) (fun c9 => ?_)
            · skip
              refine O_ps 11 (by kernel_rfl) ?_
              refine O_nil ?_
              refine Gh_end (s1 := ⟨⟨85, [(1, .ro (a1.map (cP2 cI_i64))), (2, .pown 0 1 0 0), (7, .int .i64 s4.2), (8, .int .i64 s4.1), (9, .pown 1 1 0 0), (21, .ro (a1.map (cP2 cI_i64))), (22, .int .i64 (a1.length : Int)), (23, .int .i64 s4.1), (28, .bool true)]⟩, [.live .norm 2 [[.int .i64 a0.Actuators, .ro (a0.Steps.map cSStep)]], .live .norm 2 [[.int .i64 v7.1, .int .i64 v7.2]]]⟩) _ (by kernel_rfl) ?_
              have q := e_g8; simp only [c2, c3, c6, c9, cond_true, cond_false, Bool.true_and, Bool.false_and, Bool.true_or, Bool.false_or] at q; subst q
              show _ = _
              kernel_rfl
            · skip
              refine O_ps 7 (by kernel_rfl) ?_
              refine O_len (l := a0.Steps) cSStep (by kernel_rfl) (by kernel_rfl) ?_
              refine O_ps 3 (by kernel_rfl) ?_
              refine O_nil ?_
              refine Gh_end (s1 := ⟨⟨85, [(1, .ro (a1.map (cP2 cI_i64))), (2, .pown 0 1 0 0), (7, .int .i64 s4.2), (8, .int .i64 s4.1), (9, .pown 1 1 0 0), (21, .ro (a1.map (cP2 cI_i64))), (22, .int .i64 (a1.length : Int)), (23, .int .i64 s4.1), (28, .bool (decide ((maxI v7.1 v7.2) ≥ (a0.Steps.length : Int))))]⟩, [.live .norm 2 [[.int .i64 a0.Actuators, .ro (a0.Steps.map cSStep)]], .live .norm 2 [[.int .i64 v7.1, .int .i64 v7.2]]]⟩) _ (by kernel_rfl) ?_
              have q := e_g8; simp only [c2, c3, c6, c9, cond_true, cond_false, Bool.true_and, Bool.false_and, Bool.true_or, Bool.false_or] at q; subst q
              show _ = _
              kernel_rfl
          · refine W_gh ?_
            refine W_cond (c := ((decide ((minI v7.1 v7.2) < 0)) || (decide ((maxI v7.1 v7.2) ≥ (a0.Steps.length : Int))))) (by kernel_rfl) (fun c10 => ?_) (fun c10 => ?_)
            · replace h := fork_t c10 h
              refine W_seq ?_
              refine W_reg ?_
              refine O_ps 2 (by kernel_rfl) ?_
              refine O_nil ?_
              refine W_ret ?_
              replace h := Option.some.inj h; subst h
              refine ⟨_, rfl, fun h => ?_⟩
              replace h := Option.some.inj h; subst h
              exact Fin_free (l := [.int .i64 0, .int .i64 2]) (by kernel_rfl) (by kernel_rfl) rfl
            · replace h := fork_f c10 h
              refine W_seq ?_
              refine W_cut ⟨⟨85, [(1, .ro (a1.map (cP2 cI_i64))), (2, .pown 0 1 0 0), (9, .pown 1 1 0 0), (21, .ro (a1.map (cP2 cI_i64))), (22, .int .i64 (a1.length : Int)), (23, .int .i64 s4.1), (28, .bool ((decide ((minI v7.1 v7.2) < 0)) || (decide ((maxI v7.1 v7.2) ≥ (a0.Steps.length : Int))))), (46, .bool ((decide (v7.1 ≥ v7.2)) || ((decide (s4.1 > 0)) && (decide (v7.1 < s4.2)))))]⟩, [.live .norm 2 [[.int .i64 a0.Actuators, .ro (a0.Steps.map cSStep)]], .live .norm 2 [[.int .i64 v7.1, .int .i64 v7.2]]]⟩ ?_ ?_
              · generalize e_g11 : ((decide (v7.1 ≥ v7.2)) || ((decide (s4.1 > 0)) && (decide (v7.1 < s4.2)))) = g11
                refine W_gh ?_
                refine W_reg ?_
                refine O_ps 6 (by kernel_rfl) ?_
                refine O_fork (n := 52) (decide (v7.1 ≥ v7.2)) (by kernel_rfl) (fun c12 => ?_) (fun c12 => ?_)
                · skip
                  refine O_ps 10 (by kernel_rfl) ?_
                  refine O_nil ?_
                  refine Gh_end (s1 := ⟨⟨85, [(1, .ro (a1.map (cP2 cI_i64))), (2, .pown 0 1 0 0), (9, .pown 1 1 0 0), (21, .ro (a1.map (cP2 cI_i64))), (22, .int .i64 (a1.length : Int)), (23, .int .i64 s4.1), (28, .bool ((decide ((minI v7.1 v7.2) < 0)) || (decide ((maxI v7.1 v7.2) ≥ (a0.Steps.length : Int))))), (46, .bool true)]⟩, [.live .norm 2 [[.int .i64 a0.Actuators, .ro (a0.Steps.map cSStep)]], .live .norm 2 [[.int .i64 v7.1, .int .i64 v7.2]]]⟩) _ (by kernel_rfl) ?_
                  have q := e_g11; simp only [c2, c3, c6, c10, c12, cond_true, cond_false, Bool.true_and, Bool.false_and, Bool.true_or, Bool.false_or] at q; subst q
                  show _ = _
                  kernel_rfl
                · skip
                  refine O_ps 3 (by kernel_rfl) ?_
                  refine O_fork (n := 55) (decide (s4.1 > 0)) (by kernel_rfl) (fun c13 => ?_) (fun c13 => ?_)
                  · skip
                    refine O_ps 7 (by kernel_rfl) ?_
                    refine O_nil ?_
                    refine Gh_end (s1 := ⟨⟨85, [(1, .ro (a1.map (cP2 cI_i64))), (2, .pown 0 1 0 0), (9, .pown 1 1 0 0), (21, .ro (a1.map (cP2 cI_i64))), (22, .int .i64 (a1.length : Int)), (23, .int .i64 s4.1), (28, .bool ((decide ((minI v7.1 v7.2) < 0)) || (decide ((maxI v7.1 v7.2) ≥ (a0.Steps.length : Int))))), (46, .bool (decide (v7.1 < s4.2)))]⟩, [.live .norm 2 [[.int .i64 a0.Actuators, .ro (a0.Steps.map cSStep)]], .live .norm 2 [[.int .i64 v7.1, .int .i64 v7.2]]]⟩) _ (by kernel_rfl) ?_
                    have q := e_g11; simp only [c2, c3, c6, c10, c12, c13, cond_true, cond_false, Bool.true_and, Bool.false_and, Bool.true_or, Bool.false_or] at q; subst q
                    show _ = _
                    kernel_rfl
                  · skip
                    refine O_ps 7 (by kernel_rfl) ?_
                    refine O_nil ?_
                    refine Gh_end (s1 := ⟨⟨85, [(1, .ro (a1.map (cP2 cI_i64))), (2, .pown 0 1 0 0), (9, .pown 1 1 0 0), (21, .ro (a1.map (cP2 cI_i64))), (22, .int .i64 (a1.length : Int)), (23, .int .i64 s4.1), (28, .bool ((decide ((minI v7.1 v7.2) < 0)) || (decide ((maxI v7.1 v7.2) ≥ (a0.Steps.length : Int))))), (46, .bool false)]⟩, [.live .norm 2 [[.int .i64 a0.Actuators, .ro (a0.Steps.map cSStep)]], .live .norm 2 [[.int .i64 v7.1, .int .i64 v7.2]]]⟩) _ (by kernel_rfl) ?_
                    have q := e_g11; simp only [c2, c3, c6, c10, c12, c13, cond_true, cond_false, Bool.true_and, Bool.false_and, Bool.true_or, Bool.false_or] at q; subst q
                    show _ = _
                    kernel_rfl
              · refine W_gh ?_
                refine W_cond (c := ((decide (v7.1 ≥ v7.2)) || ((decide (s4.1 > 0)) && (decide (v7.1 < s4.2))))) (by kernel_rfl) (fun c14 => ?_) (fun c14 => ?_)
                · replace h := fork_t c14 h
                  refine W_seq ?_
                  refine W_reg ?_
                  refine O_ps 2 (by kernel_rfl) ?_
                  refine O_nil ?_
                  refine W_ret ?_
                  replace h := Option.some.inj h; subst h
                  refine ⟨_, rfl, fun h => ?_⟩
                  replace h := Option.some.inj h; subst h
                  exact Fin_free (l := [.int .i64 0, .int .i64 9]) (by kernel_rfl) (by kernel_rfl) rfl
                · replace h := fork_f c14 h
                  refine W_seq ?_
                  refine W_gh ?_
                  refine W_draw ?_
                  refine O_ps 4 (by kernel_rfl) ?_
                  refine O_idx (kd := .i64) cSStep h (fun _ => rfl) (by kernel_rfl) (by kernel_rfl) (by kernel_rfl) (fun v15 e_v15 h => ?_)
                  refine O_ps 1 (by kernel_rfl) ?_
                  refine O_call (fun v => .int .u64 v) h (.inr rfl) (ys := [.agg (cSStep v15)]) (fun _ e => p36 _ _ e) (by kernel_rfl) (by kernel_rfl) (bels_cons (okSStep.bel _) rfl) (fun v16 e_v16 h => ?_)
                  refine O_ps 4 (by kernel_rfl) ?_
                  refine O_idx (kd := .i64) cSStep h (fun _ => rfl) (by kernel_rfl) (by kernel_rfl) (by kernel_rfl) (fun v17 e_v17 h => ?_)
                  refine O_ps 1 (by kernel_rfl) ?_
                  refine O_call (fun v => .int .u64 v) h (.inr rfl) (ys := [.agg (cSStep v17)]) (fun _ e => p36 _ _ e) (by kernel_rfl) (by kernel_rfl) (bels_cons (okSStep.bel _) rfl) (fun v18 e_v18 h => ?_)
                  refine O_ps 3 (by kernel_rfl) ?_
                  refine O_nil ?_
                  refine Gh_end (s1 := ⟨⟨85, [(1, .ro (a1.map (cP2 cI_i64))), (2, .pown 0 1 0 0), (9, .pown 1 1 0 0), (21, .ro (a1.map (cP2 cI_i64))), (22, .int .i64 (a1.length : Int)), (23, .int .i64 s4.1), (28, .bool ((decide ((minI v7.1 v7.2) < 0)) || (decide ((maxI v7.1 v7.2) ≥ (a0.Steps.length : Int))))), (46, .bool ((decide (v7.1 ≥ v7.2)) || ((decide (s4.1 > 0)) && (decide (v7.1 < s4.2))))), (62, .bool ((andI .u64 v16 v18) == 0))]⟩, [.live .norm 2 [[.int .i64 a0.Actuators, .ro (a0.Steps.map cSStep)]], .live .norm 2 [[.int .i64 v7.1, .int .i64 v7.2]]]⟩) _ (by kernel_rfl) ?_
                  refine W_gh ?_
                  refine W_cond (c := ((andI .u64 v16 v18) == 0)) (by kernel_rfl) (fun c19 => ?_) (fun c19 => ?_)
                  · replace h := fork_t c19 h
                    refine W_seq ?_
                    refine W_reg ?_
                    refine O_ps 2 (by kernel_rfl) ?_
                    refine O_nil ?_
                    refine W_ret ?_
                    replace h := Option.some.inj h; subst h
                    refine ⟨_, rfl, fun h => ?_⟩
                    replace h := Option.some.inj h; subst h
                    exact Fin_free (l := [.int .i64 0, .int .i64 15]) (by kernel_rfl) (by kernel_rfl) rfl
                  · replace h := fork_f c19 h
                    refine W_skip ?_
                    refine Gh_end (s1 := ⟨⟨85, [(1, .ro (a1.map (cP2 cI_i64))), (2, .pown 0 1 0 0), (9, .pown 1 1 0 0), (21, .ro (a1.map (cP2 cI_i64))), (22, .int .i64 (a1.length : Int)), (23, .int .i64 s4.1), (28, .bool ((decide ((minI v7.1 v7.2) < 0)) || (decide ((maxI v7.1 v7.2) ≥ (a0.Steps.length : Int))))), (46, .bool ((decide (v7.1 ≥ v7.2)) || ((decide (s4.1 > 0)) && (decide (v7.1 < s4.2)))))]⟩, [.live .norm 2 [[.int .i64 a0.Actuators, .ro (a0.Steps.map cSStep)]], .live .norm 2 [[.int .i64 v7.1, .int .i64 v7.2]]]⟩) _ (by kernel_rfl) ?_
                    refine Gh_end (s1 := ⟨⟨85, [(1, .ro (a1.map (cP2 cI_i64))), (2, .pown 0 1 0 0), (9, .pown 1 1 0 0), (21, .ro (a1.map (cP2 cI_i64))), (22, .int .i64 (a1.length : Int)), (23, .int .i64 s4.1), (28, .bool ((decide ((minI v7.1 v7.2) < 0)) || (decide ((maxI v7.1 v7.2) ≥ (a0.Steps.length : Int)))))]⟩, [.live .norm 2 [[.int .i64 a0.Actuators, .ro (a0.Steps.map cSStep)]], .live .norm 2 [[.int .i64 v7.1, .int .i64 v7.2]]]⟩) _ (by kernel_rfl) ?_
                    refine Gh_end (s1 := ⟨⟨85, [(1, .ro (a1.map (cP2 cI_i64))), (2, .pown 0 1 0 0), (9, .pown 1 1 0 0), (21, .ro (a1.map (cP2 cI_i64))), (22, .int .i64 (a1.length : Int)), (23, .int .i64 s4.1)]⟩, [.live .norm 2 [[.int .i64 a0.Actuators, .ro (a0.Steps.map cSStep)]], .live .norm 2 [[.int .i64 v7.1, .int .i64 v7.2]]]⟩) _ (by kernel_rfl) ?_
                    refine Gh_end (s1 := ⟨⟨85, [(1, .ro (a1.map (cP2 cI_i64))), (2, .pown 0 1 0 0), (9, .pown 1 1 0 0), (21, .ro (a1.map (cP2 cI_i64))), (22, .int .i64 (a1.length : Int)), (23, .int .i64 s4.1)]⟩, [.live .norm 2 [[.int .i64 a0.Actuators, .ro (a0.Steps.map cSStep)]], .live .norm 2 [[.int .i64 v7.1, .int .i64 v7.2]]]⟩) _ (by kernel_rfl) ?_
                    refine W_gh ?_
                    refine W_reg ?_
                    refine O_ps 3 (by kernel_rfl) ?_
                    refine O_nil ?_
                    refine Gh_end (s1 := ⟨⟨85, [(1, .ro (a1.map (cP2 cI_i64))), (2, .pown 0 1 0 0), (7, .int .i64 v7.2), (21, .ro (a1.map (cP2 cI_i64))), (22, .int .i64 (a1.length : Int)), (23, .int .i64 s4.1)]⟩, [.live .norm 2 [[.int .i64 a0.Actuators, .ro (a0.Steps.map cSStep)]], .live .norm 2 [[.int .i64 v7.1, .int .i64 v7.2]]]⟩) _ (by kernel_rfl) ?_
                    refine Gh_one (s1 := ⟨⟨85, [(1, .ro (a1.map (cP2 cI_i64))), (2, .pown 0 1 0 0), (7, .int .i64 v7.2), (21, .ro (a1.map (cP2 cI_i64))), (22, .int .i64 (a1.length : Int)), (23, .int .i64 s4.1)]⟩, [.live .norm 2 [[.int .i64 a0.Actuators, .ro (a0.Steps.map cSStep)]], .live .norm 2 [[.int .i64 v7.1, .int .i64 v7.2]]]⟩) (by kernel_rfl) ?_
                    refine Gh_at (s1 := ⟨⟨85, [(1, .ro (a1.map (cP2 cI_i64))), (2, .pown 0 1 0 0), (7, .int .i64 v7.2), (21, .ro (a1.map (cP2 cI_i64))), (22, .int .i64 (a1.length : Int)), (23, .int .i64 s4.1)]⟩, [.live .norm 2 [[.int .i64 a0.Actuators, .ro (a0.Steps.map cSStep)]], .live .norm 2 [[.int .i64 v7.1, .int .i64 v7.2]]]⟩) (by kernel_rfl) ?_
                    refine Gh_trunc (s1 := ⟨⟨85, [(1, .ro (a1.map (cP2 cI_i64))), (2, .pown 0 1 0 0), (7, .int .i64 v7.2), (21, .ro (a1.map (cP2 cI_i64))), (22, .int .i64 (a1.length : Int)), (23, .int .i64 s4.1)]⟩, [.live .norm 2 [[.int .i64 a0.Actuators, .ro (a0.Steps.map cSStep)]]]⟩) (by kernel_rfl) (tb_free (ro_bel (okP2 okI_i64).bel _) (tb_ref rfl (tb_free rfl (tb_free (ro_bel (okP2 okI_i64).bel _) (tb_free rfl (tb_free rfl rfl)))))) (H1 := [.live .norm 2 [[.int .i64 a0.Actuators, .ro (a0.Steps.map cSStep)]]]) (by kernel_rfl) (ob_boxn (bn_free rfl (bn_free (ro_bel okSStep.bel _) rfl)) rfl) (by kernel_rfl) ?_
                    refine Gh_nil ?_
                    refine W_gh ?_
                    refine W_reg ?_
                    refine O_ps 2 (by kernel_rfl) ?_
                    refine O_nil ?_
                    refine Gh_end (s1 := ⟨⟨85, [(1, .ro (a1.map (cP2 cI_i64))), (2, .pown 0 1 0 0), (7, .int .i64 v7.2), (21, .ro (a1.map (cP2 cI_i64))), (22, .int .i64 (a1.length : Int)), (23, .int .i64 (addI .i64 s4.1 1))]⟩, [.live .norm 2 [[.int .i64 a0.Actuators, .ro (a0.Steps.map cSStep)]]]⟩) _ (by kernel_rfl) ?_
                    refine Gh_one (s1 := ⟨⟨85, [(1, .ro (a1.map (cP2 cI_i64))), (2, .pown 0 1 0 0), (7, .int .i64 v7.2), (21, .ro (a1.map (cP2 cI_i64))), (22, .int .i64 (a1.length : Int)), (23, .int .i64 (addI .i64 s4.1 1))]⟩, [.live .norm 2 [[.int .i64 a0.Actuators, .ro (a0.Steps.map cSStep)]]]⟩) (by kernel_rfl) ?_
                    refine Gh_trunc0 (by kernel_rfl) ?_
                    refine Gh_nil ?_
                    replace h := Option.some.inj h; subst h
                    exact ⟨_, rfl, by kernel_rfl⟩
        · replace h := fork_f c6 h
          refine W_exit ?_
          refine X_hit ?_
          refine Gh_one (s1 := ⟨⟨85, [(1, .ro (a1.map (cP2 cI_i64)))]⟩, [.live .norm 2 [[.int .i64 a0.Actuators, .ro (a0.Steps.map cSStep)]]]⟩) (by kernel_rfl) ?_
          refine Gh_trunc0 (by kernel_rfl) ?_
          refine Gh_nil ?_
          replace h := Option.some.inj h; subst h
          exact ⟨_, rfl, by kernel_rfl⟩
      · refine W_seq ?_
        refine W_gh ?_
        refine W_reg ?_
        refine O_ps 1 (by kernel_rfl) ?_
        refine O_len (l := a1) (cP2 cI_i64) (by kernel_rfl) (by kernel_rfl) ?_
        refine O_ps 3 (by kernel_rfl) ?_
        refine O_nil ?_
        refine Gh_end (s1 := ⟨⟨85, [(4, .int .i64 (addI .i64 (a1.length : Int) 1)), (5, .int .i64 0)]⟩, [.live .norm 2 [[.int .i64 a0.Actuators, .ro (a0.Steps.map cSStep)]]]⟩) _ (by kernel_rfl) ?_
        refine W_ret ?_
        replace h := Option.some.inj h; subst h
        exact Fin_free (l := [.int .i64 (addI .i64 (a1.length : Int) 1), .int .i64 0]) (by kernel_rfl) (by kernel_rfl) rfl

theorem p12  (r : Bool) (h : m12  = some r) : Pt E0 hp 12 [] (.bool r) := by
  unfold m12 at h
  refine Pt_W (fn12) rfl (by decide) ?_
  refine W_seq ?_
  refine W_gh ?_
  refine W_reg ?_
  refine O_ps 1 (by kernel_rfl) ?_
  refine O_nil ?_
  refine Gh_end (s1 := ⟨⟨90, []⟩, []⟩) _ (by kernel_rfl) ?_
  refine W_seq ?_
  refine W_gh ?_
  refine W_reg ?_
  refine O_call (fun v => .agg [.int .i64 v.Actuators, .ro (v.Steps.map cSStep)]) h (.inr rfl) (ys := [.str [65, 43, 59, 32, 66, 43, 59, 32, 66, 45, 59, 32, 65, 45]]) (fun _ e => p34 _ _ e) (by kernel_rfl) (by kernel_rfl) (bels_cons rfl rfl) (fun v1 e_v1 h => ?_)
  refine O_call (fun v => .tup [.ro (v.1.map cI_i64), .int .i64 v.2]) h (.inr rfl) (ys := [.agg (cSSequence v1)]) (fun _ e => p16 _ _ e) (by kernel_rfl) (by kernel_rfl) (bels_cons (okSSequence.bel _) rfl) (fun v2 e_v2 h => ?_)
  refine O_ps 5 (by kernel_rfl) ?_
  refine O_nil ?_
  refine Gh_end (s1 := ⟨⟨90, [(1, .ro (v2.1.map cI_i64)), (2, .int .i64 v2.2)]⟩, []⟩) _ (by kernel_rfl) ?_
  refine W_seq ?_
  refine W_gh ?_
  refine W_reg ?_
  refine O_call (fun v => .agg [.int .i64 v.Actuators, .ro (v.Steps.map cSStep)]) h (.inr rfl) (ys := [.str [65, 43, 59, 32, 65, 45, 59, 32, 66, 43, 59, 32, 66, 45]]) (fun _ e => p34 _ _ e) (by kernel_rfl) (by kernel_rfl) (bels_cons rfl rfl) (fun v3 e_v3 h => ?_)
  refine O_call (fun v => .tup [.ro (v.1.map cI_i64), .int .i64 v.2]) h (.inr rfl) (ys := [.agg (cSSequence v3)]) (fun _ e => p16 _ _ e) (by kernel_rfl) (by kernel_rfl) (bels_cons (okSSequence.bel _) rfl) (fun v4 e_v4 h => ?_)
  refine O_ps 5 (by kernel_rfl) ?_
  refine O_nil ?_
  refine Gh_end (s1 := ⟨⟨90, [(1, .ro (v2.1.map cI_i64)), (2, .int .i64 v2.2), (3, .ro (v4.1.map cI_i64)), (4, .int .i64 v4.2)]⟩, []⟩) _ (by kernel_rfl) ?_
  refine W_seq ?_
  refine W_gh ?_
  refine W_reg ?_
  refine O_call (fun v => .agg [.int .i64 v.Actuators, .ro (v.Steps.map cSStep)]) h (.inr rfl) (ys := [.str [65, 43, 59, 32, 65, 45, 59, 32, 66, 43, 59, 32, 66, 45]]) (fun _ e => p34 _ _ e) (by kernel_rfl) (by kernel_rfl) (bels_cons rfl rfl) (fun v5 e_v5 h => ?_)
  refine O_call (fun v => .tup [.ro (v.1.map cI_i64), .int .i64 v.2]) h (.inr rfl) (ys := [.agg (cSSequence v5)]) (fun _ e => p19 _ _ e) (by kernel_rfl) (by kernel_rfl) (bels_cons (okSSequence.bel _) rfl) (fun v6 e_v6 h => ?_)
  refine O_ps 5 (by kernel_rfl) ?_
  refine O_nil ?_
  refine Gh_end (s1 := ⟨⟨90, [(1, .ro (v2.1.map cI_i64)), (2, .int .i64 v2.2), (3, .ro (v4.1.map cI_i64)), (4, .int .i64 v4.2), (5, .ro (v6.1.map cI_i64)), (6, .int .i64 v6.2)]⟩, []⟩) _ (by kernel_rfl) ?_
  refine W_seq ?_
  refine W_gh ?_
  refine W_reg ?_
  refine O_call (fun v => .agg [.int .i64 v.Actuators, .ro (v.Steps.map cSStep)]) h (.inr rfl) (ys := [.str [65, 43, 59, 32, 66, 43, 59, 32, 65, 45, 59, 32, 67, 43, 59, 32, 66, 45, 59, 32, 67, 45]]) (fun _ e => p34 _ _ e) (by kernel_rfl) (by kernel_rfl) (bels_cons rfl rfl) (fun v7 e_v7 h => ?_)
  refine O_call (fun v => .tup [.ro (v.1.map cI_i64), .int .i64 v.2]) h (.inr rfl) (ys := [.agg (cSSequence v7)]) (fun _ e => p16 _ _ e) (by kernel_rfl) (by kernel_rfl) (bels_cons (okSSequence.bel _) rfl) (fun v8 e_v8 h => ?_)
  refine O_ps 5 (by kernel_rfl) ?_
  refine O_nil ?_
  refine Gh_end (s1 := ⟨⟨90, [(1, .ro (v2.1.map cI_i64)), (2, .int .i64 v2.2), (3, .ro (v4.1.map cI_i64)), (4, .int .i64 v4.2), (5, .ro (v6.1.map cI_i64)), (6, .int .i64 v6.2), (7, .ro (v8.1.map cI_i64)), (8, .int .i64 v8.2)]⟩, []⟩) _ (by kernel_rfl) ?_
  refine W_seq ?_
  refine W_seq ?_
  refine W_joinS (fun v : Bool => ⟨⟨90, [(62, .bool v)]⟩, []⟩) h (fun w h => ?_) (fun w9 e_w9 h => ?_)
  · refine W_gh ?_
    refine W_reg ?_
    refine O_ps 9 (by kernel_rfl) ?_
    refine O_fork (n := 39) ((addI .i64 (addI .i64 (addI .i64 v2.2 v4.2) v6.2) v8.2) != 0) (by kernel_rfl) (fun c10 => ?_) (fun c10 => ?_)
    · replace h := fork_t c10 h
      refine O_ps 23 (by kernel_rfl) ?_
      refine O_nil ?_
      refine Gh_one (s1 := ⟨⟨90, [(62, .bool true)]⟩, []⟩) (by kernel_rfl) ?_
      refine Gh_trunc0 (by kernel_rfl) ?_
      refine Gh_nil ?_
      replace h := Option.some.inj h; subst h
      show _ = _
      kernel_rfl
    · replace h := fork_f c10 h
      refine O_ps 2 (by kernel_rfl) ?_
      refine O_lent (fun v => .bool v) h (.inr rfl) (ys := [.ro (v2.1.map cI_i64), .ro (([0, 2] : List Int).map cI_i64)]) (fun _ e => p18 _ _ _ e) (by kernel_rfl) (snaps_of (xs := [.ro (v2.1.map cI_i64), .own 0 2 0 2]) (by kernel_rfl) (mapO_cons (pk_free (ro_bel okI_i64.bel _)) (mapO_cons (pk_own (d := 5) (id := 0) (nl := .norm) (sz := 1) (l := ([0, 2] : List Int)) okI_i64.bel (by kernel_rfl) rfl) rfl))) (fun _ => rfl) (fun v11 e_v11 h => ?_)
      refine O_ps 3 (by kernel_rfl) ?_
      refine O_fork (n := 45) (!v11) (by kernel_rfl) (fun c12 => ?_) (fun c12 => ?_)
      · replace h := fork_t c12 h
        refine O_ps 17 (by kernel_rfl) ?_
        refine O_nil ?_
        refine Gh_one (s1 := ⟨⟨90, [(62, .bool true)]⟩, [.live .norm 1 (([0, 2] : List Int).map cI_i64)]⟩) (by kernel_rfl) ?_
        refine Gh_at (s1 := ⟨⟨90, [(62, .bool true)]⟩, [.live .norm 1 (([0, 2] : List Int).map cI_i64)]⟩) (by kernel_rfl) ?_
        refine Gh_trunc (s1 := ⟨⟨90, [(62, .bool true)]⟩, []⟩) (by kernel_rfl) (tb_free rfl rfl) (H1 := []) (by kernel_rfl) rfl (by kernel_rfl) ?_
        refine Gh_nil ?_
        replace h := Option.some.inj h; subst h
        show _ = _
        kernel_rfl
      · replace h := fork_f c12 h
        refine O_ps 2 (by kernel_rfl) ?_
        refine O_lent (fun v => .bool v) h (.inr rfl) (ys := [.ro (v4.1.map cI_i64), .ro (([0, 1, 3] : List Int).map cI_i64)]) (fun _ e => p18 _ _ _ e) (by kernel_rfl) (snaps_of (xs := [.ro (v4.1.map cI_i64), .own 1 3 0 3]) (by kernel_rfl) (mapO_cons (pk_free (ro_bel okI_i64.bel _)) (mapO_cons (pk_own (d := 5) (id := 1) (nl := .norm) (sz := 1) (l := ([0, 1, 3] : List Int)) okI_i64.bel (by kernel_rfl) rfl) rfl))) (fun _ => rfl) (fun v13 e_v13 h => ?_)
        refine O_ps 3 (by kernel_rfl) ?_
        refine O_fork (n := 51) (!v13) (by kernel_rfl) (fun c14 => ?_) (fun c14 => ?_)
        · replace h := fork_t c14 h
          refine O_ps 11 (by kernel_rfl) ?_
          refine O_nil ?_
          refine Gh_one (s1 := ⟨⟨90, [(62, .bool true)]⟩, [.live .norm 1 (([0, 2] : List Int).map cI_i64), .live .norm 1 (([0, 1, 3] : List Int).map cI_i64)]⟩) (by kernel_rfl) ?_
          refine Gh_at (s1 := ⟨⟨90, [(62, .bool true)]⟩, [.live .norm 1 (([0, 2] : List Int).map cI_i64), .live .norm 1 (([0, 1, 3] : List Int).map cI_i64)]⟩) (by kernel_rfl) ?_
          refine Gh_trunc (s1 := ⟨⟨90, [(62, .bool true)]⟩, []⟩) (by kernel_rfl) (tb_free rfl rfl) (H1 := []) (by kernel_rfl) rfl (by kernel_rfl) ?_
          refine Gh_nil ?_
          replace h := Option.some.inj h; subst h
          show _ = _
          kernel_rfl
        · replace h := fork_f c14 h
          refine O_ps 2 (by kernel_rfl) ?_
          refine O_lent (fun v => .bool v) h (.inr rfl) (ys := [.ro (v6.1.map cI_i64), .ro (([1, 3] : List Int).map cI_i64)]) (fun _ e => p18 _ _ _ e) (by kernel_rfl) (snaps_of (xs := [.ro (v6.1.map cI_i64), .own 2 2 0 2]) (by kernel_rfl) (mapO_cons (pk_free (ro_bel okI_i64.bel _)) (mapO_cons (pk_own (d := 5) (id := 2) (nl := .norm) (sz := 1) (l := ([1, 3] : List Int)) okI_i64.bel (by kernel_rfl) rfl) rfl))) (fun _ => rfl) (fun v15 e_v15 h => ?_)
          refine O_ps 3 (by kernel_rfl) ?_
          refine O_fork (n := 57) (!v15) (by kernel_rfl) (fun c16 => ?_) (fun c16 => ?_)
          · replace h := fork_t c16 h
            refine O_ps 5 (by kernel_rfl) ?_
            refine O_nil ?_
            refine Gh_one (s1 := ⟨⟨90, [(62, .bool true)]⟩, [.live .norm 1 (([0, 2] : List Int).map cI_i64), .live .norm 1 (([0, 1, 3] : List Int).map cI_i64), .live .norm 1 (([1, 3] : List Int).map cI_i64)]⟩) (by kernel_rfl) ?_
            refine Gh_at (s1 := ⟨⟨90, [(62, .bool true)]⟩, [.live .norm 1 (([0, 2] : List Int).map cI_i64), .live .norm 1 (([0, 1, 3] : List Int).map cI_i64), .live .norm 1 (([1, 3] : List Int).map cI_i64)]⟩) (by kernel_rfl) ?_
            refine Gh_trunc (s1 := ⟨⟨90, [(62, .bool true)]⟩, []⟩) (by kernel_rfl) (tb_free rfl rfl) (H1 := []) (by kernel_rfl) rfl (by kernel_rfl) ?_
            refine Gh_nil ?_
            replace h := Option.some.inj h; subst h
            show _ = _
            kernel_rfl
          · replace h := fork_f c16 h
            refine O_ps 2 (by kernel_rfl) ?_
            refine O_lent (fun v => .bool v) h (.inr rfl) (ys := [.ro (v8.1.map cI_i64), .ro (([0, 2, 5] : List Int).map cI_i64)]) (fun _ e => p18 _ _ _ e) (by kernel_rfl) (snaps_of (xs := [.ro (v8.1.map cI_i64), .own 3 3 0 3]) (by kernel_rfl) (mapO_cons (pk_free (ro_bel okI_i64.bel _)) (mapO_cons (pk_own (d := 5) (id := 3) (nl := .norm) (sz := 1) (l := ([0, 2, 5] : List Int)) okI_i64.bel (by kernel_rfl) rfl) rfl))) (fun _ => rfl) (fun v17 e_v17 h => ?_)
            refine O_ps 2 (by kernel_rfl) ?_
            refine O_nil ?_
            refine Gh_one (s1 := ⟨⟨90, [(62, .bool (!v17))]⟩, [.live .norm 1 (([0, 2] : List Int).map cI_i64), .live .norm 1 (([0, 1, 3] : List Int).map cI_i64), .live .norm 1 (([1, 3] : List Int).map cI_i64), .live .norm 1 (([0, 2, 5] : List Int).map cI_i64)]⟩) (by kernel_rfl) ?_
            refine Gh_at (s1 := ⟨⟨90, [(62, .bool (!v17))]⟩, [.live .norm 1 (([0, 2] : List Int).map cI_i64), .live .norm 1 (([0, 1, 3] : List Int).map cI_i64), .live .norm 1 (([1, 3] : List Int).map cI_i64), .live .norm 1 (([0, 2, 5] : List Int).map cI_i64)]⟩) (by kernel_rfl) ?_
            refine Gh_trunc (s1 := ⟨⟨90, [(62, .bool (!v17))]⟩, []⟩) (by kernel_rfl) (tb_free rfl rfl) (H1 := []) (by kernel_rfl) rfl (by kernel_rfl) ?_
            refine Gh_nil ?_
            replace h := Option.some.inj h; subst h
            show _ = _
            kernel_rfl
  · refine W_gh ?_
    refine W_cond (c := w9) (by kernel_rfl) (fun c18 => ?_) (fun c18 => ?_)
    · replace h := fork_t c18 h
      refine W_seq ?_
      refine W_reg ?_
      refine O_ps 1 (by kernel_rfl) ?_
      refine O_nil ?_
      refine W_ret ?_
      replace h := Option.some.inj h; subst h
      exact Fin_free (l := [.bool false]) (by kernel_rfl) (by kernel_rfl) rfl
    · replace h := fork_f c18 h
      refine W_skip ?_
      refine Gh_end (s1 := ⟨⟨90, []⟩, []⟩) _ (by kernel_rfl) ?_
      refine W_seq ?_
      refine W_gh ?_
      refine W_reg ?_
      refine O_call (fun v => .agg [.int .i64 v.Actuators, .ro (v.Steps.map cSStep)]) h (.inr rfl) (ys := [.str [65, 43, 59, 32, 66, 43, 59, 32, 66, 45, 59, 32, 65, 45]]) (fun _ e => p34 _ _ e) (by kernel_rfl) (by kernel_rfl) (bels_cons rfl rfl) (fun v19 e_v19 h => ?_)
      refine O_ps 2 (by kernel_rfl) ?_
      refine O_lent (fun v => .tup [.int .i64 v.1, .int .i64 v.2]) h (.inr rfl) (ys := [.agg (cSSequence v19), .ro (([(1, 2)] : List (Int × Int)).map (cP2 cI_i64))]) (fun _ e => p13 _ _ _ e) (by kernel_rfl) (snaps_of (xs := [.agg [.int .i64 v19.Actuators, .ro (v19.Steps.map cSStep)], .own 0 1 0 1]) (by kernel_rfl) (mapO_cons (pk_free (okSSequence.bel _)) (mapO_cons (pk_own (d := 5) (id := 0) (nl := .norm) (sz := 2) (l := ([(1, 2)] : List (Int × Int))) (okP2 okI_i64).bel (by kernel_rfl) rfl) rfl))) (fun _ => rfl) (fun v20 e_v20 h => ?_)
      refine O_ps 5 (by kernel_rfl) ?_
      refine O_nil ?_
      refine Gh_one (s1 := ⟨⟨90, [(2, .int .i64 v20.2), (9, .int .i64 v20.1)]⟩, [.live .norm 2 (([(1, 2)] : List (Int × Int)).map (cP2 cI_i64))]⟩) (by kernel_rfl) ?_
      refine Gh_at (s1 := ⟨⟨90, [(2, .int .i64 v20.2), (9, .int .i64 v20.1)]⟩, [.live .norm 2 (([(1, 2)] : List (Int × Int)).map (cP2 cI_i64))]⟩) (by kernel_rfl) ?_
      refine Gh_trunc (s1 := ⟨⟨90, [(2, .int .i64 v20.2), (9, .int .i64 v20.1)]⟩, []⟩) (by kernel_rfl) (tb_free rfl (tb_free rfl rfl)) (H1 := []) (by kernel_rfl) rfl (by kernel_rfl) ?_
      refine Gh_nil ?_
      refine W_seq ?_
      refine W_gh ?_
      refine W_reg ?_
      refine O_call (fun v => .agg [.int .i64 v.Actuators, .ro (v.Steps.map cSStep)]) h (.inr rfl) (ys := [.str [65, 43, 59, 32, 66, 43, 59, 32, 65, 45, 59, 32, 67, 43, 59, 32, 66, 45, 59, 32, 67, 45]]) (fun _ e => p34 _ _ e) (by kernel_rfl) (by kernel_rfl) (bels_cons rfl rfl) (fun v21 e_v21 h => ?_)
      refine O_ps 3 (by kernel_rfl) ?_
      refine O_lent (fun v => .tup [.int .i64 v.1, .int .i64 v.2]) h (.inr rfl) (ys := [.agg (cSSequence v21), .ro (([(0, 2), (3, 5)] : List (Int × Int)).map (cP2 cI_i64))]) (fun _ e => p13 _ _ _ e) (by kernel_rfl) (snaps_of (xs := [.agg [.int .i64 v21.Actuators, .ro (v21.Steps.map cSStep)], .own 0 2 0 2]) (by kernel_rfl) (mapO_cons (pk_free (okSSequence.bel _)) (mapO_cons (pk_own (d := 5) (id := 0) (nl := .norm) (sz := 2) (l := ([(0, 2), (3, 5)] : List (Int × Int))) (okP2 okI_i64).bel (by kernel_rfl) rfl) rfl))) (fun _ => rfl) (fun v22 e_v22 h => ?_)
      refine O_ps 5 (by kernel_rfl) ?_
      refine O_nil ?_
      refine Gh_one (s1 := ⟨⟨90, [(2, .int .i64 v20.2), (4, .int .i64 v22.2), (9, .int .i64 v20.1), (10, .int .i64 v22.1)]⟩, [.live .norm 2 (([(0, 2), (3, 5)] : List (Int × Int)).map (cP2 cI_i64))]⟩) (by kernel_rfl) ?_
      refine Gh_at (s1 := ⟨⟨90, [(2, .int .i64 v20.2), (4, .int .i64 v22.2), (9, .int .i64 v20.1), (10, .int .i64 v22.1)]⟩, [.live .norm 2 (([(0, 2), (3, 5)] : List (Int × Int)).map (cP2 cI_i64))]⟩) (by kernel_rfl) ?_
      refine Gh_trunc (s1 := ⟨⟨90, [(2, .int .i64 v20.2), (4, .int .i64 v22.2), (9, .int .i64 v20.1), (10, .int .i64 v22.1)]⟩, []⟩) (by kernel_rfl) (tb_free rfl (tb_free rfl (tb_free rfl (tb_free rfl rfl)))) (H1 := []) (by kernel_rfl) rfl (by kernel_rfl) ?_
      refine Gh_nil ?_
      refine W_seq ?_
      refine W_cut ⟨⟨90, [(0, .bool (((addI .i64 v20.2 v22.2) == 0) && ((v20.1 == 2) && (v22.1 == 3))))]⟩, []⟩ ?_ ?_
      · generalize e_g23 : (((addI .i64 v20.2 v22.2) == 0) && ((v20.1 == 2) && (v22.1 == 3))) = g23
        refine W_gh ?_
        refine W_reg ?_
        refine O_ps 5 (by kernel_rfl) ?_
        refine O_fork (n := 82) ((addI .i64 v20.2 v22.2) == 0) (by kernel_rfl) (fun c24 => ?_) (fun c24 => ?_)
        · skip
          refine O_ps 4 (by kernel_rfl) ?_
          refine O_fork (n := 86) (v20.1 == 2) (by kernel_rfl) (fun c25 => ?_) (fun c25 => ?_)
          · skip
            refine O_ps 4 (by kernel_rfl) ?_
            refine O_nil ?_
            refine Gh_end (s1 := ⟨⟨90, [(0, .bool (v22.1 == 3))]⟩, []⟩) _ (by kernel_rfl) ?_
            have q := e_g23; simp only [c18, c24, c25, cond_true, cond_false, Bool.true_and, Bool.false_and, Bool.true_or, Bool.false_or] at q; subst q
            show _ = _
            kernel_rfl
          · skip
            refine O_ps 4 (by kernel_rfl) ?_
            refine O_nil ?_
            refine Gh_end (s1 := ⟨⟨90, [(0, .bool false)]⟩, []⟩) _ (by kernel_rfl) ?_
            have q := e_g23; simp only [c18, c24, c25, cond_true, cond_false, Bool.true_and, Bool.false_and, Bool.true_or, Bool.false_or] at q; subst q
            show _ = _
            kernel_rfl
        · skip
          refine O_ps 8 (by kernel_rfl) ?_
          refine O_nil ?_
          refine Gh_end (s1 := ⟨⟨90, [(0, .bool false)]⟩, []⟩) _ (by kernel_rfl) ?_
          have q := e_g23; simp only [c18, c24, cond_true, cond_false, Bool.true_and, Bool.false_and, Bool.true_or, Bool.false_or] at q; subst q
          show _ = _
          kernel_rfl
      · refine W_ret ?_
        replace h := Option.some.inj h; subst h
        exact Fin_free (l := [.bool (((addI .i64 v20.2 v22.2) == 0) && ((v20.1 == 2) && (v22.1 == 3)))]) (by kernel_rfl) (by kernel_rfl) rfl

theorem p65 (a0 : SSequence) (a1 : (List Int)) (a2 : Bool) (r : Int) (h : m65 a0 a1 a2 = some r) : Pt E0 hp 65 [.agg (cSSequence a0), .ro (a1.map cI_i64), .bool a2] (.int .i64 r) := by
  unfold m65 at h
  refine Pt_W (fn65) rfl (by decide) ?_
  refine W_seq ?_
  refine W_gh ?_
  refine W_reg ?_
  refine O_ps 2 (by kernel_rfl) ?_
  refine O_nil ?_
  refine Gh_end (s1 := ⟨⟨59, [(1, .ro (a1.map cI_i64)), (2, .bool a2), (3, .pown 0 1 0 0)]⟩, [.live .norm 2 [[.int .i64 a0.Actuators, .ro (a0.Steps.map cSStep)]]]⟩) _ (by kernel_rfl) ?_
  refine W_seq ?_
  refine W_seq ?_
  refine W_gh ?_
  refine W_reg ?_
  refine O_ps 1 (by kernel_rfl) ?_
  refine O_len (l := a1) cI_i64 (by kernel_rfl) (by kernel_rfl) ?_
  refine O_ps 1 (by kernel_rfl) ?_
  refine O_nil ?_
  refine Gh_end (s1 := ⟨⟨59, [(1, .ro (a1.map cI_i64)), (2, .bool a2), (3, .pown 0 1 0 0), (10, .bool ((a1.length : Int) == 0))]⟩, [.live .norm 2 [[.int .i64 a0.Actuators, .ro (a0.Steps.map cSStep)]]]⟩) _ (by kernel_rfl) ?_
  refine W_gh ?_
  refine W_cond (c := ((a1.length : Int) == 0)) (by kernel_rfl) (fun c1 => ?_) (fun c1 => ?_)
  · replace h := fork_t c1 h
    refine W_seq ?_
    refine W_reg ?_
    refine O_ps 1 (by kernel_rfl) ?_
    refine O_nil ?_
    refine W_ret ?_
    replace h := Option.some.inj h; subst h
    exact Fin_free (l := [.int .i64 13]) (by kernel_rfl) (by kernel_rfl) rfl
  · replace h := fork_f c1 h
    refine W_skip ?_
    refine Gh_end (s1 := ⟨⟨59, [(1, .ro (a1.map cI_i64)), (2, .bool a2), (3, .pown 0 1 0 0)]⟩, [.live .norm 2 [[.int .i64 a0.Actuators, .ro (a0.Steps.map cSStep)]]]⟩) _ (by kernel_rfl) ?_
    refine W_seq ?_
    refine W_seq ?_
    refine W_gh ?_
    refine W_reg ?_
    refine O_ps 1 (by kernel_rfl) ?_
    refine O_len (l := a1) cI_i64 (by kernel_rfl) (by kernel_rfl) ?_
    refine O_ps 2 (by kernel_rfl) ?_
    refine O_len (l := a0.Steps) cSStep (by kernel_rfl) (by kernel_rfl) ?_
    refine O_ps 1 (by kernel_rfl) ?_
    refine O_nil ?_
    refine Gh_end (s1 := ⟨⟨59, [(1, .ro (a1.map cI_i64)), (2, .bool a2), (3, .pown 0 1 0 0), (16, .bool (decide ((a1.length : Int) > (a0.Steps.length : Int))))]⟩, [.live .norm 2 [[.int .i64 a0.Actuators, .ro (a0.Steps.map cSStep)]]]⟩) _ (by kernel_rfl) ?_
    refine W_gh ?_
    refine W_cond (c := (decide ((a1.length : Int) > (a0.Steps.length : Int)))) (by kernel_rfl) (fun c2 => ?_) (fun c2 => ?_)
    · replace h := fork_t c2 h
      refine W_seq ?_
      refine W_reg ?_
      refine O_ps 1 (by kernel_rfl) ?_
      refine O_nil ?_
      refine W_ret ?_
      replace h := Option.some.inj h; subst h
      exact Fin_free (l := [.int .i64 5]) (by kernel_rfl) (by kernel_rfl) rfl
    · replace h := fork_f c2 h
      refine W_skip ?_
      refine Gh_end (s1 := ⟨⟨59, [(1, .ro (a1.map cI_i64)), (2, .bool a2), (3, .pown 0 1 0 0)]⟩, [.live .norm 2 [[.int .i64 a0.Actuators, .ro (a0.Steps.map cSStep)]]]⟩) _ (by kernel_rfl) ?_
      refine W_seq ?_
      refine W_seq ?_
      refine W_joinS (fun v : Bool => ⟨⟨59, [(1, .ro (a1.map cI_i64)), (3, .pown 0 1 0 0), (23, .bool v)]⟩, [.live .norm 2 [[.int .i64 a0.Actuators, .ro (a0.Steps.map cSStep)]]]⟩) h (fun w h => ?_) (fun w3 e_w3 h => ?_)
      · refine W_gh ?_
        refine W_reg ?_
        refine O_ps 2 (by kernel_rfl) ?_
        refine O_fork (n := 18) a2 (by kernel_rfl) (fun c4 => ?_) (fun c4 => ?_)
        · replace h := fork_t c4 h
          refine O_ps 1 (by kernel_rfl) ?_
          refine O_idx (kd := .i64) cI_i64 h (fun _ => rfl) (by kernel_rfl) (by kernel_rfl) (by kernel_rfl) (fun v5 e_v5 h => ?_)
          refine O_ps 3 (by kernel_rfl) ?_
          refine O_nil ?_
          refine Gh_end (s1 := ⟨⟨59, [(1, .ro (a1.map cI_i64)), (3, .pown 0 1 0 0), (23, .bool (v5 != 0))]⟩, [.live .norm 2 [[.int .i64 a0.Actuators, .ro (a0.Steps.map cSStep)]]]⟩) _ (by kernel_rfl) ?_
          replace h := Option.some.inj h; subst h
          show _ = _
          kernel_rfl
        · replace h := fork_f c4 h
          refine O_ps 5 (by kernel_rfl) ?_
          refine O_nil ?_
          refine Gh_end (s1 := ⟨⟨59, [(1, .ro (a1.map cI_i64)), (3, .pown 0 1 0 0), (23, .bool false)]⟩, [.live .norm 2 [[.int .i64 a0.Actuators, .ro (a0.Steps.map cSStep)]]]⟩) _ (by kernel_rfl) ?_
          replace h := Option.some.inj h; subst h
          show _ = _
          kernel_rfl
      · refine W_gh ?_
        refine W_cond (c := w3) (by kernel_rfl) (fun c6 => ?_) (fun c6 => ?_)
        · replace h := fork_t c6 h
          refine W_seq ?_
          refine W_reg ?_
          refine O_ps 1 (by kernel_rfl) ?_
          refine O_nil ?_
          refine W_ret ?_
          replace h := Option.some.inj h; subst h
          exact Fin_free (l := [.int .i64 3]) (by kernel_rfl) (by kernel_rfl) rfl
        · replace h := fork_f c6 h
          refine W_skip ?_
          refine Gh_end (s1 := ⟨⟨59, [(1, .ro (a1.map cI_i64)), (3, .pown 0 1 0 0)]⟩, [.live .norm 2 [[.int .i64 a0.Actuators, .ro (a0.Steps.map cSStep)]]]⟩) _ (by kernel_rfl) ?_
          refine W_seq ?_
          refine W_seq ?_
          refine W_reg ?_
          refine O_ps 1 (by kernel_rfl) ?_
          refine O_nil ?_
          refine W_loop (fun s7 : Int => ⟨⟨59, [(1, .ro (a1.map cI_i64)), (3, .pown 0 1 0 0), (7, .int .i64 s7)]⟩, [.live .norm 2 [[.int .i64 a0.Actuators, .ro (a0.Steps.map cSStep)]]]⟩) (fun w8 : Unit => ⟨⟨59, [(1, .ro (a1.map cI_i64))]⟩, [.live .norm 2 [[.int .i64 a0.Actuators, .ro (a0.Steps.map cSStep)]]]⟩) h (by kernel_rfl) (fun s7 c h => ?_) (fun w8 h => ?_)
          · refine W_gh ?_
            refine W_seq ?_
            refine W_seq ?_
            refine W_gh ?_
            refine W_reg ?_
            refine O_ps 2 (by kernel_rfl) ?_
            refine O_len (l := a1) cI_i64 (by kernel_rfl) (by kernel_rfl) ?_
            refine O_ps 1 (by kernel_rfl) ?_
            refine O_nil ?_
            refine Gh_end (s1 := ⟨⟨59, [(1, .ro (a1.map cI_i64)), (3, .pown 0 1 0 0), (7, .int .i64 s7), (27, .bool (decide (s7 < (a1.length : Int))))]⟩, [.live .norm 2 [[.int .i64 a0.Actuators, .ro (a0.Steps.map cSStep)]]]⟩) _ (by kernel_rfl) ?_
            refine W_gh ?_
            refine W_cond (c := (decide (s7 < (a1.length : Int)))) (by kernel_rfl) (fun c9 => ?_) (fun c9 => ?_)
            · replace h := fork_t c9 h
              refine W_skip ?_
              refine Gh_end (s1 := ⟨⟨59, [(1, .ro (a1.map cI_i64)), (3, .pown 0 1 0 0), (7, .int .i64 s7)]⟩, [.live .norm 2 [[.int .i64 a0.Actuators, .ro (a0.Steps.map cSStep)]]]⟩) _ (by kernel_rfl) ?_
              refine W_seq ?_
              refine W_gh ?_
              refine W_block ?_
              refine W_seq ?_
              refine W_seq ?_
              refine W_joinS (fun v : Bool => ⟨⟨59, [(1, .ro (a1.map cI_i64)), (3, .pown 0 1 0 0), (7, .int .i64 s7), (44, .bool v)]⟩, [.live .norm 2 [[.int .i64 a0.Actuators, .ro (a0.Steps.map cSStep)]]]⟩) h (fun w h => ?_) (fun w10 e_w10 h => ?_)
              · refine W_gh ?_
                refine W_draw ?_
                refine O_ps 2 (by kernel_rfl) ?_
                refine O_idx (kd := .i64) cI_i64 h (fun _ => rfl) (by kernel_rfl) (by kernel_rfl) (by kernel_rfl) (fun v11 e_v11 h => ?_)
                refine O_ps 3 (by kernel_rfl) ?_
                refine O_fork (n := 35) (decide (v11 < 0)) (by kernel_rfl) (fun c12 => ?_) (fun c12 => ?_)
                · replace h := fork_t c12 h
                  refine O_ps 9 (by kernel_rfl) ?_
                  refine O_nil ?_
                  refine Gh_end (s1 := ⟨⟨59, [(1, .ro (a1.map cI_i64)), (3, .pown 0 1 0 0), (7, .int .i64 s7), (44, .bool true)]⟩, [.live .norm 2 [[.int .i64 a0.Actuators, .ro (a0.Steps.map cSStep)]]]⟩) _ (by kernel_rfl) ?_
                  replace h := Option.some.inj h; subst h
                  show _ = _
                  kernel_rfl
                · replace h := fork_f c12 h
                  refine O_ps 2 (by kernel_rfl) ?_
                  refine O_idx (kd := .i64) cI_i64 h (fun _ => rfl) (by kernel_rfl) (by kernel_rfl) (by kernel_rfl) (fun v13 e_v13 h => ?_)
                  refine O_ps 3 (by kernel_rfl) ?_
                  refine O_len (l := a0.Steps) cSStep (by kernel_rfl) (by kernel_rfl) ?_
                  refine O_ps 2 (by kernel_rfl) ?_
                  refine O_nil ?_
                  refine Gh_end (s1 := ⟨⟨59, [(1, .ro (a1.map cI_i64)), (3, .pown 0 1 0 0), (7, .int .i64 s7), (44, .bool (decide (v13 ≥ (a0.Steps.length : Int))))]⟩, [.live .norm 2 [[.int .i64 a0.Actuators, .ro (a0.Steps.map cSStep)]]]⟩) _ (by kernel_rfl) ?_
                  replace h := Option.some.inj h; subst h
                  show _ = _
                  kernel_rfl
              · refine W_gh ?_
                refine W_cond (c := w10) (by kernel_rfl) (fun c14 => ?_) (fun c14 => ?_)
                · replace h := fork_t c14 h
                  refine W_seq ?_
                  refine W_reg ?_
                  refine O_ps 1 (by kernel_rfl) ?_
                  refine O_nil ?_
                  refine W_ret ?_
                  replace h := Option.some.inj h; subst h
                  refine ⟨_, rfl, fun h => ?_⟩
                  replace h := Option.some.inj h; subst h
                  exact Fin_free (l := [.int .i64 2]) (by kernel_rfl) (by kernel_rfl) rfl
                · replace h := fork_f c14 h
                  refine W_skip ?_
                  refine Gh_end (s1 := ⟨⟨59, [(1, .ro (a1.map cI_i64)), (3, .pown 0 1 0 0), (7, .int .i64 s7)]⟩, [.live .norm 2 [[.int .i64 a0.Actuators, .ro (a0.Steps.map cSStep)]]]⟩) _ (by kernel_rfl) ?_
                  refine W_seq ?_
                  refine W_joinS (fun v : Bool => ⟨⟨59, [(1, .ro (a1.map cI_i64)), (3, .pown 0 1 0 0), (7, .int .i64 s7), (58, .bool v)]⟩, [.live .norm 2 [[.int .i64 a0.Actuators, .ro (a0.Steps.map cSStep)]]]⟩) h (fun w h => ?_) (fun w15 e_w15 h => ?_)
                  · refine W_gh ?_
                    refine W_draw ?_
                    refine O_ps 3 (by kernel_rfl) ?_
                    refine O_fork (n := 47) (decide (s7 > 0)) (by kernel_rfl) (fun c16 => ?_) (fun c16 => ?_)
                    · replace h := fork_t c16 h
                      refine O_ps 2 (by kernel_rfl) ?_
                      refine O_idx (kd := .i64) cI_i64 h (fun _ => rfl) (by kernel_rfl) (by kernel_rfl) (by kernel_rfl) (fun v17 e_v17 h => ?_)
                      refine O_ps 4 (by kernel_rfl) ?_
                      refine O_idx (kd := .i64) cI_i64 h (fun _ => rfl) (by kernel_rfl) (by kernel_rfl) (by kernel_rfl) (fun v18 e_v18 h => ?_)
                      refine O_ps 3 (by kernel_rfl) ?_
                      refine O_nil ?_
                      refine Gh_end (s1 := ⟨⟨59, [(1, .ro (a1.map cI_i64)), (3, .pown 0 1 0 0), (7, .int .i64 s7), (58, .bool (decide (v17 ≤ v18)))]⟩, [.live .norm 2 [[.int .i64 a0.Actuators, .ro (a0.Steps.map cSStep)]]]⟩) _ (by kernel_rfl) ?_
                      replace h := Option.some.inj h; subst h
                      show _ = _
                      kernel_rfl
                    · replace h := fork_f c16 h
                      refine O_ps 11 (by kernel_rfl) ?_
                      refine O_nil ?_
                      refine Gh_end (s1 := ⟨⟨59, [(1, .ro (a1.map cI_i64)), (3, .pown 0 1 0 0), (7, .int .i64 s7), (58, .bool false)]⟩, [.live .norm 2 [[.int .i64 a0.Actuators, .ro (a0.Steps.map cSStep)]]]⟩) _ (by kernel_rfl) ?_
                      replace h := Option.some.inj h; subst h
                      show _ = _
                      kernel_rfl
                  · refine W_gh ?_
                    refine W_cond (c := w15) (by kernel_rfl) (fun c19 => ?_) (fun c19 => ?_)
                    · replace h := fork_t c19 h
                      refine W_seq ?_
                      refine W_reg ?_
                      refine O_ps 1 (by kernel_rfl) ?_
                      refine O_nil ?_
                      refine W_ret ?_
                      replace h := Option.some.inj h; subst h
                      refine ⟨_, rfl, fun h => ?_⟩
                      replace h := Option.some.inj h; subst h
                      exact Fin_free (l := [.int .i64 9]) (by kernel_rfl) (by kernel_rfl) rfl
                    · replace h := fork_f c19 h
                      refine W_skip ?_
                      refine Gh_end (s1 := ⟨⟨59, [(1, .ro (a1.map cI_i64)), (3, .pown 0 1 0 0), (7, .int .i64 s7)]⟩, [.live .norm 2 [[.int .i64 a0.Actuators, .ro (a0.Steps.map cSStep)]]]⟩) _ (by kernel_rfl) ?_
                      refine Gh_end (s1 := ⟨⟨59, [(1, .ro (a1.map cI_i64)), (3, .pown 0 1 0 0), (7, .int .i64 s7)]⟩, [.live .norm 2 [[.int .i64 a0.Actuators, .ro (a0.Steps.map cSStep)]]]⟩) _ (by kernel_rfl) ?_
                      refine W_gh ?_
                      refine W_reg ?_
                      refine O_ps 3 (by kernel_rfl) ?_
                      refine O_nil ?_
                      refine Gh_end (s1 := ⟨⟨59, [(1, .ro (a1.map cI_i64)), (3, .pown 0 1 0 0), (7, .int .i64 (addI .i64 s7 1))]⟩, [.live .norm 2 [[.int .i64 a0.Actuators, .ro (a0.Steps.map cSStep)]]]⟩) _ (by kernel_rfl) ?_
                      refine Gh_end (s1 := ⟨⟨59, [(1, .ro (a1.map cI_i64)), (3, .pown 0 1 0 0), (7, .int .i64 (addI .i64 s7 1))]⟩, [.live .norm 2 [[.int .i64 a0.Actuators, .ro (a0.Steps.map cSStep)]]]⟩) _ (by kernel_rfl) ?_
                      replace h := Option.some.inj h; subst h
                      exact ⟨_, rfl, by kernel_rfl⟩
            · replace h := fork_f c9 h
              refine W_exit ?_
              refine X_hit ?_
              refine Gh_end (s1 := ⟨⟨59, [(1, .ro (a1.map cI_i64))]⟩, [.live .norm 2 [[.int .i64 a0.Actuators, .ro (a0.Steps.map cSStep)]]]⟩) _ (by kernel_rfl) ?_
              replace h := Option.some.inj h; subst h
              exact ⟨_, rfl, by kernel_rfl⟩
          · refine W_seq ?_
            refine W_reg ?_
            refine O_ps 1 (by kernel_rfl) ?_
            refine O_nil ?_
            refine W_ret ?_
            replace h := Option.some.inj h; subst h
            exact Fin_free (l := [.int .i64 0]) (by kernel_rfl) (by kernel_rfl) rfl

theorem p52 (a0 : SSequence) (a1 : (List Int)) (a2 : Int) (r : Int) (h : m52 a0 a1 a2 = some r) : Pt E0 hp 52 [.agg (cSSequence a0), .ro (a1.map cI_i64), .int .i64 a2] (.int .i64 r) := by
  unfold m52 at h
  refine Pt_W (fn52) rfl (by decide) ?_
  refine W_seq ?_
  refine W_gh ?_
  refine W_reg ?_
  refine O_ps 2 (by kernel_rfl) ?_
  refine O_nil ?_
  refine Gh_end (s1 := ⟨⟨24, [(1, .ro (a1.map cI_i64)), (2, .int .i64 a2), (3, .pown 0 1 0 0)]⟩, [.live .norm 2 [[.int .i64 a0.Actuators, .ro (a0.Steps.map cSStep)]]]⟩) _ (by kernel_rfl) ?_
  refine W_seq ?_
  refine W_seq ?_
  refine W_gh ?_
  refine W_reg ?_
  refine O_ps 3 (by kernel_rfl) ?_
  refine O_len (l := a1) cI_i64 (by kernel_rfl) (by kernel_rfl) ?_
  refine O_ps 1 (by kernel_rfl) ?_
  refine O_nil ?_
  refine Gh_end (s1 := ⟨⟨24, [(1, .ro (a1.map cI_i64)), (2, .int .i64 a2), (3, .pown 0 1 0 0), (11, .bool (decide ((addI .i64 a2 1) < (a1.length : Int))))]⟩, [.live .norm 2 [[.int .i64 a0.Actuators, .ro (a0.Steps.map cSStep)]]]⟩) _ (by kernel_rfl) ?_
  refine W_gh ?_
  refine W_cond (c := (decide ((addI .i64 a2 1) < (a1.length : Int)))) (by kernel_rfl) (fun c1 => ?_) (fun c1 => ?_)
  · replace h := fork_t c1 h
    refine W_seq ?_
    refine W_gh ?_
    refine W_reg ?_
    refine O_ps 3 (by kernel_rfl) ?_
    refine O_idx (kd := .i64) cI_i64 h (fun _ => rfl) (by kernel_rfl) (by kernel_rfl) (by kernel_rfl) (fun v2 e_v2 h => ?_)
    refine O_ps 2 (by kernel_rfl) ?_
    refine O_nil ?_
    refine Gh_end (s1 := ⟨⟨24, [(3, .pown 0 1 0 0), (6, .int .i64 v2), (11, .bool (decide ((addI .i64 a2 1) < (a1.length : Int))))]⟩, [.live .norm 2 [[.int .i64 a0.Actuators, .ro (a0.Steps.map cSStep)]]]⟩) _ (by kernel_rfl) ?_
    refine W_ret ?_
    replace h := Option.some.inj h; subst h
    exact Fin_free (l := [.int .i64 v2]) (by kernel_rfl) (by kernel_rfl) rfl
  · replace h := fork_f c1 h
    refine W_skip ?_
    refine Gh_end (s1 := ⟨⟨24, [(1, .ro (a1.map cI_i64)), (2, .int .i64 a2), (3, .pown 0 1 0 0)]⟩, [.live .norm 2 [[.int .i64 a0.Actuators, .ro (a0.Steps.map cSStep)]]]⟩) _ (by kernel_rfl) ?_
    refine W_seq ?_
    refine W_gh ?_
    refine W_draw ?_
    refine O_ps 2 (by kernel_rfl) ?_
    refine O_len (l := a0.Steps) cSStep (by kernel_rfl) (by kernel_rfl) ?_
    refine O_ps 1 (by kernel_rfl) ?_
    refine O_idx (kd := .i64) cI_i64 h (fun _ => rfl) (by kernel_rfl) (by kernel_rfl) (by kernel_rfl) (fun v3 e_v3 h => ?_)
    refine O_ps 3 (by kernel_rfl) ?_
    refine O_nil ?_
    refine Gh_end (s1 := ⟨⟨24, [(2, .int .i64 a2), (6, .int .i64 (addI .i64 (a0.Steps.length : Int) v3))]⟩, [.live .norm 2 [[.int .i64 a0.Actuators, .ro (a0.Steps.map cSStep)]]]⟩) _ (by kernel_rfl) ?_
    refine W_ret ?_
    replace h := Option.some.inj h; subst h
    exact Fin_free (l := [.int .i64 (addI .i64 (a0.Steps.length : Int) v3)]) (by kernel_rfl) (by kernel_rfl) rfl

theorem p38 (a0 : SSequence) (a1 : Int) (a2 : Int) (r : Bool) (h : m38 a0 a1 a2 = some r) : Pt E0 hp 38 [.agg (cSSequence a0), .int .i64 a1, .int .i64 a2] (.bool r) := by
  unfold m38 at h
  refine Pt_W (fn38) rfl (by decide) ?_
  refine W_seq ?_
  refine W_gh ?_
  refine W_reg ?_
  refine O_ps 2 (by kernel_rfl) ?_
  refine O_nil ?_
  refine Gh_end (s1 := ⟨⟨32, [(1, .int .i64 a1), (2, .int .i64 a2), (3, .pown 0 1 0 0)]⟩, [.live .norm 2 [[.int .i64 a0.Actuators, .ro (a0.Steps.map cSStep)]]]⟩) _ (by kernel_rfl) ?_
  refine W_seq ?_
  refine W_seq ?_
  refine W_reg ?_
  refine O_ps 1 (by kernel_rfl) ?_
  refine O_nil ?_
  refine W_loop (fun s1 : Int => ⟨⟨32, [(1, .int .i64 a1), (2, .int .i64 a2), (3, .pown 0 1 0 0), (7, .int .i64 s1)]⟩, [.live .norm 2 [[.int .i64 a0.Actuators, .ro (a0.Steps.map cSStep)]]]⟩) (fun w2 : Unit => ⟨⟨32, [(1, .int .i64 a1), (2, .int .i64 a2)]⟩, [.live .norm 2 [[.int .i64 a0.Actuators, .ro (a0.Steps.map cSStep)]]]⟩) h (by kernel_rfl) (fun s1 c h => ?_) (fun w2 h => ?_)
  · refine W_gh ?_
    refine W_seq ?_
    refine W_seq ?_
    refine W_gh ?_
    refine W_reg ?_
    refine O_ps 4 (by kernel_rfl) ?_
    refine O_nil ?_
    refine Gh_end (s1 := ⟨⟨32, [(1, .int .i64 a1), (2, .int .i64 a2), (3, .pown 0 1 0 0), (7, .int .i64 s1), (11, .bool (decide (s1 < a0.Actuators)))]⟩, [.live .norm 2 [[.int .i64 a0.Actuators, .ro (a0.Steps.map cSStep)]]]⟩) _ (by kernel_rfl) ?_
    refine W_gh ?_
    refine W_cond (c := (decide (s1 < a0.Actuators))) (by kernel_rfl) (fun c3 => ?_) (fun c3 => ?_)
    · replace h := fork_t c3 h
      refine W_skip ?_
      refine Gh_end (s1 := ⟨⟨32, [(1, .int .i64 a1), (2, .int .i64 a2), (3, .pown 0 1 0 0), (7, .int .i64 s1)]⟩, [.live .norm 2 [[.int .i64 a0.Actuators, .ro (a0.Steps.map cSStep)]]]⟩) _ (by kernel_rfl) ?_
      refine W_seq ?_
      refine W_gh ?_
      refine W_block ?_
      refine W_seq ?_
      refine W_joinS (fun v : Bool => ⟨⟨32, [(1, .int .i64 a1), (2, .int .i64 a2), (3, .pown 0 1 0 0), (7, .int .i64 s1), (31, .bool v)]⟩, [.live .norm 2 [[.int .i64 a0.Actuators, .ro (a0.Steps.map cSStep)]]]⟩) h (fun w h => ?_) (fun w4 e_w4 h => ?_)
      · refine W_gh ?_
        refine W_reg ?_
        refine O_ps 3 (by kernel_rfl) ?_
        refine O_idx (kd := .i64) cSStep h (fun _ => rfl) (by kernel_rfl) (by kernel_rfl) (by kernel_rfl) (fun v5 e_v5 h => ?_)
        refine O_ps 2 (by kernel_rfl) ?_
        refine O_call (fun v => .int .i64 v) h (.inr rfl) (ys := [.agg (cSStep v5), .int .i64 s1]) (fun _ e => p53 _ _ _ e) (by kernel_rfl) (by kernel_rfl) (bels_cons (okSStep.bel _) (bels_cons rfl rfl)) (fun v6 e_v6 h => ?_)
        refine O_ps 2 (by kernel_rfl) ?_
        refine O_fork (n := 22) (v6 != 0) (by kernel_rfl) (fun c7 => ?_) (fun c7 => ?_)
        · replace h := fork_t c7 h
          refine O_ps 3 (by kernel_rfl) ?_
          refine O_idx (kd := .i64) cSStep h (fun _ => rfl) (by kernel_rfl) (by kernel_rfl) (by kernel_rfl) (fun v8 e_v8 h => ?_)
          refine O_ps 2 (by kernel_rfl) ?_
          refine O_call (fun v => .int .i64 v) h (.inr rfl) (ys := [.agg (cSStep v8), .int .i64 s1]) (fun _ e => p53 _ _ _ e) (by kernel_rfl) (by kernel_rfl) (bels_cons (okSStep.bel _) (bels_cons rfl rfl)) (fun v9 e_v9 h => ?_)
          refine O_ps 2 (by kernel_rfl) ?_
          refine O_nil ?_
          refine Gh_end (s1 := ⟨⟨32, [(1, .int .i64 a1), (2, .int .i64 a2), (3, .pown 0 1 0 0), (7, .int .i64 s1), (31, .bool (v9 != 0))]⟩, [.live .norm 2 [[.int .i64 a0.Actuators, .ro (a0.Steps.map cSStep)]]]⟩) _ (by kernel_rfl) ?_
          replace h := Option.some.inj h; subst h
          show _ = _
          kernel_rfl
        · replace h := fork_f c7 h
          refine O_ps 9 (by kernel_rfl) ?_
          refine O_nil ?_
          refine Gh_end (s1 := ⟨⟨32, [(1, .int .i64 a1), (2, .int .i64 a2), (3, .pown 0 1 0 0), (7, .int .i64 s1), (31, .bool false)]⟩, [.live .norm 2 [[.int .i64 a0.Actuators, .ro (a0.Steps.map cSStep)]]]⟩) _ (by kernel_rfl) ?_
          replace h := Option.some.inj h; subst h
          show _ = _
          kernel_rfl
      · refine W_gh ?_
        refine W_cond (c := w4) (by kernel_rfl) (fun c10 => ?_) (fun c10 => ?_)
        · replace h := fork_t c10 h
          refine W_seq ?_
          refine W_reg ?_
          refine O_ps 1 (by kernel_rfl) ?_
          refine O_nil ?_
          refine W_ret ?_
          replace h := Option.some.inj h; subst h
          refine ⟨_, rfl, fun h => ?_⟩
          replace h := Option.some.inj h; subst h
          exact Fin_free (l := [.bool true]) (by kernel_rfl) (by kernel_rfl) rfl
        · replace h := fork_f c10 h
          refine W_skip ?_
          refine Gh_end (s1 := ⟨⟨32, [(1, .int .i64 a1), (2, .int .i64 a2), (3, .pown 0 1 0 0), (7, .int .i64 s1)]⟩, [.live .norm 2 [[.int .i64 a0.Actuators, .ro (a0.Steps.map cSStep)]]]⟩) _ (by kernel_rfl) ?_
          refine Gh_end (s1 := ⟨⟨32, [(1, .int .i64 a1), (2, .int .i64 a2), (3, .pown 0 1 0 0), (7, .int .i64 s1)]⟩, [.live .norm 2 [[.int .i64 a0.Actuators, .ro (a0.Steps.map cSStep)]]]⟩) _ (by kernel_rfl) ?_
          refine W_gh ?_
          refine W_reg ?_
          refine O_ps 3 (by kernel_rfl) ?_
          refine O_nil ?_
          refine Gh_end (s1 := ⟨⟨32, [(1, .int .i64 a1), (2, .int .i64 a2), (3, .pown 0 1 0 0), (7, .int .i64 (addI .i64 s1 1))]⟩, [.live .norm 2 [[.int .i64 a0.Actuators, .ro (a0.Steps.map cSStep)]]]⟩) _ (by kernel_rfl) ?_
          refine Gh_end (s1 := ⟨⟨32, [(1, .int .i64 a1), (2, .int .i64 a2), (3, .pown 0 1 0 0), (7, .int .i64 (addI .i64 s1 1))]⟩, [.live .norm 2 [[.int .i64 a0.Actuators, .ro (a0.Steps.map cSStep)]]]⟩) _ (by kernel_rfl) ?_
          replace h := Option.some.inj h; subst h
          exact ⟨_, rfl, by kernel_rfl⟩
    · replace h := fork_f c3 h
      refine W_exit ?_
      refine X_hit ?_
      refine Gh_end (s1 := ⟨⟨32, [(1, .int .i64 a1), (2, .int .i64 a2)]⟩, [.live .norm 2 [[.int .i64 a0.Actuators, .ro (a0.Steps.map cSStep)]]]⟩) _ (by kernel_rfl) ?_
      replace h := Option.some.inj h; subst h
      exact ⟨_, rfl, by kernel_rfl⟩
  · refine W_seq ?_
    refine W_reg ?_
    refine O_ps 1 (by kernel_rfl) ?_
    refine O_nil ?_
    refine W_ret ?_
    replace h := Option.some.inj h; subst h
    exact Fin_free (l := [.bool false]) (by kernel_rfl) (by kernel_rfl) rfl

theorem p78 (a0 : SSequence) (a1 : Int) (a2 : Int) (r : Bool) (h : m78 a0 a1 a2 = some r) : Pt E0 hp 78 [.agg (cSSequence a0), .int .i64 a1, .int .i64 a2] (.bool r) := by
  unfold m78 at h
  refine Pt_W (fn78) rfl (by decide) ?_
  refine W_seq ?_
  refine W_gh ?_
  refine W_reg ?_
  refine O_ps 2 (by kernel_rfl) ?_
  refine O_nil ?_
  refine Gh_end (s1 := ⟨⟨35, [(1, .int .i64 a1), (2, .int .i64 a2), (3, .pown 0 1 0 0)]⟩, [.live .norm 2 [[.int .i64 a0.Actuators, .ro (a0.Steps.map cSStep)]]]⟩) _ (by kernel_rfl) ?_
  refine W_seq ?_
  refine W_seq ?_
  refine W_reg ?_
  refine O_ps 1 (by kernel_rfl) ?_
  refine O_nil ?_
  refine W_loop (fun s1 : Int => ⟨⟨35, [(1, .int .i64 a1), (2, .int .i64 a2), (3, .pown 0 1 0 0), (7, .int .i64 s1)]⟩, [.live .norm 2 [[.int .i64 a0.Actuators, .ro (a0.Steps.map cSStep)]]]⟩) (fun w2 : Unit => ⟨⟨35, [(1, .int .i64 a1), (2, .int .i64 a2)]⟩, [.live .norm 2 [[.int .i64 a0.Actuators, .ro (a0.Steps.map cSStep)]]]⟩) h (by kernel_rfl) (fun s1 c h => ?_) (fun w2 h => ?_)
  · refine W_gh ?_
    refine W_seq ?_
    refine W_seq ?_
    refine W_gh ?_
    refine W_reg ?_
    refine O_ps 3 (by kernel_rfl) ?_
    refine O_nil ?_
    refine Gh_end (s1 := ⟨⟨35, [(1, .int .i64 a1), (2, .int .i64 a2), (3, .pown 0 1 0 0), (7, .int .i64 s1), (11, .bool (decide (s1 < a2)))]⟩, [.live .norm 2 [[.int .i64 a0.Actuators, .ro (a0.Steps.map cSStep)]]]⟩) _ (by kernel_rfl) ?_
    refine W_gh ?_
    refine W_cond (c := (decide (s1 < a2))) (by kernel_rfl) (fun c3 => ?_) (fun c3 => ?_)
    · replace h := fork_t c3 h
      refine W_skip ?_
      refine Gh_end (s1 := ⟨⟨35, [(1, .int .i64 a1), (2, .int .i64 a2), (3, .pown 0 1 0 0), (7, .int .i64 s1)]⟩, [.live .norm 2 [[.int .i64 a0.Actuators, .ro (a0.Steps.map cSStep)]]]⟩) _ (by kernel_rfl) ?_
      refine W_seq ?_
      refine W_gh ?_
      refine W_block ?_
      refine W_seq ?_
      refine W_reg ?_
      refine O_ps 1 (by kernel_rfl) ?_
      refine O_nil ?_
      refine W_loop (fun s4 : Int => ⟨⟨35, [(1, .int .i64 a1), (2, .int .i64 a2), (3, .pown 0 1 0 0), (7, .int .i64 s1), (8, .int .i64 s4)]⟩, [.live .norm 2 [[.int .i64 a0.Actuators, .ro (a0.Steps.map cSStep)]]]⟩) (fun w5 : Unit => ⟨⟨35, [(1, .int .i64 a1), (2, .int .i64 a2), (3, .pown 0 1 0 0), (7, .int .i64 s1)]⟩, [.live .norm 2 [[.int .i64 a0.Actuators, .ro (a0.Steps.map cSStep)]]]⟩) h (by kernel_rfl) (fun s4 c h => ?_) (fun w5 h => ?_)
      · refine W_gh ?_
        refine W_seq ?_
        refine W_seq ?_
        refine W_gh ?_
        refine W_reg ?_
        refine O_ps 3 (by kernel_rfl) ?_
        refine O_nil ?_
        refine Gh_end (s1 := ⟨⟨35, [(1, .int .i64 a1), (2, .int .i64 a2), (3, .pown 0 1 0 0), (7, .int .i64 s1), (8, .int .i64 s4), (16, .bool (decide (s4 < s1)))]⟩, [.live .norm 2 [[.int .i64 a0.Actuators, .ro (a0.Steps.map cSStep)]]]⟩) _ (by kernel_rfl) ?_
        refine W_gh ?_
        refine W_cond (c := (decide (s4 < s1))) (by kernel_rfl) (fun c6 => ?_) (fun c6 => ?_)
        · replace h := fork_t c6 h
          refine W_skip ?_
          refine Gh_end (s1 := ⟨⟨35, [(1, .int .i64 a1), (2, .int .i64 a2), (3, .pown 0 1 0 0), (7, .int .i64 s1), (8, .int .i64 s4)]⟩, [.live .norm 2 [[.int .i64 a0.Actuators, .ro (a0.Steps.map cSStep)]]]⟩) _ (by kernel_rfl) ?_
          refine W_seq ?_
          refine W_gh ?_
          refine W_block ?_
          refine W_seq ?_
          refine W_gh ?_
          refine W_draw ?_
          refine O_ps 6 (by kernel_rfl) ?_
          refine O_len (l := a0.Steps) cSStep (by kernel_rfl) (by kernel_rfl) ?_
          refine O_rem (kd := .i64) h (by kernel_rfl) (by kernel_rfl) (by kernel_rfl) (fun v7 e_v7 h => ?_)
          refine O_ps 5 (by kernel_rfl) ?_
          refine O_len (l := a0.Steps) cSStep (by kernel_rfl) (by kernel_rfl) ?_
          refine O_rem (kd := .i64) h (by kernel_rfl) (by kernel_rfl) (by kernel_rfl) (fun v8 e_v8 h => ?_)
          refine O_call (fun v => .bool v) h (.inr rfl) (ys := [.agg (cSSequence a0), .int .i64 v7, .int .i64 v8]) (fun _ e => p38 _ _ _ _ e) (by kernel_rfl) (by kernel_rfl) (bels_cons (okSSequence.bel _) (bels_cons rfl (bels_cons rfl rfl))) (fun v9 e_v9 h => ?_)
          refine O_nil ?_
          refine Gh_end (s1 := ⟨⟨35, [(1, .int .i64 a1), (2, .int .i64 a2), (3, .pown 0 1 0 0), (7, .int .i64 s1), (8, .int .i64 s4), (34, .bool v9)]⟩, [.live .norm 2 [[.int .i64 a0.Actuators, .ro (a0.Steps.map cSStep)]]]⟩) _ (by kernel_rfl) ?_
          refine W_gh ?_
          refine W_cond (c := v9) (by kernel_rfl) (fun c10 => ?_) (fun c10 => ?_)
          · replace h := fork_t c10 h
            refine W_seq ?_
            refine W_reg ?_
            refine O_ps 1 (by kernel_rfl) ?_
            refine O_nil ?_
            refine W_ret ?_
            replace h := Option.some.inj h; subst h
            refine ⟨_, rfl, fun h => ?_⟩
            replace h := Option.some.inj h; subst h
            refine ⟨_, rfl, fun h => ?_⟩
            replace h := Option.some.inj h; subst h
            exact Fin_free (l := [.bool false]) (by kernel_rfl) (by kernel_rfl) rfl
          · replace h := fork_f c10 h
            refine W_skip ?_
            refine Gh_end (s1 := ⟨⟨35, [(1, .int .i64 a1), (2, .int .i64 a2), (3, .pown 0 1 0 0), (7, .int .i64 s1), (8, .int .i64 s4)]⟩, [.live .norm 2 [[.int .i64 a0.Actuators, .ro (a0.Steps.map cSStep)]]]⟩) _ (by kernel_rfl) ?_
            refine Gh_end (s1 := ⟨⟨35, [(1, .int .i64 a1), (2, .int .i64 a2), (3, .pown 0 1 0 0), (7, .int .i64 s1), (8, .int .i64 s4)]⟩, [.live .norm 2 [[.int .i64 a0.Actuators, .ro (a0.Steps.map cSStep)]]]⟩) _ (by kernel_rfl) ?_
            refine W_gh ?_
            refine W_reg ?_
            refine O_ps 3 (by kernel_rfl) ?_
            refine O_nil ?_
            refine Gh_end (s1 := ⟨⟨35, [(1, .int .i64 a1), (2, .int .i64 a2), (3, .pown 0 1 0 0), (7, .int .i64 s1), (8, .int .i64 (addI .i64 s4 1))]⟩, [.live .norm 2 [[.int .i64 a0.Actuators, .ro (a0.Steps.map cSStep)]]]⟩) _ (by kernel_rfl) ?_
            refine Gh_end (s1 := ⟨⟨35, [(1, .int .i64 a1), (2, .int .i64 a2), (3, .pown 0 1 0 0), (7, .int .i64 s1), (8, .int .i64 (addI .i64 s4 1))]⟩, [.live .norm 2 [[.int .i64 a0.Actuators, .ro (a0.Steps.map cSStep)]]]⟩) _ (by kernel_rfl) ?_
            replace h := Option.some.inj h; subst h
            exact ⟨_, rfl, by kernel_rfl⟩
        · replace h := fork_f c6 h
          refine W_exit ?_
          refine X_hit ?_
          refine Gh_end (s1 := ⟨⟨35, [(1, .int .i64 a1), (2, .int .i64 a2), (3, .pown 0 1 0 0), (7, .int .i64 s1)]⟩, [.live .norm 2 [[.int .i64 a0.Actuators, .ro (a0.Steps.map cSStep)]]]⟩) _ (by kernel_rfl) ?_
          replace h := Option.some.inj h; subst h
          exact ⟨_, rfl, by kernel_rfl⟩
      · refine Gh_end (s1 := ⟨⟨35, [(1, .int .i64 a1), (2, .int .i64 a2), (3, .pown 0 1 0 0), (7, .int .i64 s1)]⟩, [.live .norm 2 [[.int .i64 a0.Actuators, .ro (a0.Steps.map cSStep)]]]⟩) _ (by kernel_rfl) ?_
        refine W_gh ?_
        refine W_reg ?_
        refine O_ps 3 (by kernel_rfl) ?_
        refine O_nil ?_
        refine Gh_end (s1 := ⟨⟨35, [(1, .int .i64 a1), (2, .int .i64 a2), (3, .pown 0 1 0 0), (7, .int .i64 (addI .i64 s1 1))]⟩, [.live .norm 2 [[.int .i64 a0.Actuators, .ro (a0.Steps.map cSStep)]]]⟩) _ (by kernel_rfl) ?_
        refine Gh_end (s1 := ⟨⟨35, [(1, .int .i64 a1), (2, .int .i64 a2), (3, .pown 0 1 0 0), (7, .int .i64 (addI .i64 s1 1))]⟩, [.live .norm 2 [[.int .i64 a0.Actuators, .ro (a0.Steps.map cSStep)]]]⟩) _ (by kernel_rfl) ?_
        replace h := Option.some.inj h; subst h
        exact ⟨_, rfl, by kernel_rfl⟩
    · replace h := fork_f c3 h
      refine W_exit ?_
      refine X_hit ?_
      refine Gh_end (s1 := ⟨⟨35, [(1, .int .i64 a1), (2, .int .i64 a2)]⟩, [.live .norm 2 [[.int .i64 a0.Actuators, .ro (a0.Steps.map cSStep)]]]⟩) _ (by kernel_rfl) ?_
      replace h := Option.some.inj h; subst h
      exact ⟨_, rfl, by kernel_rfl⟩
  · refine W_seq ?_
    refine W_reg ?_
    refine O_ps 1 (by kernel_rfl) ?_
    refine O_nil ?_
    refine W_ret ?_
    replace h := Option.some.inj h; subst h
    exact Fin_free (l := [.bool true]) (by kernel_rfl) (by kernel_rfl) rfl

theorem p66 (a0 : SSequence) (a1 : (List Int)) (r : Bool) (h : m66 a0 a1 = some r) : Pt E0 hp 66 [.agg (cSSequence a0), .ro (a1.map cI_i64)] (.bool r) := by
  unfold m66 at h
  refine Pt_W (fn66) rfl (by decide) ?_
  refine W_seq ?_
  refine W_gh ?_
  refine W_reg ?_
  refine O_ps 2 (by kernel_rfl) ?_
  refine O_nil ?_
  refine Gh_end (s1 := ⟨⟨28, [(1, .ro (a1.map cI_i64)), (2, .pown 0 1 0 0)]⟩, [.live .norm 2 [[.int .i64 a0.Actuators, .ro (a0.Steps.map cSStep)]]]⟩) _ (by kernel_rfl) ?_
  refine W_seq ?_
  refine W_seq ?_
  refine W_reg ?_
  refine O_ps 1 (by kernel_rfl) ?_
  refine O_nil ?_
  refine W_loop (fun s1 : Int => ⟨⟨28, [(1, .ro (a1.map cI_i64)), (2, .pown 0 1 0 0), (5, .int .i64 s1)]⟩, [.live .norm 2 [[.int .i64 a0.Actuators, .ro (a0.Steps.map cSStep)]]]⟩) (fun w2 : Unit => ⟨⟨28, [(1, .ro (a1.map cI_i64))]⟩, [.live .norm 2 [[.int .i64 a0.Actuators, .ro (a0.Steps.map cSStep)]]]⟩) h (by kernel_rfl) (fun s1 c h => ?_) (fun w2 h => ?_)
  · refine W_gh ?_
    refine W_seq ?_
    refine W_seq ?_
    refine W_gh ?_
    refine W_reg ?_
    refine O_ps 2 (by kernel_rfl) ?_
    refine O_len (l := a1) cI_i64 (by kernel_rfl) (by kernel_rfl) ?_
    refine O_ps 1 (by kernel_rfl) ?_
    refine O_nil ?_
    refine Gh_end (s1 := ⟨⟨28, [(1, .ro (a1.map cI_i64)), (2, .pown 0 1 0 0), (5, .int .i64 s1), (9, .bool (decide (s1 < (a1.length : Int))))]⟩, [.live .norm 2 [[.int .i64 a0.Actuators, .ro (a0.Steps.map cSStep)]]]⟩) _ (by kernel_rfl) ?_
    refine W_gh ?_
    refine W_cond (c := (decide (s1 < (a1.length : Int)))) (by kernel_rfl) (fun c3 => ?_) (fun c3 => ?_)
    · replace h := fork_t c3 h
      refine W_skip ?_
      refine Gh_end (s1 := ⟨⟨28, [(1, .ro (a1.map cI_i64)), (2, .pown 0 1 0 0), (5, .int .i64 s1)]⟩, [.live .norm 2 [[.int .i64 a0.Actuators, .ro (a0.Steps.map cSStep)]]]⟩) _ (by kernel_rfl) ?_
      refine W_seq ?_
      refine W_gh ?_
      refine W_block ?_
      refine W_seq ?_
      refine W_gh ?_
      refine W_draw ?_
      refine O_ps 3 (by kernel_rfl) ?_
      refine O_idx (kd := .i64) cI_i64 h (fun _ => rfl) (by kernel_rfl) (by kernel_rfl) (by kernel_rfl) (fun v4 e_v4 h => ?_)
      refine O_ps 4 (by kernel_rfl) ?_
      refine O_call (fun v => .int .i64 v) h (.inr rfl) (ys := [.agg (cSSequence a0), .ro (a1.map cI_i64), .int .i64 s1]) (fun _ e => p52 _ _ _ _ e) (by kernel_rfl) (by kernel_rfl) (bels_cons (okSSequence.bel _) (bels_cons (ro_bel okI_i64.bel _) (bels_cons rfl rfl))) (fun v5 e_v5 h => ?_)
      refine O_ps 2 (by kernel_rfl) ?_
      refine O_idx (kd := .i64) cI_i64 h (fun _ => rfl) (by kernel_rfl) (by kernel_rfl) (by kernel_rfl) (fun v6 e_v6 h => ?_)
      refine O_ps 2 (by kernel_rfl) ?_
      refine O_call (fun v => .bool v) h (.inr rfl) (ys := [.agg (cSSequence a0), .int .i64 v4, .int .i64 (subI .i64 v5 v6)]) (fun _ e => p78 _ _ _ _ e) (by kernel_rfl) (by kernel_rfl) (bels_cons (okSSequence.bel _) (bels_cons rfl (bels_cons rfl rfl))) (fun v7 e_v7 h => ?_)
      refine O_ps 1 (by kernel_rfl) ?_
      refine O_nil ?_
      refine Gh_end (s1 := ⟨⟨28, [(1, .ro (a1.map cI_i64)), (2, .pown 0 1 0 0), (5, .int .i64 s1), (27, .bool (!v7))]⟩, [.live .norm 2 [[.int .i64 a0.Actuators, .ro (a0.Steps.map cSStep)]]]⟩) _ (by kernel_rfl) ?_
      refine W_gh ?_
      refine W_cond (c := (!v7)) (by kernel_rfl) (fun c8 => ?_) (fun c8 => ?_)
      · replace h := fork_t c8 h
        refine W_seq ?_
        refine W_reg ?_
        refine O_ps 1 (by kernel_rfl) ?_
        refine O_nil ?_
        refine W_ret ?_
        replace h := Option.some.inj h; subst h
        refine ⟨_, rfl, fun h => ?_⟩
        replace h := Option.some.inj h; subst h
        exact Fin_free (l := [.bool false]) (by kernel_rfl) (by kernel_rfl) rfl
      · replace h := fork_f c8 h
        refine W_skip ?_
        refine Gh_end (s1 := ⟨⟨28, [(1, .ro (a1.map cI_i64)), (2, .pown 0 1 0 0), (5, .int .i64 s1)]⟩, [.live .norm 2 [[.int .i64 a0.Actuators, .ro (a0.Steps.map cSStep)]]]⟩) _ (by kernel_rfl) ?_
        refine Gh_end (s1 := ⟨⟨28, [(1, .ro (a1.map cI_i64)), (2, .pown 0 1 0 0), (5, .int .i64 s1)]⟩, [.live .norm 2 [[.int .i64 a0.Actuators, .ro (a0.Steps.map cSStep)]]]⟩) _ (by kernel_rfl) ?_
        refine W_gh ?_
        refine W_reg ?_
        refine O_ps 3 (by kernel_rfl) ?_
        refine O_nil ?_
        refine Gh_end (s1 := ⟨⟨28, [(1, .ro (a1.map cI_i64)), (2, .pown 0 1 0 0), (5, .int .i64 (addI .i64 s1 1))]⟩, [.live .norm 2 [[.int .i64 a0.Actuators, .ro (a0.Steps.map cSStep)]]]⟩) _ (by kernel_rfl) ?_
        refine Gh_end (s1 := ⟨⟨28, [(1, .ro (a1.map cI_i64)), (2, .pown 0 1 0 0), (5, .int .i64 (addI .i64 s1 1))]⟩, [.live .norm 2 [[.int .i64 a0.Actuators, .ro (a0.Steps.map cSStep)]]]⟩) _ (by kernel_rfl) ?_
        replace h := Option.some.inj h; subst h
        exact ⟨_, rfl, by kernel_rfl⟩
    · replace h := fork_f c3 h
      refine W_exit ?_
      refine X_hit ?_
      refine Gh_end (s1 := ⟨⟨28, [(1, .ro (a1.map cI_i64))]⟩, [.live .norm 2 [[.int .i64 a0.Actuators, .ro (a0.Steps.map cSStep)]]]⟩) _ (by kernel_rfl) ?_
      replace h := Option.some.inj h; subst h
      exact ⟨_, rfl, by kernel_rfl⟩
  · refine W_seq ?_
    refine W_reg ?_
    refine O_ps 1 (by kernel_rfl) ?_
    refine O_nil ?_
    refine W_ret ?_
    replace h := Option.some.inj h; subst h
    exact Fin_free (l := [.bool true]) (by kernel_rfl) (by kernel_rfl) rfl

theorem p46 (a0 : SSequence) (a1 : (List Int)) (a2 : Bool) (r : Int) (h : m46 a0 a1 a2 = some r) : Pt E0 hp 46 [.agg (cSSequence a0), .ro (a1.map cI_i64), .bool a2] (.int .i64 r) := by
  unfold m46 at h
  refine Pt_W (fn46) rfl (by decide) ?_
  refine W_seq ?_
  refine W_gh ?_
  refine W_reg ?_
  refine O_ps 2 (by kernel_rfl) ?_
  refine O_nil ?_
  refine Gh_end (s1 := ⟨⟨25, [(1, .ro (a1.map cI_i64)), (2, .bool a2), (3, .pown 0 1 0 0)]⟩, [.live .norm 2 [[.int .i64 a0.Actuators, .ro (a0.Steps.map cSStep)]]]⟩) _ (by kernel_rfl) ?_
  refine W_seq ?_
  refine W_seq ?_
  refine W_gh ?_
  refine W_reg ?_
  refine O_ps 1 (by kernel_rfl) ?_
  refine O_call (fun v => .int .i64 v) h (.inr rfl) (ys := [.agg (cSSequence a0)]) (fun _ e => p37 _ _ e) (by kernel_rfl) (by kernel_rfl) (bels_cons (okSSequence.bel _) rfl) (fun v1 e_v1 h => ?_)
  refine O_ps 1 (by kernel_rfl) ?_
  refine O_nil ?_
  refine Gh_end (s1 := ⟨⟨25, [(1, .ro (a1.map cI_i64)), (2, .bool a2), (3, .pown 0 1 0 0), (7, .int .i64 v1)]⟩, [.live .norm 2 [[.int .i64 a0.Actuators, .ro (a0.Steps.map cSStep)]]]⟩) _ (by kernel_rfl) ?_
  refine W_seq ?_
  refine W_gh ?_
  refine W_reg ?_
  refine O_ps 2 (by kernel_rfl) ?_
  refine O_nil ?_
  refine Gh_end (s1 := ⟨⟨25, [(1, .ro (a1.map cI_i64)), (2, .bool a2), (3, .pown 0 1 0 0), (7, .int .i64 v1), (12, .bool (v1 != 0))]⟩, [.live .norm 2 [[.int .i64 a0.Actuators, .ro (a0.Steps.map cSStep)]]]⟩) _ (by kernel_rfl) ?_
  refine W_gh ?_
  refine W_cond (c := (v1 != 0)) (by kernel_rfl) (fun c2 => ?_) (fun c2 => ?_)
  · replace h := fork_t c2 h
    refine W_seq ?_
    refine W_gh ?_
    refine W_reg ?_
    refine O_ps 2 (by kernel_rfl) ?_
    refine O_nil ?_
    refine Gh_end (s1 := ⟨⟨25, [(1, .ro (a1.map cI_i64)), (2, .bool a2), (3, .pown 0 1 0 0), (6, .int .i64 v1), (12, .bool (v1 != 0))]⟩, [.live .norm 2 [[.int .i64 a0.Actuators, .ro (a0.Steps.map cSStep)]]]⟩) _ (by kernel_rfl) ?_
    refine W_ret ?_
    replace h := Option.some.inj h; subst h
    exact Fin_free (l := [.int .i64 v1]) (by kernel_rfl) (by kernel_rfl) rfl
  · replace h := fork_f c2 h
    refine W_skip ?_
    refine Gh_end (s1 := ⟨⟨25, [(1, .ro (a1.map cI_i64)), (2, .bool a2), (3, .pown 0 1 0 0)]⟩, [.live .norm 2 [[.int .i64 a0.Actuators, .ro (a0.Steps.map cSStep)]]]⟩) _ (by kernel_rfl) ?_
    refine W_seq ?_
    refine W_seq ?_
    refine W_gh ?_
    refine W_reg ?_
    refine O_ps 3 (by kernel_rfl) ?_
    refine O_call (fun v => .int .i64 v) h (.inr rfl) (ys := [.agg (cSSequence a0), .ro (a1.map cI_i64), .bool a2]) (fun _ e => p65 _ _ _ _ e) (by kernel_rfl) (by kernel_rfl) (bels_cons (okSSequence.bel _) (bels_cons (ro_bel okI_i64.bel _) (bels_cons rfl rfl))) (fun v3 e_v3 h => ?_)
    refine O_ps 1 (by kernel_rfl) ?_
    refine O_nil ?_
    refine Gh_end (s1 := ⟨⟨25, [(1, .ro (a1.map cI_i64)), (3, .pown 0 1 0 0), (8, .int .i64 v3)]⟩, [.live .norm 2 [[.int .i64 a0.Actuators, .ro (a0.Steps.map cSStep)]]]⟩) _ (by kernel_rfl) ?_
    refine W_seq ?_
    refine W_gh ?_
    refine W_reg ?_
    refine O_ps 2 (by kernel_rfl) ?_
    refine O_nil ?_
    refine Gh_end (s1 := ⟨⟨25, [(1, .ro (a1.map cI_i64)), (3, .pown 0 1 0 0), (8, .int .i64 v3), (19, .bool (v3 != 0))]⟩, [.live .norm 2 [[.int .i64 a0.Actuators, .ro (a0.Steps.map cSStep)]]]⟩) _ (by kernel_rfl) ?_
    refine W_gh ?_
    refine W_cond (c := (v3 != 0)) (by kernel_rfl) (fun c4 => ?_) (fun c4 => ?_)
    · replace h := fork_t c4 h
      refine W_seq ?_
      refine W_gh ?_
      refine W_reg ?_
      refine O_ps 2 (by kernel_rfl) ?_
      refine O_nil ?_
      refine Gh_end (s1 := ⟨⟨25, [(1, .ro (a1.map cI_i64)), (3, .pown 0 1 0 0), (6, .int .i64 v3), (19, .bool (v3 != 0))]⟩, [.live .norm 2 [[.int .i64 a0.Actuators, .ro (a0.Steps.map cSStep)]]]⟩) _ (by kernel_rfl) ?_
      refine W_ret ?_
      replace h := Option.some.inj h; subst h
      exact Fin_free (l := [.int .i64 v3]) (by kernel_rfl) (by kernel_rfl) rfl
    · replace h := fork_f c4 h
      refine W_skip ?_
      refine Gh_end (s1 := ⟨⟨25, [(1, .ro (a1.map cI_i64)), (3, .pown 0 1 0 0)]⟩, [.live .norm 2 [[.int .i64 a0.Actuators, .ro (a0.Steps.map cSStep)]]]⟩) _ (by kernel_rfl) ?_
      refine W_seq ?_
      refine W_seq ?_
      refine W_gh ?_
      refine W_reg ?_
      refine O_ps 2 (by kernel_rfl) ?_
      refine O_call (fun v => .bool v) h (.inr rfl) (ys := [.agg (cSSequence a0), .ro (a1.map cI_i64)]) (fun _ e => p66 _ _ _ e) (by kernel_rfl) (by kernel_rfl) (bels_cons (okSSequence.bel _) (bels_cons (ro_bel okI_i64.bel _) rfl)) (fun v5 e_v5 h => ?_)
      refine O_ps 1 (by kernel_rfl) ?_
      refine O_nil ?_
      refine Gh_end (s1 := ⟨⟨25, [(24, .bool (!v5))]⟩, [.live .norm 2 [[.int .i64 a0.Actuators, .ro (a0.Steps.map cSStep)]]]⟩) _ (by kernel_rfl) ?_
      refine W_gh ?_
      refine W_cond (c := (!v5)) (by kernel_rfl) (fun c6 => ?_) (fun c6 => ?_)
      · replace h := fork_t c6 h
        refine W_seq ?_
        refine W_reg ?_
        refine O_ps 1 (by kernel_rfl) ?_
        refine O_nil ?_
        refine W_ret ?_
        replace h := Option.some.inj h; subst h
        exact Fin_free (l := [.int .i64 7]) (by kernel_rfl) (by kernel_rfl) rfl
      · replace h := fork_f c6 h
        refine W_skip ?_
        refine Gh_end (s1 := ⟨⟨25, []⟩, [.live .norm 2 [[.int .i64 a0.Actuators, .ro (a0.Steps.map cSStep)]]]⟩) _ (by kernel_rfl) ?_
        refine W_seq ?_
        refine W_reg ?_
        refine O_ps 1 (by kernel_rfl) ?_
        refine O_nil ?_
        refine W_ret ?_
        replace h := Option.some.inj h; subst h
        exact Fin_free (l := [.int .i64 0]) (by kernel_rfl) (by kernel_rfl) rfl

theorem p24 (a0 : SSequence) (a1 : (List Int)) (r : Int) (h : m24 a0 a1 = some r) : Pt E0 hp 24 [.agg (cSSequence a0), .ro (a1.map cI_i64)] (.int .i64 r) := by
  unfold m24 at h
  refine Pt_W (fn24) rfl (by decide) ?_
  refine W_seq ?_
  refine W_gh ?_
  refine W_reg ?_
  refine O_ps 2 (by kernel_rfl) ?_
  refine O_nil ?_
  refine Gh_end (s1 := ⟨⟨8, [(1, .ro (a1.map cI_i64)), (2, .pown 0 1 0 0)]⟩, [.live .norm 2 [[.int .i64 a0.Actuators, .ro (a0.Steps.map cSStep)]]]⟩) _ (by kernel_rfl) ?_
  refine W_seq ?_
  refine W_gh ?_
  refine W_reg ?_
  refine O_ps 2 (by kernel_rfl) ?_
  refine O_call (fun v => .int .i64 v) h (.inr rfl) (ys := [.agg (cSSequence a0), .ro (a1.map cI_i64), .bool true]) (fun _ e => p46 _ _ _ _ e) (by kernel_rfl) (by kernel_rfl) (bels_cons (okSSequence.bel _) (bels_cons (ro_bel okI_i64.bel _) (bels_cons rfl rfl))) (fun v1 e_v1 h => ?_)
  refine O_ps 1 (by kernel_rfl) ?_
  refine O_nil ?_
  refine Gh_end (s1 := ⟨⟨8, [(4, .int .i64 v1)]⟩, [.live .norm 2 [[.int .i64 a0.Actuators, .ro (a0.Steps.map cSStep)]]]⟩) _ (by kernel_rfl) ?_
  refine W_ret ?_
  replace h := Option.some.inj h; subst h
  exact Fin_free (l := [.int .i64 v1]) (by kernel_rfl) (by kernel_rfl) rfl

theorem p68 (a0 : SSequence) (a1 : (List Int)) (a2 : Bool) (r : Int) (h : m68 a0 a1 a2 = some r) : Pt E0 hp 68 [.agg (cSSequence a0), .ro (a1.map cI_i64), .bool a2] (.int .i64 r) := by
  unfold m68 at h
  refine Pt_W (fn68) rfl (by decide) ?_
  refine W_seq ?_
  refine W_gh ?_
  refine W_reg ?_
  refine O_ps 2 (by kernel_rfl) ?_
  refine O_nil ?_
  refine Gh_end (s1 := ⟨⟨58, [(1, .ro (a1.map cI_i64)), (2, .bool a2), (3, .pown 0 1 0 0)]⟩, [.live .norm 2 [[.int .i64 a0.Actuators, .ro (a0.Steps.map cSStep)]]]⟩) _ (by kernel_rfl) ?_
  refine W_seq ?_
  refine W_gh ?_
  refine W_block ?_
  refine W_seq ?_
  refine W_gh ?_
  refine W_reg ?_
  refine O_ps 1 (by kernel_rfl) ?_
  refine O_len (l := a1) cI_i64 (by kernel_rfl) (by kernel_rfl) ?_
  refine O_ps 2 (by kernel_rfl) ?_
  refine O_nil ?_
  refine Gh_end (s1 := ⟨⟨58, [(1, .ro (a1.map cI_i64)), (2, .bool a2), (3, .pown 0 1 0 0), (9, .bool ((a1.length : Int) == 0))]⟩, [.live .norm 2 [[.int .i64 a0.Actuators, .ro (a0.Steps.map cSStep)]]]⟩) _ (by kernel_rfl) ?_
  refine W_gh ?_
  refine W_cond (c := ((a1.length : Int) == 0)) (by kernel_rfl) (fun c1 => ?_) (fun c1 => ?_)
  · replace h := fork_t c1 h
    refine W_seq ?_
    refine W_reg ?_
    refine O_ps 1 (by kernel_rfl) ?_
    refine O_nil ?_
    refine W_ret ?_
    replace h := Option.some.inj h; subst h
    exact Fin_free (l := [.int .i64 13]) (by kernel_rfl) (by kernel_rfl) rfl
  · replace h := fork_f c1 h
    refine W_seq ?_
    refine W_gh ?_
    refine W_reg ?_
    refine O_ps 1 (by kernel_rfl) ?_
    refine O_len (l := a1) cI_i64 (by kernel_rfl) (by kernel_rfl) ?_
    refine O_ps 2 (by kernel_rfl) ?_
    refine O_len (l := a0.Steps) cSStep (by kernel_rfl) (by kernel_rfl) ?_
    refine O_ps 2 (by kernel_rfl) ?_
    refine O_nil ?_
    refine Gh_end (s1 := ⟨⟨58, [(1, .ro (a1.map cI_i64)), (2, .bool a2), (3, .pown 0 1 0 0), (9, .bool ((a1.length : Int) == 0)), (13, .bool (decide ((a1.length : Int) > (a0.Steps.length : Int))))]⟩, [.live .norm 2 [[.int .i64 a0.Actuators, .ro (a0.Steps.map cSStep)]]]⟩) _ (by kernel_rfl) ?_
    refine W_gh ?_
    refine W_cond (c := (decide ((a1.length : Int) > (a0.Steps.length : Int)))) (by kernel_rfl) (fun c2 => ?_) (fun c2 => ?_)
    · replace h := fork_t c2 h
      refine W_seq ?_
      refine W_reg ?_
      refine O_ps 1 (by kernel_rfl) ?_
      refine O_nil ?_
      refine W_ret ?_
      replace h := Option.some.inj h; subst h
      exact Fin_free (l := [.int .i64 5]) (by kernel_rfl) (by kernel_rfl) rfl
    · replace h := fork_f c2 h
      refine W_seq ?_
      refine W_joinS (fun v : Bool => ⟨⟨58, [(1, .ro (a1.map cI_i64)), (3, .pown 0 1 0 0), (9, .bool ((a1.length : Int) == 0)), (13, .bool (decide ((a1.length : Int) > (a0.Steps.length : Int)))), (20, .bool v)]⟩, [.live .norm 2 [[.int .i64 a0.Actuators, .ro (a0.Steps.map cSStep)]]]⟩) h (fun w h => ?_) (fun w3 e_w3 h => ?_)
      · refine W_gh ?_
        refine W_reg ?_
        refine O_ps 2 (by kernel_rfl) ?_
        refine O_fork (n := 22) a2 (by kernel_rfl) (fun c4 => ?_) (fun c4 => ?_)
        · replace h := fork_t c4 h
          refine O_ps 1 (by kernel_rfl) ?_
          refine O_idx (kd := .i64) cI_i64 h (fun _ => rfl) (by kernel_rfl) (by kernel_rfl) (by kernel_rfl) (fun v5 e_v5 h => ?_)
          refine O_ps 4 (by kernel_rfl) ?_
          refine O_nil ?_
          refine Gh_end (s1 := ⟨⟨58, [(1, .ro (a1.map cI_i64)), (3, .pown 0 1 0 0), (9, .bool ((a1.length : Int) == 0)), (13, .bool (decide ((a1.length : Int) > (a0.Steps.length : Int)))), (20, .bool (v5 != 0))]⟩, [.live .norm 2 [[.int .i64 a0.Actuators, .ro (a0.Steps.map cSStep)]]]⟩) _ (by kernel_rfl) ?_
          replace h := Option.some.inj h; subst h
          show _ = _
          kernel_rfl
        · replace h := fork_f c4 h
          refine O_ps 6 (by kernel_rfl) ?_
          refine O_nil ?_
          refine Gh_end (s1 := ⟨⟨58, [(1, .ro (a1.map cI_i64)), (3, .pown 0 1 0 0), (9, .bool ((a1.length : Int) == 0)), (13, .bool (decide ((a1.length : Int) > (a0.Steps.length : Int)))), (20, .bool false)]⟩, [.live .norm 2 [[.int .i64 a0.Actuators, .ro (a0.Steps.map cSStep)]]]⟩) _ (by kernel_rfl) ?_
          replace h := Option.some.inj h; subst h
          show _ = _
          kernel_rfl
      · refine W_gh ?_
        refine W_cond (c := w3) (by kernel_rfl) (fun c6 => ?_) (fun c6 => ?_)
        · replace h := fork_t c6 h
          refine W_seq ?_
          refine W_reg ?_
          refine O_ps 1 (by kernel_rfl) ?_
          refine O_nil ?_
          refine W_ret ?_
          replace h := Option.some.inj h; subst h
          exact Fin_free (l := [.int .i64 3]) (by kernel_rfl) (by kernel_rfl) rfl
        · replace h := fork_f c6 h
          refine W_skip ?_
          refine Gh_end (s1 := ⟨⟨58, [(1, .ro (a1.map cI_i64)), (3, .pown 0 1 0 0), (9, .bool ((a1.length : Int) == 0)), (13, .bool (decide ((a1.length : Int) > (a0.Steps.length : Int))))]⟩, [.live .norm 2 [[.int .i64 a0.Actuators, .ro (a0.Steps.map cSStep)]]]⟩) _ (by kernel_rfl) ?_
          refine Gh_end (s1 := ⟨⟨58, [(1, .ro (a1.map cI_i64)), (3, .pown 0 1 0 0), (9, .bool ((a1.length : Int) == 0))]⟩, [.live .norm 2 [[.int .i64 a0.Actuators, .ro (a0.Steps.map cSStep)]]]⟩) _ (by kernel_rfl) ?_
          refine Gh_end (s1 := ⟨⟨58, [(1, .ro (a1.map cI_i64)), (3, .pown 0 1 0 0)]⟩, [.live .norm 2 [[.int .i64 a0.Actuators, .ro (a0.Steps.map cSStep)]]]⟩) _ (by kernel_rfl) ?_
          refine Gh_end (s1 := ⟨⟨58, [(1, .ro (a1.map cI_i64)), (3, .pown 0 1 0 0)]⟩, [.live .norm 2 [[.int .i64 a0.Actuators, .ro (a0.Steps.map cSStep)]]]⟩) _ (by kernel_rfl) ?_
          refine W_seq ?_
          refine W_seq ?_
          refine W_reg ?_
          refine O_ps 1 (by kernel_rfl) ?_
          refine O_len (l := a1) cI_i64 (by kernel_rfl) (by kernel_rfl) ?_
          refine O_ps 1 (by kernel_rfl) ?_
          refine O_nil ?_
          refine W_loop (fun s7 : Int => ⟨⟨58, [(1, .ro (a1.map cI_i64)), (3, .pown 0 1 0 0), (28, .ro (a1.map cI_i64)), (29, .int .i64 (a1.length : Int)), (30, .int .i64 s7)]⟩, [.live .norm 2 [[.int .i64 a0.Actuators, .ro (a0.Steps.map cSStep)]]]⟩) (fun w8 : Unit => ⟨⟨58, [(1, .ro (a1.map cI_i64))]⟩, [.live .norm 2 [[.int .i64 a0.Actuators, .ro (a0.Steps.map cSStep)]]]⟩) h (by kernel_rfl) (fun s7 c h => ?_) (fun w8 h => ?_)
          · refine W_gh ?_
            refine W_seq ?_
            refine W_reg ?_
            refine O_ps 1 (by kernel_rfl) ?_
            refine O_nil ?_
            refine W_seq ?_
            refine W_gh ?_
            refine W_cond (c := (decide (s7 < (a1.length : Int)))) (by kernel_rfl) (fun c9 => ?_) (fun c9 => ?_)
            · replace h := fork_t c9 h
              refine W_skip ?_
              refine Gh_end (s1 := ⟨⟨58, [(1, .ro (a1.map cI_i64)), (3, .pown 0 1 0 0), (28, .ro (a1.map cI_i64)), (29, .int .i64 (a1.length : Int)), (30, .int .i64 s7)]⟩, [.live .norm 2 [[.int .i64 a0.Actuators, .ro (a0.Steps.map cSStep)]]]⟩) _ (by kernel_rfl) ?_
              refine W_seq ?_
              refine W_gh ?_
              refine W_block ?_
              refine W_seq ?_
              refine W_gh ?_
              refine W_reg ?_
              refine O_ps 1 (by kernel_rfl) ?_
              refine O_idx (kd := .i64) cI_i64 h (fun _ => rfl) (by kernel_rfl) (by kernel_rfl) (by kernel_rfl) (fun v10 e_v10 h => ?_)
              refine O_ps 3 (by kernel_rfl) ?_
              refine O_nil ?_
              refine Gh_end (s1 := ⟨⟨58, [(1, .ro (a1.map cI_i64)), (3, .pown 0 1 0 0), (7, .int .i64 s7), (8, .int .i64 v10), (28, .ro (a1.map cI_i64)), (29, .int .i64 (a1.length : Int)), (30, .int .i64 s7)]⟩, [.live .norm 2 [[.int .i64 a0.Actuators, .ro (a0.Steps.map cSStep)]]]⟩) _ (by kernel_rfl) ?_
              refine W_gh ?_
              refine W_block ?_
              refine W_seq ?_
              refine W_cut ⟨⟨58, [(1, .ro (a1.map cI_i64)), (3, .pown 0 1 0 0), (7, .int .i64 s7), (8, .int .i64 v10), (28, .ro (a1.map cI_i64)), (29, .int .i64 (a1.length : Int)), (30, .int .i64 s7), (35, .bool ((decide (v10 < 0)) || (decide (v10 ≥ (a0.Steps.length : Int)))))]⟩, [.live .norm 2 [[.int .i64 a0.Actuators, .ro (a0.Steps.map cSStep)]]]⟩ ?_ ?_
              · generalize e_g11 : ((decide (v10 < 0)) || (decide (v10 ≥ (a0.Steps.length : Int)))) = g11
                refine W_gh ?_
                refine W_reg ?_
                refine O_ps 3 (by kernel_rfl) ?_
                refine O_fork (n := 38) (decide (v10 < 0)) (by kernel_rfl) (fun c12 => ?_) (fun c12 => ?_)
                · skip
                  refine O_ps 7 (by kernel_rfl) ?_
                  refine O_nil ?_
                  refine Gh_end (s1 := ⟨⟨58, [(1, .ro (a1.map cI_i64)), (3, .pown 0 1 0 0), (7, .int .i64 s7), (8, .int .i64 v10), (28, .ro (a1.map cI_i64)), (29, .int .i64 (a1.length : Int)), (30, .int .i64 s7), (35, .bool true)]⟩, [.live .norm 2 [[.int .i64 a0.Actuators, .ro (a0.Steps.map cSStep)]]]⟩) _ (by kernel_rfl) ?_
                  have q := e_g11; simp only [c1, c2, c6, c9, c12, cond_true, cond_false, Bool.true_and, Bool.false_and, Bool.true_or, Bool.false_or] at q; subst q
                  show _ = _
                  kernel_rfl
                · skip
                  refine O_ps 3 (by kernel_rfl) ?_
                  refine O_len (l := a0.Steps) cSStep (by kernel_rfl) (by kernel_rfl) ?_
                  refine O_ps 3 (by kernel_rfl) ?_
                  refine O_nil ?_
                  refine Gh_end (s1 := ⟨⟨58, [(1, .ro (a1.map cI_i64)), (3, .pown 0 1 0 0), (7, .int .i64 s7), (8, .int .i64 v10), (28, .ro (a1.map cI_i64)), (29, .int .i64 (a1.length : Int)), (30, .int .i64 s7), (35, .bool (decide (v10 ≥ (a0.Steps.length : Int))))]⟩, [.live .norm 2 [[.int .i64 a0.Actuators, .ro (a0.Steps.map cSStep)]]]⟩) _ (by kernel_rfl) ?_
                  have q := e_g11; simp only [c1, c2, c6, c9, c12, cond_true, cond_false, Bool.true_and, Bool.false_and, Bool.true_or, Bool.false_or] at q; subst q
                  show _ = _
                  kernel_rfl
              · refine W_gh ?_
                refine W_cond (c := ((decide (v10 < 0)) || (decide (v10 ≥ (a0.Steps.length : Int))))) (by kernel_rfl) (fun c13 => ?_) (fun c13 => ?_)
                · replace h := fork_t c13 h
                  refine W_seq ?_
                  refine W_reg ?_
                  refine O_ps 1 (by kernel_rfl) ?_
                  refine O_nil ?_
                  refine W_ret ?_
                  replace h := Option.some.inj h; subst h
                  refine ⟨_, rfl, fun h => ?_⟩
                  replace h := Option.some.inj h; subst h
                  exact Fin_free (l := [.int .i64 2]) (by kernel_rfl) (by kernel_rfl) rfl
                · replace h := fork_f c13 h
                  refine W_seq ?_
                  refine W_joinS (fun v : Bool => ⟨⟨58, [(1, .ro (a1.map cI_i64)), (3, .pown 0 1 0 0), (28, .ro (a1.map cI_i64)), (29, .int .i64 (a1.length : Int)), (30, .int .i64 s7), (35, .bool ((decide (v10 < 0)) || (decide (v10 ≥ (a0.Steps.length : Int))))), (45, .bool v)]⟩, [.live .norm 2 [[.int .i64 a0.Actuators, .ro (a0.Steps.map cSStep)]]]⟩) h (fun w h => ?_) (fun w14 e_w14 h => ?_)
                  · refine W_gh ?_
                    refine W_reg ?_
                    refine O_ps 3 (by kernel_rfl) ?_
                    refine O_fork (n := 48) (decide (s7 > 0)) (by kernel_rfl) (fun c15 => ?_) (fun c15 => ?_)
                    · replace h := fork_t c15 h
                      refine O_ps 4 (by kernel_rfl) ?_
                      refine O_idx (kd := .i64) cI_i64 h (fun _ => rfl) (by kernel_rfl) (by kernel_rfl) (by kernel_rfl) (fun v16 e_v16 h => ?_)
                      refine O_ps 4 (by kernel_rfl) ?_
                      refine O_nil ?_
                      refine Gh_end (s1 := ⟨⟨58, [(1, .ro (a1.map cI_i64)), (3, .pown 0 1 0 0), (28, .ro (a1.map cI_i64)), (29, .int .i64 (a1.length : Int)), (30, .int .i64 s7), (35, .bool ((decide (v10 < 0)) || (decide (v10 ≥ (a0.Steps.length : Int))))), (45, .bool (decide (v10 ≤ v16)))]⟩, [.live .norm 2 [[.int .i64 a0.Actuators, .ro (a0.Steps.map cSStep)]]]⟩) _ (by kernel_rfl) ?_
                      replace h := Option.some.inj h; subst h
                      show _ = _
                      kernel_rfl
                    · replace h := fork_f c15 h
                      refine O_ps 9 (by kernel_rfl) ?_
                      refine O_nil ?_
                      refine Gh_end (s1 := ⟨⟨58, [(1, .ro (a1.map cI_i64)), (3, .pown 0 1 0 0), (28, .ro (a1.map cI_i64)), (29, .int .i64 (a1.length : Int)), (30, .int .i64 s7), (35, .bool ((decide (v10 < 0)) || (decide (v10 ≥ (a0.Steps.length : Int))))), (45, .bool false)]⟩, [.live .norm 2 [[.int .i64 a0.Actuators, .ro (a0.Steps.map cSStep)]]]⟩) _ (by kernel_rfl) ?_
                      replace h := Option.some.inj h; subst h
                      show _ = _
                      kernel_rfl
                  · refine W_gh ?_
                    refine W_cond (c := w14) (by kernel_rfl) (fun c17 => ?_) (fun c17 => ?_)
                    · replace h := fork_t c17 h
                      refine W_seq ?_
                      refine W_reg ?_
                      refine O_ps 1 (by kernel_rfl) ?_
                      refine O_nil ?_
                      refine W_ret ?_
                      replace h := Option.some.inj h; subst h
                      refine ⟨_, rfl, fun h => ?_⟩
                      replace h := Option.some.inj h; subst h
                      exact Fin_free (l := [.int .i64 9]) (by kernel_rfl) (by kernel_rfl) rfl
                    · replace h := fork_f c17 h
                      refine W_skip ?_
                      refine Gh_end (s1 := ⟨⟨58, [(1, .ro (a1.map cI_i64)), (3, .pown 0 1 0 0), (28, .ro (a1.map cI_i64)), (29, .int .i64 (a1.length : Int)), (30, .int .i64 s7), (35, .bool ((decide (v10 < 0)) || (decide (v10 ≥ (a0.Steps.length : Int)))))]⟩, [.live .norm 2 [[.int .i64 a0.Actuators, .ro (a0.Steps.map cSStep)]]]⟩) _ (by kernel_rfl) ?_
                      refine Gh_end (s1 := ⟨⟨58, [(1, .ro (a1.map cI_i64)), (3, .pown 0 1 0 0), (28, .ro (a1.map cI_i64)), (29, .int .i64 (a1.length : Int)), (30, .int .i64 s7)]⟩, [.live .norm 2 [[.int .i64 a0.Actuators, .ro (a0.Steps.map cSStep)]]]⟩) _ (by kernel_rfl) ?_
                      refine Gh_end (s1 := ⟨⟨58, [(1, .ro (a1.map cI_i64)), (3, .pown 0 1 0 0), (28, .ro (a1.map cI_i64)), (29, .int .i64 (a1.length : Int)), (30, .int .i64 s7)]⟩, [.live .norm 2 [[.int .i64 a0.Actuators, .ro (a0.Steps.map cSStep)]]]⟩) _ (by kernel_rfl) ?_
                      refine Gh_end (s1 := ⟨⟨58, [(1, .ro (a1.map cI_i64)), (3, .pown 0 1 0 0), (28, .ro (a1.map cI_i64)), (29, .int .i64 (a1.length : Int)), (30, .int .i64 s7)]⟩, [.live .norm 2 [[.int .i64 a0.Actuators, .ro (a0.Steps.map cSStep)]]]⟩) _ (by kernel_rfl) ?_
                      refine W_gh ?_
                      refine W_reg ?_
                      refine O_ps 2 (by kernel_rfl) ?_
                      refine O_nil ?_
                      refine Gh_end (s1 := ⟨⟨58, [(1, .ro (a1.map cI_i64)), (3, .pown 0 1 0 0), (28, .ro (a1.map cI_i64)), (29, .int .i64 (a1.length : Int)), (30, .int .i64 (addI .i64 s7 1))]⟩, [.live .norm 2 [[.int .i64 a0.Actuators, .ro (a0.Steps.map cSStep)]]]⟩) _ (by kernel_rfl) ?_
                      refine Gh_end (s1 := ⟨⟨58, [(1, .ro (a1.map cI_i64)), (3, .pown 0 1 0 0), (28, .ro (a1.map cI_i64)), (29, .int .i64 (a1.length : Int)), (30, .int .i64 (addI .i64 s7 1))]⟩, [.live .norm 2 [[.int .i64 a0.Actuators, .ro (a0.Steps.map cSStep)]]]⟩) _ (by kernel_rfl) ?_
                      replace h := Option.some.inj h; subst h
                      exact ⟨_, rfl, by kernel_rfl⟩
            · replace h := fork_f c9 h
              refine W_exit ?_
              refine X_hit ?_
              refine Gh_end (s1 := ⟨⟨58, [(1, .ro (a1.map cI_i64))]⟩, [.live .norm 2 [[.int .i64 a0.Actuators, .ro (a0.Steps.map cSStep)]]]⟩) _ (by kernel_rfl) ?_
              replace h := Option.some.inj h; subst h
              exact ⟨_, rfl, by kernel_rfl⟩
          · refine W_seq ?_
            refine W_reg ?_
            refine O_ps 1 (by kernel_rfl) ?_
            refine O_nil ?_
            refine W_ret ?_
            replace h := Option.some.inj h; subst h
            exact Fin_free (l := [.int .i64 0]) (by kernel_rfl) (by kernel_rfl) rfl

theorem p48 (a0 : SSequence) (a1 : (List Int)) (r : (List Int)) (h : m48 a0 a1 = some r) : Pt E0 hp 48 [.agg (cSSequence a0), .ro (a1.map cI_i64)] (.ro (r.map cI_i64)) := by
  unfold m48 at h
  refine Pt_W (fn48) rfl (by decide) ?_
  refine W_seq ?_
  refine W_gh ?_
  refine W_reg ?_
  refine O_ps 2 (by kernel_rfl) ?_
  refine O_nil ?_
  refine Gh_end (s1 := ⟨⟨41, [(1, .ro (a1.map cI_i64)), (2, .pown 0 1 0 0)]⟩, [.live .norm 2 [[.int .i64 a0.Actuators, .ro (a0.Steps.map cSStep)]]]⟩) _ (by kernel_rfl) ?_
  refine W_seq ?_
  refine W_gh ?_
  refine W_reg ?_
  refine O_ps 1 (by kernel_rfl) ?_
  refine O_nil ?_
  refine Gh_end (s1 := ⟨⟨41, [(1, .ro (a1.map cI_i64)), (2, .pown 0 1 0 0), (5, .own 1 0 0 0)]⟩, [.live .norm 2 [[.int .i64 a0.Actuators, .ro (a0.Steps.map cSStep)]], .live .nil 1 (([] : List Int).map cI_i64)]⟩) _ (by kernel_rfl) ?_
  refine W_seq ?_
  refine W_seq ?_
  refine W_reg ?_
  refine O_ps 1 (by kernel_rfl) ?_
  refine O_len (l := a1) cI_i64 (by kernel_rfl) (by kernel_rfl) ?_
  refine O_ps 1 (by kernel_rfl) ?_
  refine O_nil ?_
  refine W_loopS (fun s1 : (List Int) × Int => ⟨⟨41, [(1, .ro (a1.map cI_i64)), (2, .pown 0 1 0 0), (5, .own 1 s1.1.length 0 s1.1.length), (9, .ro (a1.map cI_i64)), (10, .int .i64 (a1.length : Int)), (11, .int .i64 s1.2)]⟩, [.live .norm 2 [[.int .i64 a0.Actuators, .ro (a0.Steps.map cSStep)]], .live .nil 1 (s1.1.map cI_i64)]⟩) (fun w2 : (List Int) => ⟨⟨41, [(1, .ro (a1.map cI_i64)), (5, .own 1 w2.length 0 w2.length)]⟩, [.live .norm 2 [[.int .i64 a0.Actuators, .ro (a0.Steps.map cSStep)]], .live .nil 1 (w2.map cI_i64)]⟩) h (by kernel_rfl) (fun s1 c h => ?_) (fun w2 e_w2 h => ?_)
  · refine W_gh ?_
    refine W_seq ?_
    refine W_reg ?_
    refine O_ps 1 (by kernel_rfl) ?_
    refine O_nil ?_
    refine W_seq ?_
    refine W_gh ?_
    refine W_cond (c := (decide (s1.2 < (a1.length : Int)))) (by kernel_rfl) (fun c3 => ?_) (fun c3 => ?_)
    · replace h := fork_t c3 h
      refine W_skip ?_
      refine Gh_end (s1 := ⟨⟨41, [(1, .ro (a1.map cI_i64)), (2, .pown 0 1 0 0), (5, .own 1 s1.1.length 0 s1.1.length), (9, .ro (a1.map cI_i64)), (10, .int .i64 (a1.length : Int)), (11, .int .i64 s1.2)]⟩, [.live .norm 2 [[.int .i64 a0.Actuators, .ro (a0.Steps.map cSStep)]], .live .nil 1 (s1.1.map cI_i64)]⟩) _ (by kernel_rfl) ?_
      refine W_seq ?_
      refine W_gh ?_
      refine W_block ?_
      refine W_seq ?_
      refine W_gh ?_
      refine W_reg ?_
      refine O_ps 1 (by kernel_rfl) ?_
      refine O_idx (kd := .i64) cI_i64 h (fun _ => rfl) (by kernel_rfl) (by kernel_rfl) (by kernel_rfl) (fun v4 e_v4 h => ?_)
      refine O_ps 3 (by kernel_rfl) ?_
      refine O_nil ?_
      refine Gh_end (s1 := ⟨⟨41, [(1, .ro (a1.map cI_i64)), (2, .pown 0 1 0 0), (5, .own 1 s1.1.length 0 s1.1.length), (6, .int .i64 s1.2), (7, .int .i64 v4), (9, .ro (a1.map cI_i64)), (10, .int .i64 (a1.length : Int)), (11, .int .i64 s1.2)]⟩, [.live .norm 2 [[.int .i64 a0.Actuators, .ro (a0.Steps.map cSStep)]], .live .nil 1 (s1.1.map cI_i64)]⟩) _ (by kernel_rfl) ?_
      refine W_seq ?_
      refine W_gh ?_
      refine W_draw ?_
      refine O_ps 1 (by kernel_rfl) ?_
      refine O_idx (kd := .i64) cI_i64 h (fun _ => rfl) (by kernel_rfl) (by kernel_rfl) (by kernel_rfl) (fun v5 e_v5 h => ?_)
      refine O_ps 3 (by kernel_rfl) ?_
      refine O_len (l := a0.Steps) cSStep (by kernel_rfl) (by kernel_rfl) ?_
      refine O_ps 2 (by kernel_rfl) ?_
      refine O_nil ?_
      refine Gh_end (s1 := ⟨⟨41, [(1, .ro (a1.map cI_i64)), (2, .pown 0 1 0 0), (5, .own 1 s1.1.length 0 s1.1.length), (6, .int .i64 s1.2), (7, .int .i64 v4), (8, .int .i64 (addI .i64 v5 (a0.Steps.length : Int))), (9, .ro (a1.map cI_i64)), (10, .int .i64 (a1.length : Int)), (11, .int .i64 s1.2)]⟩, [.live .norm 2 [[.int .i64 a0.Actuators, .ro (a0.Steps.map cSStep)]], .live .nil 1 (s1.1.map cI_i64)]⟩) _ (by kernel_rfl) ?_
      refine W_seq ?_
      refine W_seq ?_
      refine W_gh ?_
      refine W_reg ?_
      refine O_ps 3 (by kernel_rfl) ?_
      refine O_len (l := a1) cI_i64 (by kernel_rfl) (by kernel_rfl) ?_
      refine O_ps 1 (by kernel_rfl) ?_
      refine O_nil ?_
      refine Gh_end (s1 := ⟨⟨41, [(1, .ro (a1.map cI_i64)), (2, .pown 0 1 0 0), (5, .own 1 s1.1.length 0 s1.1.length), (6, .int .i64 s1.2), (7, .int .i64 v4), (8, .int .i64 (addI .i64 v5 (a0.Steps.length : Int))), (9, .ro (a1.map cI_i64)), (10, .int .i64 (a1.length : Int)), (11, .int .i64 s1.2), (27, .bool (decide ((addI .i64 s1.2 1) < (a1.length : Int))))]⟩, [.live .norm 2 [[.int .i64 a0.Actuators, .ro (a0.Steps.map cSStep)]], .live .nil 1 (s1.1.map cI_i64)]⟩) _ (by kernel_rfl) ?_
      refine W_joinS (fun v : Int => ⟨⟨41, [(1, .ro (a1.map cI_i64)), (2, .pown 0 1 0 0), (5, .own 1 s1.1.length 0 s1.1.length), (7, .int .i64 v4), (8, .int .i64 v), (9, .ro (a1.map cI_i64)), (10, .int .i64 (a1.length : Int)), (11, .int .i64 s1.2)]⟩, [.live .norm 2 [[.int .i64 a0.Actuators, .ro (a0.Steps.map cSStep)]], .live .nil 1 (s1.1.map cI_i64)]⟩) h (fun w h => ?_) (fun w6 e_w6 h => ?_)
      · refine W_gh ?_
        refine W_cond (c := (decide ((addI .i64 s1.2 1) < (a1.length : Int)))) (by kernel_rfl) (fun c7 => ?_) (fun c7 => ?_)
        · replace h := fork_t c7 h
          refine W_gh ?_
          refine W_reg ?_
          refine O_ps 3 (by kernel_rfl) ?_
          refine O_idx (kd := .i64) cI_i64 h (fun _ => rfl) (by kernel_rfl) (by kernel_rfl) (by kernel_rfl) (fun v8 e_v8 h => ?_)
          refine O_ps 2 (by kernel_rfl) ?_
          refine O_nil ?_
          refine Gh_end (s1 := ⟨⟨41, [(1, .ro (a1.map cI_i64)), (2, .pown 0 1 0 0), (5, .own 1 s1.1.length 0 s1.1.length), (7, .int .i64 v4), (8, .int .i64 v8), (9, .ro (a1.map cI_i64)), (10, .int .i64 (a1.length : Int)), (11, .int .i64 s1.2), (27, .bool (decide ((addI .i64 s1.2 1) < (a1.length : Int))))]⟩, [.live .norm 2 [[.int .i64 a0.Actuators, .ro (a0.Steps.map cSStep)]], .live .nil 1 (s1.1.map cI_i64)]⟩) _ (by kernel_rfl) ?_
          refine Gh_end (s1 := ⟨⟨41, [(1, .ro (a1.map cI_i64)), (2, .pown 0 1 0 0), (5, .own 1 s1.1.length 0 s1.1.length), (7, .int .i64 v4), (8, .int .i64 v8), (9, .ro (a1.map cI_i64)), (10, .int .i64 (a1.length : Int)), (11, .int .i64 s1.2)]⟩, [.live .norm 2 [[.int .i64 a0.Actuators, .ro (a0.Steps.map cSStep)]], .live .nil 1 (s1.1.map cI_i64)]⟩) _ (by kernel_rfl) ?_
          replace h := Option.some.inj h; subst h
          show _ = _
          kernel_rfl
        · replace h := fork_f c7 h
          refine W_skip ?_
          refine Gh_end (s1 := ⟨⟨41, [(1, .ro (a1.map cI_i64)), (2, .pown 0 1 0 0), (5, .own 1 s1.1.length 0 s1.1.length), (7, .int .i64 v4), (8, .int .i64 (addI .i64 v5 (a0.Steps.length : Int))), (9, .ro (a1.map cI_i64)), (10, .int .i64 (a1.length : Int)), (11, .int .i64 s1.2)]⟩, [.live .norm 2 [[.int .i64 a0.Actuators, .ro (a0.Steps.map cSStep)]], .live .nil 1 (s1.1.map cI_i64)]⟩) _ (by kernel_rfl) ?_
          replace h := Option.some.inj h; subst h
          show _ = _
          kernel_rfl
      · refine W_gh ?_
        refine W_reg ?_
        refine O_ps 5 (by kernel_rfl) ?_
        refine O_app (C := cI_i64) (id := 1) (nl := .nil) okI_i64 h rfl (by kernel_rfl) (by kernel_rfl) (by kernel_rfl) (by kernel_rfl) rfl (fun l9 e_l9 h => ?_)
        refine O_ps 1 (by kernel_rfl) ?_
        refine O_nil ?_
        refine Gh_one (s1 := ⟨⟨41, [(1, .ro (a1.map cI_i64)), (2, .pown 0 1 0 0), (5, .own 1 l9.length 0 l9.length), (9, .ro (a1.map cI_i64)), (10, .int .i64 (a1.length : Int)), (11, .int .i64 s1.2)]⟩, [.live .norm 2 [[.int .i64 a0.Actuators, .ro (a0.Steps.map cSStep)]], .live .nil 1 (l9.map cI_i64), .live .norm 1 (([(subI .i64 w6 v4)] : List Int).map cI_i64)]⟩) (by kernel_rfl) ?_
        refine Gh_at (s1 := ⟨⟨41, [(1, .ro (a1.map cI_i64)), (2, .pown 0 1 0 0), (5, .own 1 l9.length 0 l9.length), (9, .ro (a1.map cI_i64)), (10, .int .i64 (a1.length : Int)), (11, .int .i64 s1.2)]⟩, [.live .norm 2 [[.int .i64 a0.Actuators, .ro (a0.Steps.map cSStep)]], .live .nil 1 (l9.map cI_i64), .live .norm 1 (([(subI .i64 w6 v4)] : List Int).map cI_i64)]⟩) (by kernel_rfl) ?_
        refine Gh_trunc (s1 := ⟨⟨41, [(1, .ro (a1.map cI_i64)), (2, .pown 0 1 0 0), (5, .own 1 l9.length 0 l9.length), (9, .ro (a1.map cI_i64)), (10, .int .i64 (a1.length : Int)), (11, .int .i64 s1.2)]⟩, [.live .norm 2 [[.int .i64 a0.Actuators, .ro (a0.Steps.map cSStep)]], .live .nil 1 (l9.map cI_i64)]⟩) (by kernel_rfl) (tb_free (ro_bel okI_i64.bel _) (tb_ref rfl (tb_ref rfl (tb_free (ro_bel okI_i64.bel _) (tb_free rfl (tb_free rfl rfl)))))) (H1 := [.live .norm 2 [[.int .i64 a0.Actuators, .ro (a0.Steps.map cSStep)]], .live .nil 1 (l9.map cI_i64)]) (by kernel_rfl) (ob_boxn (bn_free rfl (bn_free (ro_bel okSStep.bel _) rfl)) (ob_list okI_i64.bel rfl)) (by kernel_rfl) ?_
        refine Gh_nil ?_
        refine Gh_one (s1 := ⟨⟨41, [(1, .ro (a1.map cI_i64)), (2, .pown 0 1 0 0), (5, .own 1 l9.length 0 l9.length), (9, .ro (a1.map cI_i64)), (10, .int .i64 (a1.length : Int)), (11, .int .i64 s1.2)]⟩, [.live .norm 2 [[.int .i64 a0.Actuators, .ro (a0.Steps.map cSStep)]], .live .nil 1 (l9.map cI_i64)]⟩) (by kernel_rfl) ?_
        refine Gh_trunc0 (by kernel_rfl) ?_
        refine Gh_nil ?_
        refine W_gh ?_
        refine W_reg ?_
        refine O_ps 2 (by kernel_rfl) ?_
        refine O_nil ?_
        refine Gh_end (s1 := ⟨⟨41, [(1, .ro (a1.map cI_i64)), (2, .pown 0 1 0 0), (5, .own 1 l9.length 0 l9.length), (9, .ro (a1.map cI_i64)), (10, .int .i64 (a1.length : Int)), (11, .int .i64 (addI .i64 s1.2 1))]⟩, [.live .norm 2 [[.int .i64 a0.Actuators, .ro (a0.Steps.map cSStep)]], .live .nil 1 (l9.map cI_i64)]⟩) _ (by kernel_rfl) ?_
        refine Gh_one (s1 := ⟨⟨41, [(1, .ro (a1.map cI_i64)), (2, .pown 0 1 0 0), (5, .own 1 l9.length 0 l9.length), (9, .ro (a1.map cI_i64)), (10, .int .i64 (a1.length : Int)), (11, .int .i64 (addI .i64 s1.2 1))]⟩, [.live .norm 2 [[.int .i64 a0.Actuators, .ro (a0.Steps.map cSStep)]], .live .nil 1 (l9.map cI_i64)]⟩) (by kernel_rfl) ?_
        refine Gh_trunc0 (by kernel_rfl) ?_
        refine Gh_nil ?_
        replace h := Option.some.inj h; subst h
        exact ⟨_, rfl, by kernel_rfl⟩
    · replace h := fork_f c3 h
      refine W_exit ?_
      refine X_hit ?_
      refine Gh_one (s1 := ⟨⟨41, [(1, .ro (a1.map cI_i64)), (5, .own 1 s1.1.length 0 s1.1.length)]⟩, [.live .norm 2 [[.int .i64 a0.Actuators, .ro (a0.Steps.map cSStep)]], .live .nil 1 (s1.1.map cI_i64)]⟩) (by kernel_rfl) ?_
      refine Gh_trunc0 (by kernel_rfl) ?_
      refine Gh_nil ?_
      replace h := Option.some.inj h; subst h
      exact ⟨_, rfl, by kernel_rfl⟩
  · refine W_seq ?_
    refine W_gh ?_
    refine W_reg ?_
    refine O_ps 2 (by kernel_rfl) ?_
    refine O_nil ?_
    refine Gh_end (s1 := ⟨⟨41, [(1, .ro (a1.map cI_i64)), (4, .own 1 w2.length 0 w2.length)]⟩, [.live .norm 2 [[.int .i64 a0.Actuators, .ro (a0.Steps.map cSStep)]], .live .nil 1 (w2.map cI_i64)]⟩) _ (by kernel_rfl) ?_
    refine W_ret ?_
    replace h := Option.some.inj h; subst h
    exact Fin_pk (l := [.own 1 w2.length 0 w2.length]) (by kernel_rfl) (pk_own (d := 5) (id := 1) (nl := .nil) (sz := 1) (l := w2) okI_i64.bel (by kernel_rfl) rfl)

theorem p47 (a0 : SSequence) (a1 : (List Int)) (a2 : Bool) (r : Int) (h : m47 a0 a1 a2 = some r) : Pt E0 hp 47 [.agg (cSSequence a0), .ro (a1.map cI_i64), .bool a2] (.int .i64 r) := by
  unfold m47 at h
  refine Pt_W (fn47) rfl (by decide) ?_
  refine W_seq ?_
  refine W_gh ?_
  refine W_reg ?_
  refine O_ps 2 (by kernel_rfl) ?_
  refine O_nil ?_
  refine Gh_end (s1 := ⟨⟨47, [(1, .ro (a1.map cI_i64)), (2, .bool a2), (3, .pown 0 1 0 0)]⟩, [.live .norm 2 [[.int .i64 a0.Actuators, .ro (a0.Steps.map cSStep)]]]⟩) _ (by kernel_rfl) ?_
  refine W_seq ?_
  refine W_seq ?_
  refine W_gh ?_
  refine W_reg ?_
  refine O_ps 1 (by kernel_rfl) ?_
  refine O_call (fun v => .int .i64 v) h (.inr rfl) (ys := [.agg (cSSequence a0)]) (fun _ e => p35 _ _ e) (by kernel_rfl) (by kernel_rfl) (bels_cons (okSSequence.bel _) rfl) (fun v1 e_v1 h => ?_)
  refine O_ps 1 (by kernel_rfl) ?_
  refine O_nil ?_
  refine Gh_end (s1 := ⟨⟨47, [(1, .ro (a1.map cI_i64)), (2, .bool a2), (3, .pown 0 1 0 0), (7, .int .i64 v1)]⟩, [.live .norm 2 [[.int .i64 a0.Actuators, .ro (a0.Steps.map cSStep)]]]⟩) _ (by kernel_rfl) ?_
  refine W_seq ?_
  refine W_gh ?_
  refine W_reg ?_
  refine O_ps 2 (by kernel_rfl) ?_
  refine O_nil ?_
  refine Gh_end (s1 := ⟨⟨47, [(1, .ro (a1.map cI_i64)), (2, .bool a2), (3, .pown 0 1 0 0), (7, .int .i64 v1), (16, .bool (v1 != 0))]⟩, [.live .norm 2 [[.int .i64 a0.Actuators, .ro (a0.Steps.map cSStep)]]]⟩) _ (by kernel_rfl) ?_
  refine W_gh ?_
  refine W_cond (c := (v1 != 0)) (by kernel_rfl) (fun c2 => ?_) (fun c2 => ?_)
  · replace h := fork_t c2 h
    refine W_seq ?_
    refine W_gh ?_
    refine W_reg ?_
    refine O_ps 2 (by kernel_rfl) ?_
    refine O_nil ?_
    refine Gh_end (s1 := ⟨⟨47, [(1, .ro (a1.map cI_i64)), (2, .bool a2), (3, .pown 0 1 0 0), (6, .int .i64 v1), (16, .bool (v1 != 0))]⟩, [.live .norm 2 [[.int .i64 a0.Actuators, .ro (a0.Steps.map cSStep)]]]⟩) _ (by kernel_rfl) ?_
    refine W_ret ?_
    replace h := Option.some.inj h; subst h
    exact Fin_free (l := [.int .i64 v1]) (by kernel_rfl) (by kernel_rfl) rfl
  · replace h := fork_f c2 h
    refine W_skip ?_
    refine Gh_end (s1 := ⟨⟨47, [(1, .ro (a1.map cI_i64)), (2, .bool a2), (3, .pown 0 1 0 0)]⟩, [.live .norm 2 [[.int .i64 a0.Actuators, .ro (a0.Steps.map cSStep)]]]⟩) _ (by kernel_rfl) ?_
    refine W_seq ?_
    refine W_seq ?_
    refine W_gh ?_
    refine W_reg ?_
    refine O_ps 3 (by kernel_rfl) ?_
    refine O_call (fun v => .int .i64 v) h (.inr rfl) (ys := [.agg (cSSequence a0), .ro (a1.map cI_i64), .bool a2]) (fun _ e => p68 _ _ _ _ e) (by kernel_rfl) (by kernel_rfl) (bels_cons (okSSequence.bel _) (bels_cons (ro_bel okI_i64.bel _) (bels_cons rfl rfl))) (fun v3 e_v3 h => ?_)
    refine O_ps 1 (by kernel_rfl) ?_
    refine O_nil ?_
    refine Gh_end (s1 := ⟨⟨47, [(1, .ro (a1.map cI_i64)), (3, .pown 0 1 0 0), (8, .int .i64 v3)]⟩, [.live .norm 2 [[.int .i64 a0.Actuators, .ro (a0.Steps.map cSStep)]]]⟩) _ (by kernel_rfl) ?_
    refine W_seq ?_
    refine W_gh ?_
    refine W_reg ?_
    refine O_ps 2 (by kernel_rfl) ?_
    refine O_nil ?_
    refine Gh_end (s1 := ⟨⟨47, [(1, .ro (a1.map cI_i64)), (3, .pown 0 1 0 0), (8, .int .i64 v3), (23, .bool (v3 != 0))]⟩, [.live .norm 2 [[.int .i64 a0.Actuators, .ro (a0.Steps.map cSStep)]]]⟩) _ (by kernel_rfl) ?_
    refine W_gh ?_
    refine W_cond (c := (v3 != 0)) (by kernel_rfl) (fun c4 => ?_) (fun c4 => ?_)
    · replace h := fork_t c4 h
      refine W_seq ?_
      refine W_gh ?_
      refine W_reg ?_
      refine O_ps 2 (by kernel_rfl) ?_
      refine O_nil ?_
      refine Gh_end (s1 := ⟨⟨47, [(1, .ro (a1.map cI_i64)), (3, .pown 0 1 0 0), (6, .int .i64 v3), (23, .bool (v3 != 0))]⟩, [.live .norm 2 [[.int .i64 a0.Actuators, .ro (a0.Steps.map cSStep)]]]⟩) _ (by kernel_rfl) ?_
      refine W_ret ?_
      replace h := Option.some.inj h; subst h
      exact Fin_free (l := [.int .i64 v3]) (by kernel_rfl) (by kernel_rfl) rfl
    · replace h := fork_f c4 h
      refine W_skip ?_
      refine Gh_end (s1 := ⟨⟨47, [(1, .ro (a1.map cI_i64)), (3, .pown 0 1 0 0)]⟩, [.live .norm 2 [[.int .i64 a0.Actuators, .ro (a0.Steps.map cSStep)]]]⟩) _ (by kernel_rfl) ?_
      refine W_seq ?_
      refine W_seq ?_
      refine W_gh ?_
      refine W_reg ?_
      refine O_ps 2 (by kernel_rfl) ?_
      refine O_call (fun v => .ro (v.map cI_i64)) h (.inr rfl) (ys := [.agg (cSSequence a0), .ro (a1.map cI_i64)]) (fun _ e => p48 _ _ _ e) (by kernel_rfl) (by kernel_rfl) (bels_cons (okSSequence.bel _) (bels_cons (ro_bel okI_i64.bel _) rfl)) (fun v5 e_v5 h => ?_)
      refine O_len (l := v5) cI_i64 (by kernel_rfl) (by kernel_rfl) ?_
      refine O_ps 1 (by kernel_rfl) ?_
      refine O_nil ?_
      refine Gh_end (s1 := ⟨⟨47, [(1, .ro (a1.map cI_i64)), (3, .pown 0 1 0 0), (27, .ro (v5.map cI_i64)), (28, .int .i64 (v5.length : Int)), (29, .int .i64 0)]⟩, [.live .norm 2 [[.int .i64 a0.Actuators, .ro (a0.Steps.map cSStep)]]]⟩) _ (by kernel_rfl) ?_
      refine W_loop (fun s6 : Int => ⟨⟨47, [(1, .ro (a1.map cI_i64)), (3, .pown 0 1 0 0), (27, .ro (v5.map cI_i64)), (28, .int .i64 (v5.length : Int)), (29, .int .i64 s6)]⟩, [.live .norm 2 [[.int .i64 a0.Actuators, .ro (a0.Steps.map cSStep)]]]⟩) (fun w7 : Unit => ⟨⟨47, [(1, .ro (a1.map cI_i64))]⟩, [.live .norm 2 [[.int .i64 a0.Actuators, .ro (a0.Steps.map cSStep)]]]⟩) h (by kernel_rfl) (fun s6 c h => ?_) (fun w7 h => ?_)
      · refine W_gh ?_
        refine W_seq ?_
        refine W_reg ?_
        refine O_ps 1 (by kernel_rfl) ?_
        refine O_nil ?_
        refine W_seq ?_
        refine W_gh ?_
        refine W_cond (c := (decide (s6 < (v5.length : Int)))) (by kernel_rfl) (fun c8 => ?_) (fun c8 => ?_)
        · replace h := fork_t c8 h
          refine W_skip ?_
          refine Gh_end (s1 := ⟨⟨47, [(1, .ro (a1.map cI_i64)), (3, .pown 0 1 0 0), (27, .ro (v5.map cI_i64)), (28, .int .i64 (v5.length : Int)), (29, .int .i64 s6)]⟩, [.live .norm 2 [[.int .i64 a0.Actuators, .ro (a0.Steps.map cSStep)]]]⟩) _ (by kernel_rfl) ?_
          refine W_seq ?_
          refine W_gh ?_
          refine W_block ?_
          refine W_seq ?_
          refine W_gh ?_
          refine W_reg ?_
          refine O_ps 1 (by kernel_rfl) ?_
          refine O_idx (kd := .i64) cI_i64 h (fun _ => rfl) (by kernel_rfl) (by kernel_rfl) (by kernel_rfl) (fun v9 e_v9 h => ?_)
          refine O_ps 3 (by kernel_rfl) ?_
          refine O_nil ?_
          refine Gh_end (s1 := ⟨⟨47, [(1, .ro (a1.map cI_i64)), (3, .pown 0 1 0 0), (9, .int .i64 s6), (10, .int .i64 v9), (27, .ro (v5.map cI_i64)), (28, .int .i64 (v5.length : Int)), (29, .int .i64 s6)]⟩, [.live .norm 2 [[.int .i64 a0.Actuators, .ro (a0.Steps.map cSStep)]]]⟩) _ (by kernel_rfl) ?_
          refine W_seq ?_
          refine W_gh ?_
          refine W_draw ?_
          refine O_ps 3 (by kernel_rfl) ?_
          refine O_idx (kd := .i64) cI_i64 h (fun _ => rfl) (by kernel_rfl) (by kernel_rfl) (by kernel_rfl) (fun v10 e_v10 h => ?_)
          refine O_ps 2 (by kernel_rfl) ?_
          refine O_call (fun v => .tup [.int .u64 v.1, .bool v.2]) h (.inr rfl) (ys := [.agg (cSSequence a0), .int .i64 v10, .int .i64 v9]) (fun _ e => p44 _ _ _ _ e) (by kernel_rfl) (by kernel_rfl) (bels_cons (okSSequence.bel _) (bels_cons rfl (bels_cons rfl rfl))) (fun v11 e_v11 h => ?_)
          refine O_ps 5 (by kernel_rfl) ?_
          refine O_nil ?_
          refine Gh_end (s1 := ⟨⟨47, [(1, .ro (a1.map cI_i64)), (3, .pown 0 1 0 0), (12, .bool v11.2), (27, .ro (v5.map cI_i64)), (28, .int .i64 (v5.length : Int)), (29, .int .i64 s6)]⟩, [.live .norm 2 [[.int .i64 a0.Actuators, .ro (a0.Steps.map cSStep)]]]⟩) _ (by kernel_rfl) ?_
          refine W_seq ?_
          refine W_gh ?_
          refine W_reg ?_
          refine O_ps 2 (by kernel_rfl) ?_
          refine O_nil ?_
          refine Gh_end (s1 := ⟨⟨47, [(1, .ro (a1.map cI_i64)), (3, .pown 0 1 0 0), (27, .ro (v5.map cI_i64)), (28, .int .i64 (v5.length : Int)), (29, .int .i64 s6), (45, .bool (!v11.2))]⟩, [.live .norm 2 [[.int .i64 a0.Actuators, .ro (a0.Steps.map cSStep)]]]⟩) _ (by kernel_rfl) ?_
          refine W_gh ?_
          refine W_cond (c := (!v11.2)) (by kernel_rfl) (fun c12 => ?_) (fun c12 => ?_)
          · replace h := fork_t c12 h
            refine W_seq ?_
            refine W_reg ?_
            refine O_ps 1 (by kernel_rfl) ?_
            refine O_nil ?_
            refine W_ret ?_
            replace h := Option.some.inj h; subst h
            refine ⟨_, rfl, fun h => ?_⟩
            replace h := Option.some.inj h; subst h
            exact Fin_free (l := [.int .i64 7]) (by kernel_rfl) (by kernel_rfl) rfl
          · replace h := fork_f c12 h
            refine W_skip ?_
            refine Gh_end (s1 := ⟨⟨47, [(1, .ro (a1.map cI_i64)), (3, .pown 0 1 0 0), (27, .ro (v5.map cI_i64)), (28, .int .i64 (v5.length : Int)), (29, .int .i64 s6)]⟩, [.live .norm 2 [[.int .i64 a0.Actuators, .ro (a0.Steps.map cSStep)]]]⟩) _ (by kernel_rfl) ?_
            refine Gh_end (s1 := ⟨⟨47, [(1, .ro (a1.map cI_i64)), (3, .pown 0 1 0 0), (27, .ro (v5.map cI_i64)), (28, .int .i64 (v5.length : Int)), (29, .int .i64 s6)]⟩, [.live .norm 2 [[.int .i64 a0.Actuators, .ro (a0.Steps.map cSStep)]]]⟩) _ (by kernel_rfl) ?_
            refine W_gh ?_
            refine W_reg ?_
            refine O_ps 2 (by kernel_rfl) ?_
            refine O_nil ?_
            refine Gh_end (s1 := ⟨⟨47, [(1, .ro (a1.map cI_i64)), (3, .pown 0 1 0 0), (27, .ro (v5.map cI_i64)), (28, .int .i64 (v5.length : Int)), (29, .int .i64 (addI .i64 s6 1))]⟩, [.live .norm 2 [[.int .i64 a0.Actuators, .ro (a0.Steps.map cSStep)]]]⟩) _ (by kernel_rfl) ?_
            refine Gh_end (s1 := ⟨⟨47, [(1, .ro (a1.map cI_i64)), (3, .pown 0 1 0 0), (27, .ro (v5.map cI_i64)), (28, .int .i64 (v5.length : Int)), (29, .int .i64 (addI .i64 s6 1))]⟩, [.live .norm 2 [[.int .i64 a0.Actuators, .ro (a0.Steps.map cSStep)]]]⟩) _ (by kernel_rfl) ?_
            replace h := Option.some.inj h; subst h
            exact ⟨_, rfl, by kernel_rfl⟩
        · replace h := fork_f c8 h
          refine W_exit ?_
          refine X_hit ?_
          refine Gh_end (s1 := ⟨⟨47, [(1, .ro (a1.map cI_i64))]⟩, [.live .norm 2 [[.int .i64 a0.Actuators, .ro (a0.Steps.map cSStep)]]]⟩) _ (by kernel_rfl) ?_
          replace h := Option.some.inj h; subst h
          exact ⟨_, rfl, by kernel_rfl⟩
      · refine W_seq ?_
        refine W_reg ?_
        refine O_ps 1 (by kernel_rfl) ?_
        refine O_nil ?_
        refine W_ret ?_
        replace h := Option.some.inj h; subst h
        exact Fin_free (l := [.int .i64 0]) (by kernel_rfl) (by kernel_rfl) rfl

theorem p28 (a0 : SSequence) (a1 : (List Int)) (r : Int) (h : m28 a0 a1 = some r) : Pt E0 hp 28 [.agg (cSSequence a0), .ro (a1.map cI_i64)] (.int .i64 r) := by
  unfold m28 at h
  refine Pt_W (fn28) rfl (by decide) ?_
  refine W_seq ?_
  refine W_gh ?_
  refine W_reg ?_
  refine O_ps 2 (by kernel_rfl) ?_
  refine O_nil ?_
  refine Gh_end (s1 := ⟨⟨8, [(1, .ro (a1.map cI_i64)), (2, .pown 0 1 0 0)]⟩, [.live .norm 2 [[.int .i64 a0.Actuators, .ro (a0.Steps.map cSStep)]]]⟩) _ (by kernel_rfl) ?_
  refine W_seq ?_
  refine W_gh ?_
  refine W_reg ?_
  refine O_ps 2 (by kernel_rfl) ?_
  refine O_call (fun v => .int .i64 v) h (.inr rfl) (ys := [.agg (cSSequence a0), .ro (a1.map cI_i64), .bool true]) (fun _ e => p47 _ _ _ _ e) (by kernel_rfl) (by kernel_rfl) (bels_cons (okSSequence.bel _) (bels_cons (ro_bel okI_i64.bel _) (bels_cons rfl rfl))) (fun v1 e_v1 h => ?_)
  refine O_ps 1 (by kernel_rfl) ?_
  refine O_nil ?_
  refine Gh_end (s1 := ⟨⟨8, [(4, .int .i64 v1)]⟩, [.live .norm 2 [[.int .i64 a0.Actuators, .ro (a0.Steps.map cSStep)]]]⟩) _ (by kernel_rfl) ?_
  refine W_ret ?_
  replace h := Option.some.inj h; subst h
  exact Fin_free (l := [.int .i64 v1]) (by kernel_rfl) (by kernel_rfl) rfl

theorem p25 (a0 : SSequence) (a1 : (List Int)) (r : ((List (List Int)) × Int)) (h : m25 a0 a1 = some r) : Pt E0 hp 25 [.agg (cSSequence a0), .ro (a1.map cI_i64)] (.tup [.ro (r.1.map (cL cI_i64)), .int .i64 r.2]) := by
  unfold m25 at h
  refine Pt_W (fn25) rfl (by decide) ?_
  refine W_seq ?_
  refine W_gh ?_
  refine W_reg ?_
  refine O_ps 3 (by kernel_rfl) ?_
  refine O_nil ?_
  refine Gh_end (s1 := ⟨⟨60, [(1, .ro (a1.map cI_i64)), (2, .pown 0 1 0 0)]⟩, [.live .norm 2 [[.int .i64 a0.Actuators, .ro (a0.Steps.map cSStep)]]]⟩) _ (by kernel_rfl) ?_
  refine W_seq ?_
  refine W_seq ?_
  refine W_gh ?_
  refine W_reg ?_
  refine O_ps 2 (by kernel_rfl) ?_
  refine O_call (fun v => .int .i64 v) h (.inr rfl) (ys := [.agg (cSSequence a0), .ro (a1.map cI_i64)]) (fun _ e => p28 _ _ _ e) (by kernel_rfl) (by kernel_rfl) (bels_cons (okSSequence.bel _) (bels_cons (ro_bel okI_i64.bel _) rfl)) (fun v1 e_v1 h => ?_)
  refine O_ps 1 (by kernel_rfl) ?_
  refine O_nil ?_
  refine Gh_end (s1 := ⟨⟨60, [(1, .ro (a1.map cI_i64)), (2, .pown 0 1 0 0), (6, .int .i64 v1)]⟩, [.live .norm 2 [[.int .i64 a0.Actuators, .ro (a0.Steps.map cSStep)]]]⟩) _ (by kernel_rfl) ?_
  refine W_seq ?_
  refine W_gh ?_
  refine W_reg ?_
  refine O_ps 2 (by kernel_rfl) ?_
  refine O_nil ?_
  refine Gh_end (s1 := ⟨⟨60, [(1, .ro (a1.map cI_i64)), (2, .pown 0 1 0 0), (6, .int .i64 v1), (19, .bool (v1 != 0))]⟩, [.live .norm 2 [[.int .i64 a0.Actuators, .ro (a0.Steps.map cSStep)]]]⟩) _ (by kernel_rfl) ?_
  refine W_gh ?_
  refine W_cond (c := (v1 != 0)) (by kernel_rfl) (fun c2 => ?_) (fun c2 => ?_)
  · replace h := fork_t c2 h
    refine W_seq ?_
    refine W_gh ?_
    refine W_reg ?_
    refine O_ps 3 (by kernel_rfl) ?_
    refine O_nil ?_
    refine Gh_end (s1 := ⟨⟨60, [(1, .ro (a1.map cI_i64)), (2, .pown 0 1 0 0), (4, .ro (([] : List (List Int)).map (cL cI_i64))), (5, .int .i64 v1), (19, .bool (v1 != 0))]⟩, [.live .norm 2 [[.int .i64 a0.Actuators, .ro (a0.Steps.map cSStep)]]]⟩) _ (by kernel_rfl) ?_
    refine W_ret ?_
    replace h := Option.some.inj h; subst h
    exact Fin_free (l := [.ro (([] : List (List Int)).map (cL cI_i64)), .int .i64 v1]) (by kernel_rfl) (by kernel_rfl) (bels_cons (ro_bel (okL okI_i64).bel _) (bels_cons rfl rfl))
  · replace h := fork_f c2 h
    refine W_skip ?_
    refine Gh_end (s1 := ⟨⟨60, [(1, .ro (a1.map cI_i64)), (2, .pown 0 1 0 0)]⟩, [.live .norm 2 [[.int .i64 a0.Actuators, .ro (a0.Steps.map cSStep)]]]⟩) _ (by kernel_rfl) ?_
    refine W_seq ?_
    refine W_gh ?_
    refine W_reg ?_
    refine O_ps 1 (by kernel_rfl) ?_
    refine O_nil ?_
    refine Gh_end (s1 := ⟨⟨60, [(1, .ro (a1.map cI_i64)), (2, .pown 0 1 0 0), (7, .own 1 0 0 0)]⟩, [.live .norm 2 [[.int .i64 a0.Actuators, .ro (a0.Steps.map cSStep)]], .live .nil 1 (([] : List (List Int)).map (cL cI_i64))]⟩) _ (by kernel_rfl) ?_
    refine W_seq ?_
    refine W_seq ?_
    refine W_gh ?_
    refine W_reg ?_
    refine O_ps 2 (by kernel_rfl) ?_
    refine O_call (fun v => .ro (v.map cI_i64)) h (.inr rfl) (ys := [.agg (cSSequence a0), .ro (a1.map cI_i64)]) (fun _ e => p48 _ _ _ e) (by kernel_rfl) (by kernel_rfl) (bels_cons (okSSequence.bel _) (bels_cons (ro_bel okI_i64.bel _) rfl)) (fun v3 e_v3 h => ?_)
    refine O_len (l := v3) cI_i64 (by kernel_rfl) (by kernel_rfl) ?_
    refine O_ps 1 (by kernel_rfl) ?_
    refine O_nil ?_
    refine Gh_end (s1 := ⟨⟨60, [(1, .ro (a1.map cI_i64)), (2, .pown 0 1 0 0), (7, .own 1 0 0 0), (23, .ro (v3.map cI_i64)), (24, .int .i64 (v3.length : Int)), (25, .int .i64 0)]⟩, [.live .norm 2 [[.int .i64 a0.Actuators, .ro (a0.Steps.map cSStep)]], .live .nil 1 (([] : List (List Int)).map (cL cI_i64))]⟩) _ (by kernel_rfl) ?_
    refine W_loopS (fun s4 : (List (List Int)) × Int => ⟨⟨60, [(1, .ro (a1.map cI_i64)), (2, .pown 0 1 0 0), (7, .own 1 s4.1.length 0 s4.1.length), (23, .ro (v3.map cI_i64)), (24, .int .i64 (v3.length : Int)), (25, .int .i64 s4.2)]⟩, [.live .norm 2 [[.int .i64 a0.Actuators, .ro (a0.Steps.map cSStep)]], .live .nil 1 (s4.1.map (cL cI_i64))]⟩) (fun w5 : (List (List Int)) => ⟨⟨60, [(1, .ro (a1.map cI_i64)), (7, .own 1 w5.length 0 w5.length)]⟩, [.live .norm 2 [[.int .i64 a0.Actuators, .ro (a0.Steps.map cSStep)]], .live .nil 1 (w5.map (cL cI_i64))]⟩) h (by kernel_rfl) (fun s4 c h => ?_) (fun w5 e_w5 h => ?_)
    · refine W_gh ?_
      refine W_seq ?_
      refine W_reg ?_
      refine O_ps 1 (by kernel_rfl) ?_
      refine O_nil ?_
      refine W_seq ?_
      refine W_gh ?_
      refine W_cond (c := (decide (s4.2 < (v3.length : Int)))) (by kernel_rfl) (fun c6 => ?_) (fun c6 => ?_)
      · replace h := fork_t c6 h
        refine W_skip ?_
        refine Gh_end (s1 := ⟨⟨60, [(1, .ro (a1.map cI_i64)), (2, .pown 0 1 0 0), (7, .own 1 s4.1.length 0 s4.1.length), (23, .ro (v3.map cI_i64)), (24, .int .i64 (v3.length : Int)), (25, .int .i64 s4.2)]⟩, [.live .norm 2 [[.int .i64 a0.Actuators, .ro (a0.Steps.map cSStep)]], .live .nil 1 (s4.1.map (cL cI_i64))]⟩) _ (by kernel_rfl) ?_
        refine W_seq ?_
        refine W_gh ?_
        refine W_block ?_
        refine W_seq ?_
        refine W_gh ?_
        refine W_reg ?_
        refine O_ps 1 (by kernel_rfl) ?_
        refine O_idx (kd := .i64) cI_i64 h (fun _ => rfl) (by kernel_rfl) (by kernel_rfl) (by kernel_rfl) (fun v7 e_v7 h => ?_)
        refine O_ps 3 (by kernel_rfl) ?_
        refine O_nil ?_
        refine Gh_end (s1 := ⟨⟨60, [(1, .ro (a1.map cI_i64)), (2, .pown 0 1 0 0), (7, .own 1 s4.1.length 0 s4.1.length), (8, .int .i64 s4.2), (9, .int .i64 v7), (23, .ro (v3.map cI_i64)), (24, .int .i64 (v3.length : Int)), (25, .int .i64 s4.2)]⟩, [.live .norm 2 [[.int .i64 a0.Actuators, .ro (a0.Steps.map cSStep)]], .live .nil 1 (s4.1.map (cL cI_i64))]⟩) _ (by kernel_rfl) ?_
        refine W_seq ?_
        refine W_gh ?_
        refine W_draw ?_
        refine O_ps 3 (by kernel_rfl) ?_
        refine O_idx (kd := .i64) cI_i64 h (fun _ => rfl) (by kernel_rfl) (by kernel_rfl) (by kernel_rfl) (fun v8 e_v8 h => ?_)
        refine O_ps 2 (by kernel_rfl) ?_
        refine O_call (fun v => .tup [.int .u64 v.1, .bool v.2]) h (.inr rfl) (ys := [.agg (cSSequence a0), .int .i64 v8, .int .i64 v7]) (fun _ e => p44 _ _ _ _ e) (by kernel_rfl) (by kernel_rfl) (bels_cons (okSSequence.bel _) (bels_cons rfl (bels_cons rfl rfl))) (fun v9 e_v9 h => ?_)
        refine O_ps 5 (by kernel_rfl) ?_
        refine O_nil ?_
        refine Gh_end (s1 := ⟨⟨60, [(1, .ro (a1.map cI_i64)), (2, .pown 0 1 0 0), (7, .own 1 s4.1.length 0 s4.1.length), (10, .int .u64 v9.1), (23, .ro (v3.map cI_i64)), (24, .int .i64 (v3.length : Int)), (25, .int .i64 s4.2)]⟩, [.live .norm 2 [[.int .i64 a0.Actuators, .ro (a0.Steps.map cSStep)]], .live .nil 1 (s4.1.map (cL cI_i64))]⟩) _ (by kernel_rfl) ?_
        refine W_seq ?_
        refine W_gh ?_
        refine W_reg ?_
        refine O_ps 1 (by kernel_rfl) ?_
        refine O_nil ?_
        refine Gh_end (s1 := ⟨⟨60, [(1, .ro (a1.map cI_i64)), (2, .pown 0 1 0 0), (7, .own 1 s4.1.length 0 s4.1.length), (10, .int .u64 v9.1), (12, .own 2 0 0 0), (23, .ro (v3.map cI_i64)), (24, .int .i64 (v3.length : Int)), (25, .int .i64 s4.2)]⟩, [.live .norm 2 [[.int .i64 a0.Actuators, .ro (a0.Steps.map cSStep)]], .live .nil 1 (s4.1.map (cL cI_i64)), .live .nil 1 (([] : List Int).map cI_i64)]⟩) _ (by kernel_rfl) ?_
        refine W_seq ?_
        refine W_seq ?_
        refine W_reg ?_
        refine O_ps 2 (by kernel_rfl) ?_
        refine O_nil ?_
        refine W_loopS (fun s10 : (List Int) × Int => ⟨⟨60, [(1, .ro (a1.map cI_i64)), (2, .pown 0 1 0 0), (7, .own 1 s4.1.length 0 s4.1.length), (10, .int .u64 v9.1), (12, .own 2 s10.1.length 0 s10.1.length), (23, .ro (v3.map cI_i64)), (24, .int .i64 (v3.length : Int)), (25, .int .i64 s4.2), (40, .agg [.int .u64 1, .int .u64 2, .int .u64 4, .int .u64 8, .int .u64 16, .int .u64 32]), (41, .int .i64 s10.2)]⟩, [.live .norm 2 [[.int .i64 a0.Actuators, .ro (a0.Steps.map cSStep)]], .live .nil 1 (s4.1.map (cL cI_i64)), .live .nil 1 (s10.1.map cI_i64)]⟩) (fun w11 : (List Int) => ⟨⟨60, [(1, .ro (a1.map cI_i64)), (2, .pown 0 1 0 0), (7, .own 1 s4.1.length 0 s4.1.length), (12, .own 2 w11.length 0 w11.length), (23, .ro (v3.map cI_i64)), (24, .int .i64 (v3.length : Int)), (25, .int .i64 s4.2)]⟩, [.live .norm 2 [[.int .i64 a0.Actuators, .ro (a0.Steps.map cSStep)]], .live .nil 1 (s4.1.map (cL cI_i64)), .live .nil 1 (w11.map cI_i64)]⟩) h (by kernel_rfl) (fun s10 c h => ?_) (fun w11 e_w11 h => ?_)
        · refine W_gh ?_
          refine W_seq ?_
          refine W_reg ?_
          refine O_ps 1 (by kernel_rfl) ?_
          refine O_nil ?_
          refine W_seq ?_
          refine W_gh ?_
          refine W_cond (c := (decide (s10.2 < 6))) (by kernel_rfl) (fun c12 => ?_) (fun c12 => ?_)
          · replace h := fork_t c12 h
            refine W_skip ?_
            refine Gh_end (s1 := ⟨⟨60, [(1, .ro (a1.map cI_i64)), (2, .pown 0 1 0 0), (7, .own 1 s4.1.length 0 s4.1.length), (10, .int .u64 v9.1), (12, .own 2 s10.1.length 0 s10.1.length), (23, .ro (v3.map cI_i64)), (24, .int .i64 (v3.length : Int)), (25, .int .i64 s4.2), (40, .agg [.int .u64 1, .int .u64 2, .int .u64 4, .int .u64 8, .int .u64 16, .int .u64 32]), (41, .int .i64 s10.2)]⟩, [.live .norm 2 [[.int .i64 a0.Actuators, .ro (a0.Steps.map cSStep)]], .live .nil 1 (s4.1.map (cL cI_i64)), .live .nil 1 (s10.1.map cI_i64)]⟩) _ (by kernel_rfl) ?_
            refine W_seq ?_
            refine W_gh ?_
            refine W_block ?_
            refine W_seq ?_
            refine W_gh ?_
            refine W_reg ?_
            refine O_ps 1 (by kernel_rfl) ?_
            refine O_idxA (kd := .i64) (a := (⟨[1, 2, 4, 8, 16, 32], rfl⟩ : (Arr 6 Int))) (AV.int .u64) h (by kernel_rfl) (by kernel_rfl) (by kernel_rfl) (fun v13 e_v13 h => ?_)
            refine O_ps 2 (by kernel_rfl) ?_
            refine O_nil ?_
            refine Gh_end (s1 := ⟨⟨60, [(1, .ro (a1.map cI_i64)), (2, .pown 0 1 0 0), (7, .own 1 s4.1.length 0 s4.1.length), (10, .int .u64 v9.1), (12, .own 2 s10.1.length 0 s10.1.length), (13, .int .i64 s10.2), (14, .int .u64 v13), (23, .ro (v3.map cI_i64)), (24, .int .i64 (v3.length : Int)), (25, .int .i64 s4.2), (40, .agg [.int .u64 1, .int .u64 2, .int .u64 4, .int .u64 8, .int .u64 16, .int .u64 32]), (41, .int .i64 s10.2)]⟩, [.live .norm 2 [[.int .i64 a0.Actuators, .ro (a0.Steps.map cSStep)]], .live .nil 1 (s4.1.map (cL cI_i64)), .live .nil 1 (s10.1.map cI_i64)]⟩) _ (by kernel_rfl) ?_
            refine W_seq ?_
            refine W_gh ?_
            refine W_reg ?_
            refine O_ps 4 (by kernel_rfl) ?_
            refine O_nil ?_
            refine Gh_end (s1 := ⟨⟨60, [(1, .ro (a1.map cI_i64)), (2, .pown 0 1 0 0), (7, .own 1 s4.1.length 0 s4.1.length), (10, .int .u64 v9.1), (12, .own 2 s10.1.length 0 s10.1.length), (13, .int .i64 s10.2), (23, .ro (v3.map cI_i64)), (24, .int .i64 (v3.length : Int)), (25, .int .i64 s4.2), (40, .agg [.int .u64 1, .int .u64 2, .int .u64 4, .int .u64 8, .int .u64 16, .int .u64 32]), (41, .int .i64 s10.2), (48, .bool ((andI .u64 v9.1 v13) != 0))]⟩, [.live .norm 2 [[.int .i64 a0.Actuators, .ro (a0.Steps.map cSStep)]], .live .nil 1 (s4.1.map (cL cI_i64)), .live .nil 1 (s10.1.map cI_i64)]⟩) _ (by kernel_rfl) ?_
            refine W_joinS (fun v : (List Int) => ⟨⟨60, [(1, .ro (a1.map cI_i64)), (2, .pown 0 1 0 0), (7, .own 1 s4.1.length 0 s4.1.length), (10, .int .u64 v9.1), (12, .own 2 v.length 0 v.length), (23, .ro (v3.map cI_i64)), (24, .int .i64 (v3.length : Int)), (25, .int .i64 s4.2), (40, .agg [.int .u64 1, .int .u64 2, .int .u64 4, .int .u64 8, .int .u64 16, .int .u64 32]), (41, .int .i64 s10.2)]⟩, [.live .norm 2 [[.int .i64 a0.Actuators, .ro (a0.Steps.map cSStep)]], .live .nil 1 (s4.1.map (cL cI_i64)), .live .nil 1 (v.map cI_i64)]⟩) h (fun w h => ?_) (fun w14 e_w14 h => ?_)
            · refine W_gh ?_
              refine W_cond (c := ((andI .u64 v9.1 v13) != 0)) (by kernel_rfl) (fun c15 => ?_) (fun c15 => ?_)
              · replace h := fork_t c15 h
                refine W_gh ?_
                refine W_reg ?_
                refine O_ps 3 (by kernel_rfl) ?_
                refine O_app (C := cI_i64) (id := 2) (nl := .nil) okI_i64 h rfl (by kernel_rfl) (by kernel_rfl) (by kernel_rfl) (by kernel_rfl) rfl (fun l16 e_l16 h => ?_)
                refine O_ps 1 (by kernel_rfl) ?_
                refine O_nil ?_
                refine Gh_one (s1 := ⟨⟨60, [(1, .ro (a1.map cI_i64)), (2, .pown 0 1 0 0), (7, .own 1 s4.1.length 0 s4.1.length), (10, .int .u64 v9.1), (12, .own 2 l16.length 0 l16.length), (23, .ro (v3.map cI_i64)), (24, .int .i64 (v3.length : Int)), (25, .int .i64 s4.2), (40, .agg [.int .u64 1, .int .u64 2, .int .u64 4, .int .u64 8, .int .u64 16, .int .u64 32]), (41, .int .i64 s10.2), (48, .bool ((andI .u64 v9.1 v13) != 0))]⟩, [.live .norm 2 [[.int .i64 a0.Actuators, .ro (a0.Steps.map cSStep)]], .live .nil 1 (s4.1.map (cL cI_i64)), .live .nil 1 (l16.map cI_i64), .live .norm 1 (([s10.2] : List Int).map cI_i64)]⟩) (by kernel_rfl) ?_
                refine Gh_at (s1 := ⟨⟨60, [(1, .ro (a1.map cI_i64)), (2, .pown 0 1 0 0), (7, .own 1 s4.1.length 0 s4.1.length), (10, .int .u64 v9.1), (12, .own 2 l16.length 0 l16.length), (23, .ro (v3.map cI_i64)), (24, .int .i64 (v3.length : Int)), (25, .int .i64 s4.2), (40, .agg [.int .u64 1, .int .u64 2, .int .u64 4, .int .u64 8, .int .u64 16, .int .u64 32]), (41, .int .i64 s10.2), (48, .bool ((andI .u64 v9.1 v13) != 0))]⟩, [.live .norm 2 [[.int .i64 a0.Actuators, .ro (a0.Steps.map cSStep)]], .live .nil 1 (s4.1.map (cL cI_i64)), .live .nil 1 (l16.map cI_i64), .live .norm 1 (([s10.2] : List Int).map cI_i64)]⟩) (by kernel_rfl) ?_
                refine Gh_trunc (s1 := ⟨⟨60, [(1, .ro (a1.map cI_i64)), (2, .pown 0 1 0 0), (7, .own 1 s4.1.length 0 s4.1.length), (10, .int .u64 v9.1), (12, .own 2 l16.length 0 l16.length), (23, .ro (v3.map cI_i64)), (24, .int .i64 (v3.length : Int)), (25, .int .i64 s4.2), (40, .agg [.int .u64 1, .int .u64 2, .int .u64 4, .int .u64 8, .int .u64 16, .int .u64 32]), (41, .int .i64 s10.2), (48, .bool ((andI .u64 v9.1 v13) != 0))]⟩, [.live .norm 2 [[.int .i64 a0.Actuators, .ro (a0.Steps.map cSStep)]], .live .nil 1 (s4.1.map (cL cI_i64)), .live .nil 1 (l16.map cI_i64)]⟩) (by kernel_rfl) (tb_free (ro_bel okI_i64.bel _) (tb_ref rfl (tb_ref rfl (tb_free rfl (tb_ref rfl (tb_free (ro_bel okI_i64.bel _) (tb_free rfl (tb_free rfl (tb_free rfl (tb_free rfl (tb_free rfl rfl))))))))))) (H1 := [.live .norm 2 [[.int .i64 a0.Actuators, .ro (a0.Steps.map cSStep)]], .live .nil 1 (s4.1.map (cL cI_i64)), .live .nil 1 (l16.map cI_i64)]) (by kernel_rfl) (ob_boxn (bn_free rfl (bn_free (ro_bel okSStep.bel _) rfl)) (ob_list (okL okI_i64).bel (ob_list okI_i64.bel rfl))) (by kernel_rfl) ?_
                refine Gh_nil ?_
                refine Gh_one (s1 := ⟨⟨60, [(1, .ro (a1.map cI_i64)), (2, .pown 0 1 0 0), (7, .own 1 s4.1.length 0 s4.1.length), (10, .int .u64 v9.1), (12, .own 2 l16.length 0 l16.length), (23, .ro (v3.map cI_i64)), (24, .int .i64 (v3.length : Int)), (25, .int .i64 s4.2), (40, .agg [.int .u64 1, .int .u64 2, .int .u64 4, .int .u64 8, .int .u64 16, .int .u64 32]), (41, .int .i64 s10.2)]⟩, [.live .norm 2 [[.int .i64 a0.Actuators, .ro (a0.Steps.map cSStep)]], .live .nil 1 (s4.1.map (cL cI_i64)), .live .nil 1 (l16.map cI_i64)]⟩) (by kernel_rfl) ?_
                refine Gh_trunc0 (by kernel_rfl) ?_
                refine Gh_nil ?_
                replace h := Option.some.inj h; subst h
                show _ = _
                kernel_rfl
              · replace h := fork_f c15 h
                refine W_skip ?_
                refine Gh_one (s1 := ⟨⟨60, [(1, .ro (a1.map cI_i64)), (2, .pown 0 1 0 0), (7, .own 1 s4.1.length 0 s4.1.length), (10, .int .u64 v9.1), (12, .own 2 s10.1.length 0 s10.1.length), (23, .ro (v3.map cI_i64)), (24, .int .i64 (v3.length : Int)), (25, .int .i64 s4.2), (40, .agg [.int .u64 1, .int .u64 2, .int .u64 4, .int .u64 8, .int .u64 16, .int .u64 32]), (41, .int .i64 s10.2)]⟩, [.live .norm 2 [[.int .i64 a0.Actuators, .ro (a0.Steps.map cSStep)]], .live .nil 1 (s4.1.map (cL cI_i64)), .live .nil 1 (s10.1.map cI_i64)]⟩) (by kernel_rfl) ?_
                refine Gh_trunc0 (by kernel_rfl) ?_
                refine Gh_nil ?_
                replace h := Option.some.inj h; subst h
                show _ = _
                kernel_rfl
            · refine Gh_one (s1 := ⟨⟨60, [(1, .ro (a1.map cI_i64)), (2, .pown 0 1 0 0), (7, .own 1 s4.1.length 0 s4.1.length), (10, .int .u64 v9.1), (12, .own 2 w14.length 0 w14.length), (23, .ro (v3.map cI_i64)), (24, .int .i64 (v3.length : Int)), (25, .int .i64 s4.2), (40, .agg [.int .u64 1, .int .u64 2, .int .u64 4, .int .u64 8, .int .u64 16, .int .u64 32]), (41, .int .i64 s10.2)]⟩, [.live .norm 2 [[.int .i64 a0.Actuators, .ro (a0.Steps.map cSStep)]], .live .nil 1 (s4.1.map (cL cI_i64)), .live .nil 1 (w14.map cI_i64)]⟩) (by kernel_rfl) ?_
              refine Gh_trunc0 (by kernel_rfl) ?_
              refine Gh_nil ?_
              refine W_gh ?_
              refine W_reg ?_
              refine O_ps 2 (by kernel_rfl) ?_
              refine O_nil ?_
              refine Gh_end (s1 := ⟨⟨60, [(1, .ro (a1.map cI_i64)), (2, .pown 0 1 0 0), (7, .own 1 s4.1.length 0 s4.1.length), (10, .int .u64 v9.1), (12, .own 2 w14.length 0 w14.length), (23, .ro (v3.map cI_i64)), (24, .int .i64 (v3.length : Int)), (25, .int .i64 s4.2), (40, .agg [.int .u64 1, .int .u64 2, .int .u64 4, .int .u64 8, .int .u64 16, .int .u64 32]), (41, .int .i64 (addI .i64 s10.2 1))]⟩, [.live .norm 2 [[.int .i64 a0.Actuators, .ro (a0.Steps.map cSStep)]], .live .nil 1 (s4.1.map (cL cI_i64)), .live .nil 1 (w14.map cI_i64)]⟩) _ (by kernel_rfl) ?_
              refine Gh_one (s1 := ⟨⟨60, [(1, .ro (a1.map cI_i64)), (2, .pown 0 1 0 0), (7, .own 1 s4.1.length 0 s4.1.length), (10, .int .u64 v9.1), (12, .own 2 w14.length 0 w14.length), (23, .ro (v3.map cI_i64)), (24, .int .i64 (v3.length : Int)), (25, .int .i64 s4.2), (40, .agg [.int .u64 1, .int .u64 2, .int .u64 4, .int .u64 8, .int .u64 16, .int .u64 32]), (41, .int .i64 (addI .i64 s10.2 1))]⟩, [.live .norm 2 [[.int .i64 a0.Actuators, .ro (a0.Steps.map cSStep)]], .live .nil 1 (s4.1.map (cL cI_i64)), .live .nil 1 (w14.map cI_i64)]⟩) (by kernel_rfl) ?_
              refine Gh_trunc0 (by kernel_rfl) ?_
              refine Gh_nil ?_
              replace h := Option.some.inj h; subst h
              exact ⟨_, rfl, by kernel_rfl⟩
          · replace h := fork_f c12 h
            refine W_exit ?_
            refine X_hit ?_
            refine Gh_one (s1 := ⟨⟨60, [(1, .ro (a1.map cI_i64)), (2, .pown 0 1 0 0), (7, .own 1 s4.1.length 0 s4.1.length), (12, .own 2 s10.1.length 0 s10.1.length), (23, .ro (v3.map cI_i64)), (24, .int .i64 (v3.length : Int)), (25, .int .i64 s4.2)]⟩, [.live .norm 2 [[.int .i64 a0.Actuators, .ro (a0.Steps.map cSStep)]], .live .nil 1 (s4.1.map (cL cI_i64)), .live .nil 1 (s10.1.map cI_i64)]⟩) (by kernel_rfl) ?_
            refine Gh_trunc0 (by kernel_rfl) ?_
            refine Gh_nil ?_
            replace h := Option.some.inj h; subst h
            exact ⟨_, rfl, by kernel_rfl⟩
        · refine W_pre ?_
          refine Gh_one (frz_own (id := 2) (nl := .nil) (sz := 1) (l := w11) okI_i64.bel (by kernel_rfl) (by kernel_rfl) rfl rfl (s1 := ⟨⟨60, [(1, .ro (a1.map cI_i64)), (2, .pown 0 1 0 0), (7, .own 1 s4.1.length 0 s4.1.length), (12, .ro (w11.map cI_i64)), (23, .ro (v3.map cI_i64)), (24, .int .i64 (v3.length : Int)), (25, .int .i64 s4.2)]⟩, [.live .norm 2 [[.int .i64 a0.Actuators, .ro (a0.Steps.map cSStep)]], .live .nil 1 (s4.1.map (cL cI_i64)), .dead]⟩) (by kernel_rfl)) ?_
          refine Gh_nil ?_
          refine W_gh ?_
          refine W_reg ?_
          refine O_ps 3 (by kernel_rfl) ?_
          refine O_app (C := (cL cI_i64)) (id := 1) (nl := .nil) (okL okI_i64) h rfl (by kernel_rfl) (by kernel_rfl) (by kernel_rfl) (by kernel_rfl) rfl (fun l17 e_l17 h => ?_)
          refine O_ps 1 (by kernel_rfl) ?_
          refine O_nil ?_
          refine Gh_one (s1 := ⟨⟨60, [(1, .ro (a1.map cI_i64)), (2, .pown 0 1 0 0), (7, .own 1 l17.length 0 l17.length), (23, .ro (v3.map cI_i64)), (24, .int .i64 (v3.length : Int)), (25, .int .i64 s4.2)]⟩, [.live .norm 2 [[.int .i64 a0.Actuators, .ro (a0.Steps.map cSStep)]], .live .nil 1 (l17.map (cL cI_i64)), .dead, .live .norm 1 (([w11] : List (List Int)).map (cL cI_i64))]⟩) (by kernel_rfl) ?_
          refine Gh_at (s1 := ⟨⟨60, [(1, .ro (a1.map cI_i64)), (2, .pown 0 1 0 0), (7, .own 1 l17.length 0 l17.length), (23, .ro (v3.map cI_i64)), (24, .int .i64 (v3.length : Int)), (25, .int .i64 s4.2)]⟩, [.live .norm 2 [[.int .i64 a0.Actuators, .ro (a0.Steps.map cSStep)]], .live .nil 1 (l17.map (cL cI_i64)), .dead, .live .norm 1 (([w11] : List (List Int)).map (cL cI_i64))]⟩) (by kernel_rfl) ?_
          refine Gh_trunc (s1 := ⟨⟨60, [(1, .ro (a1.map cI_i64)), (2, .pown 0 1 0 0), (7, .own 1 l17.length 0 l17.length), (23, .ro (v3.map cI_i64)), (24, .int .i64 (v3.length : Int)), (25, .int .i64 s4.2)]⟩, [.live .norm 2 [[.int .i64 a0.Actuators, .ro (a0.Steps.map cSStep)]], .live .nil 1 (l17.map (cL cI_i64)), .dead]⟩) (by kernel_rfl) (tb_free (ro_bel okI_i64.bel _) (tb_ref rfl (tb_ref rfl (tb_free (ro_bel okI_i64.bel _) (tb_free rfl (tb_free rfl rfl)))))) (H1 := [.live .norm 2 [[.int .i64 a0.Actuators, .ro (a0.Steps.map cSStep)]], .live .nil 1 (l17.map (cL cI_i64)), .dead]) (by kernel_rfl) (ob_boxn (bn_free rfl (bn_free (ro_bel okSStep.bel _) rfl)) (ob_list (okL okI_i64).bel (ob_dead rfl))) (by kernel_rfl) ?_
          refine Gh_nil ?_
          refine Gh_one (s1 := ⟨⟨60, [(1, .ro (a1.map cI_i64)), (2, .pown 0 1 0 0), (7, .own 1 l17.length 0 l17.length), (23, .ro (v3.map cI_i64)), (24, .int .i64 (v3.length : Int)), (25, .int .i64 s4.2)]⟩, [.live .norm 2 [[.int .i64 a0.Actuators, .ro (a0.Steps.map cSStep)]], .live .nil 1 (l17.map (cL cI_i64)), .dead]⟩) (by kernel_rfl) ?_
          refine Gh_at (s1 := ⟨⟨60, [(1, .ro (a1.map cI_i64)), (2, .pown 0 1 0 0), (7, .own 1 l17.length 0 l17.length), (23, .ro (v3.map cI_i64)), (24, .int .i64 (v3.length : Int)), (25, .int .i64 s4.2)]⟩, [.live .norm 2 [[.int .i64 a0.Actuators, .ro (a0.Steps.map cSStep)]], .live .nil 1 (l17.map (cL cI_i64)), .dead]⟩) (by kernel_rfl) ?_
          refine Gh_trunc (s1 := ⟨⟨60, [(1, .ro (a1.map cI_i64)), (2, .pown 0 1 0 0), (7, .own 1 l17.length 0 l17.length), (23, .ro (v3.map cI_i64)), (24, .int .i64 (v3.length : Int)), (25, .int .i64 s4.2)]⟩, [.live .norm 2 [[.int .i64 a0.Actuators, .ro (a0.Steps.map cSStep)]], .live .nil 1 (l17.map (cL cI_i64))]⟩) (by kernel_rfl) (tb_free (ro_bel okI_i64.bel _) (tb_ref rfl (tb_ref rfl (tb_free (ro_bel okI_i64.bel _) (tb_free rfl (tb_free rfl rfl)))))) (H1 := [.live .norm 2 [[.int .i64 a0.Actuators, .ro (a0.Steps.map cSStep)]], .live .nil 1 (l17.map (cL cI_i64))]) (by kernel_rfl) (ob_boxn (bn_free rfl (bn_free (ro_bel okSStep.bel _) rfl)) (ob_list (okL okI_i64).bel rfl)) (by kernel_rfl) ?_
          refine Gh_nil ?_
          refine W_gh ?_
          refine W_reg ?_
          refine O_ps 2 (by kernel_rfl) ?_
          refine O_nil ?_
          refine Gh_end (s1 := ⟨⟨60, [(1, .ro (a1.map cI_i64)), (2, .pown 0 1 0 0), (7, .own 1 l17.length 0 l17.length), (23, .ro (v3.map cI_i64)), (24, .int .i64 (v3.length : Int)), (25, .int .i64 (addI .i64 s4.2 1))]⟩, [.live .norm 2 [[.int .i64 a0.Actuators, .ro (a0.Steps.map cSStep)]], .live .nil 1 (l17.map (cL cI_i64))]⟩) _ (by kernel_rfl) ?_
          refine Gh_one (s1 := ⟨⟨60, [(1, .ro (a1.map cI_i64)), (2, .pown 0 1 0 0), (7, .own 1 l17.length 0 l17.length), (23, .ro (v3.map cI_i64)), (24, .int .i64 (v3.length : Int)), (25, .int .i64 (addI .i64 s4.2 1))]⟩, [.live .norm 2 [[.int .i64 a0.Actuators, .ro (a0.Steps.map cSStep)]], .live .nil 1 (l17.map (cL cI_i64))]⟩) (by kernel_rfl) ?_
          refine Gh_trunc0 (by kernel_rfl) ?_
          refine Gh_nil ?_
          replace h := Option.some.inj h; subst h
          exact ⟨_, rfl, by kernel_rfl⟩
      · replace h := fork_f c6 h
        refine W_exit ?_
        refine X_hit ?_
        refine Gh_one (s1 := ⟨⟨60, [(1, .ro (a1.map cI_i64)), (7, .own 1 s4.1.length 0 s4.1.length)]⟩, [.live .norm 2 [[.int .i64 a0.Actuators, .ro (a0.Steps.map cSStep)]], .live .nil 1 (s4.1.map (cL cI_i64))]⟩) (by kernel_rfl) ?_
        refine Gh_trunc0 (by kernel_rfl) ?_
        refine Gh_nil ?_
        replace h := Option.some.inj h; subst h
        exact ⟨_, rfl, by kernel_rfl⟩
    · refine W_seq ?_
      refine W_gh ?_
      refine W_reg ?_
      refine O_ps 3 (by kernel_rfl) ?_
      refine O_nil ?_
      refine Gh_end (s1 := ⟨⟨60, [(1, .ro (a1.map cI_i64)), (4, .own 1 w5.length 0 w5.length), (5, .int .i64 0)]⟩, [.live .norm 2 [[.int .i64 a0.Actuators, .ro (a0.Steps.map cSStep)]], .live .nil 1 (w5.map (cL cI_i64))]⟩) _ (by kernel_rfl) ?_
      refine W_ret ?_
      replace h := Option.some.inj h; subst h
      exact Fin_pk (l := [.own 1 w5.length 0 w5.length, .int .i64 0]) (by kernel_rfl) (pk_tup (d := 5) (mapO_cons (pk_own (d := 4) (id := 1) (nl := .nil) (sz := 1) (l := w5) (okL okI_i64).bel (by kernel_rfl) rfl) (mapO_cons (pk_free rfl) rfl)))

theorem p49 (a0 : (List Int)) (a1 : Int) (r : Int) (h : m49 a0 a1 = some r) : Pt E0 hp 49 [.ro (a0.map cI_i64), .int .i64 a1] (.int .i64 r) := by
  unfold m49 at h
  refine Pt_W (fn49) rfl (by decide) ?_
  refine W_seq ?_
  refine W_gh ?_
  refine W_reg ?_
  refine O_ps 1 (by kernel_rfl) ?_
  refine O_nil ?_
  refine Gh_end (s1 := ⟨⟨19, [(0, .ro (a0.map cI_i64)), (1, .int .i64 a1)]⟩, []⟩) _ (by kernel_rfl) ?_
  refine W_seq ?_
  refine W_seq ?_
  refine W_gh ?_
  refine W_reg ?_
  refine O_ps 1 (by kernel_rfl) ?_
  refine O_len (l := a0) cI_i64 (by kernel_rfl) (by kernel_rfl) ?_
  refine O_ps 1 (by kernel_rfl) ?_
  refine O_nil ?_
  refine Gh_end (s1 := ⟨⟨19, [(0, .ro (a0.map cI_i64)), (1, .int .i64 a1), (7, .int .i64 (a0.length : Int)), (8, .int .i64 0)]⟩, []⟩) _ (by kernel_rfl) ?_
  refine W_loop (fun s1 : Int => ⟨⟨19, [(0, .ro (a0.map cI_i64)), (1, .int .i64 a1), (7, .int .i64 (a0.length : Int)), (8, .int .i64 s1)]⟩, []⟩) (fun w2 : Unit => ⟨⟨19, [(0, .ro (a0.map cI_i64)), (1, .int .i64 a1)]⟩, []⟩) h (by kernel_rfl) (fun s1 c h => ?_) (fun w2 h => ?_)
  · refine W_gh ?_
    refine W_seq ?_
    refine W_reg ?_
    refine O_ps 1 (by kernel_rfl) ?_
    refine O_nil ?_
    refine W_seq ?_
    refine W_gh ?_
    refine W_cond (c := (decide (s1 < (a0.length : Int)))) (by kernel_rfl) (fun c3 => ?_) (fun c3 => ?_)
    · replace h := fork_t c3 h
      refine W_skip ?_
      refine Gh_end (s1 := ⟨⟨19, [(0, .ro (a0.map cI_i64)), (1, .int .i64 a1), (7, .int .i64 (a0.length : Int)), (8, .int .i64 s1)]⟩, []⟩) _ (by kernel_rfl) ?_
      refine W_seq ?_
      refine W_gh ?_
      refine W_block ?_
      refine W_seq ?_
      refine W_gh ?_
      refine W_reg ?_
      refine O_ps 2 (by kernel_rfl) ?_
      refine O_nil ?_
      refine Gh_end (s1 := ⟨⟨19, [(0, .ro (a0.map cI_i64)), (1, .int .i64 a1), (5, .int .i64 s1), (7, .int .i64 (a0.length : Int)), (8, .int .i64 s1)]⟩, []⟩) _ (by kernel_rfl) ?_
      refine W_seq ?_
      refine W_gh ?_
      refine W_reg ?_
      refine O_ps 3 (by kernel_rfl) ?_
      refine O_idx (kd := .i64) cI_i64 h (fun _ => rfl) (by kernel_rfl) (by kernel_rfl) (by kernel_rfl) (fun v4 e_v4 h => ?_)
      refine O_ps 2 (by kernel_rfl) ?_
      refine O_nil ?_
      refine Gh_end (s1 := ⟨⟨19, [(0, .ro (a0.map cI_i64)), (1, .int .i64 a1), (5, .int .i64 s1), (7, .int .i64 (a0.length : Int)), (8, .int .i64 s1), (16, .bool (a1 == v4))]⟩, []⟩) _ (by kernel_rfl) ?_
      refine W_gh ?_
      refine W_cond (c := (a1 == v4)) (by kernel_rfl) (fun c5 => ?_) (fun c5 => ?_)
      · replace h := fork_t c5 h
        refine W_seq ?_
        refine W_gh ?_
        refine W_reg ?_
        refine O_ps 2 (by kernel_rfl) ?_
        refine O_nil ?_
        refine Gh_end (s1 := ⟨⟨19, [(0, .ro (a0.map cI_i64)), (1, .int .i64 a1), (4, .int .i64 s1), (7, .int .i64 (a0.length : Int)), (8, .int .i64 s1), (16, .bool (a1 == v4))]⟩, []⟩) _ (by kernel_rfl) ?_
        refine W_ret ?_
        replace h := Option.some.inj h; subst h
        refine ⟨_, rfl, fun h => ?_⟩
        replace h := Option.some.inj h; subst h
        exact Fin_free (l := [.int .i64 s1]) (by kernel_rfl) (by kernel_rfl) rfl
      · replace h := fork_f c5 h
        refine W_skip ?_
        refine Gh_end (s1 := ⟨⟨19, [(0, .ro (a0.map cI_i64)), (1, .int .i64 a1), (7, .int .i64 (a0.length : Int)), (8, .int .i64 s1)]⟩, []⟩) _ (by kernel_rfl) ?_
        refine Gh_end (s1 := ⟨⟨19, [(0, .ro (a0.map cI_i64)), (1, .int .i64 a1), (7, .int .i64 (a0.length : Int)), (8, .int .i64 s1)]⟩, []⟩) _ (by kernel_rfl) ?_
        refine W_gh ?_
        refine W_reg ?_
        refine O_ps 2 (by kernel_rfl) ?_
        refine O_nil ?_
        refine Gh_end (s1 := ⟨⟨19, [(0, .ro (a0.map cI_i64)), (1, .int .i64 a1), (7, .int .i64 (a0.length : Int)), (8, .int .i64 (addI .i64 s1 1))]⟩, []⟩) _ (by kernel_rfl) ?_
        refine Gh_end (s1 := ⟨⟨19, [(0, .ro (a0.map cI_i64)), (1, .int .i64 a1), (7, .int .i64 (a0.length : Int)), (8, .int .i64 (addI .i64 s1 1))]⟩, []⟩) _ (by kernel_rfl) ?_
        replace h := Option.some.inj h; subst h
        exact ⟨_, rfl, by kernel_rfl⟩
    · replace h := fork_f c3 h
      refine W_exit ?_
      refine X_hit ?_
      refine Gh_end (s1 := ⟨⟨19, [(0, .ro (a0.map cI_i64)), (1, .int .i64 a1)]⟩, []⟩) _ (by kernel_rfl) ?_
      replace h := Option.some.inj h; subst h
      exact ⟨_, rfl, by kernel_rfl⟩
  · refine W_seq ?_
    refine W_reg ?_
    refine O_ps 1 (by kernel_rfl) ?_
    refine O_nil ?_
    refine W_ret ?_
    replace h := Option.some.inj h; subst h
    exact Fin_free (l := [.int .i64 (-1)]) (by kernel_rfl) (by kernel_rfl) rfl

theorem p26 (a0 : (List Int)) (a1 : Int) (r : Bool) (h : m26 a0 a1 = some r) : Pt E0 hp 26 [.ro (a0.map cI_i64), .int .i64 a1] (.bool r) := by
  unfold m26 at h
  refine Pt_W (fn26) rfl (by decide) ?_
  refine W_seq ?_
  refine W_gh ?_
  refine W_reg ?_
  refine O_ps 1 (by kernel_rfl) ?_
  refine O_nil ?_
  refine Gh_end (s1 := ⟨⟨9, [(0, .ro (a0.map cI_i64)), (1, .int .i64 a1)]⟩, []⟩) _ (by kernel_rfl) ?_
  refine W_seq ?_
  refine W_gh ?_
  refine W_reg ?_
  refine O_ps 2 (by kernel_rfl) ?_
  refine O_call (fun v => .int .i64 v) h (.inr rfl) (ys := [.ro (a0.map cI_i64), .int .i64 a1]) (fun _ e => p49 _ _ _ e) (by kernel_rfl) (by kernel_rfl) (bels_cons (ro_bel okI_i64.bel _) (bels_cons rfl rfl)) (fun v1 e_v1 h => ?_)
  refine O_ps 2 (by kernel_rfl) ?_
  refine O_nil ?_
  refine Gh_end (s1 := ⟨⟨9, [(4, .bool (decide (v1 ≥ 0)))]⟩, []⟩) _ (by kernel_rfl) ?_
  refine W_ret ?_
  replace h := Option.some.inj h; subst h
  exact Fin_free (l := [.bool (decide (v1 ≥ 0))]) (by kernel_rfl) (by kernel_rfl) rfl

theorem p7 (a0 : SSequence) (r : Bool) (h : m7 a0 = some r) : Pt E0 hp 7 [.agg (cSSequence a0)] (.bool r) := by
  unfold m7 at h
  refine Pt_W (fn7) rfl (by decide) ?_
  refine W_seq ?_
  refine W_gh ?_
  refine W_reg ?_
  refine O_ps 2 (by kernel_rfl) ?_
  refine O_nil ?_
  refine Gh_end (s1 := ⟨⟨77, [(1, .pown 0 1 0 0)]⟩, [.live .norm 2 [[.int .i64 a0.Actuators, .ro (a0.Steps.map cSStep)]]]⟩) _ (by kernel_rfl) ?_
  refine W_seq ?_
  refine W_seq ?_
  refine W_gh ?_
  refine W_reg ?_
  refine O_ps 1 (by kernel_rfl) ?_
  refine O_call (fun v => .bool v) h (.inr rfl) (ys := [.agg (cSSequence a0)]) (fun _ e => p21 _ _ e) (by kernel_rfl) (by kernel_rfl) (bels_cons (okSSequence.bel _) rfl) (fun v1 e_v1 h => ?_)
  refine O_ps 1 (by kernel_rfl) ?_
  refine O_nil ?_
  refine Gh_end (s1 := ⟨⟨77, [(1, .pown 0 1 0 0), (12, .bool (!v1))]⟩, [.live .norm 2 [[.int .i64 a0.Actuators, .ro (a0.Steps.map cSStep)]]]⟩) _ (by kernel_rfl) ?_
  refine W_gh ?_
  refine W_cond (c := (!v1)) (by kernel_rfl) (fun c2 => ?_) (fun c2 => ?_)
  · replace h := fork_t c2 h
    refine W_seq ?_
    refine W_gh ?_
    refine W_reg ?_
    refine O_call (fun v => .bool v) h (.inr rfl) (ys := []) (fun _ e => p12  _ e) (by kernel_rfl) (by kernel_rfl) rfl (fun v3 e_v3 h => ?_)
    refine O_ps 1 (by kernel_rfl) ?_
    refine O_nil ?_
    refine Gh_end (s1 := ⟨⟨77, [(1, .pown 0 1 0 0), (2, .bool v3), (12, .bool (!v1))]⟩, [.live .norm 2 [[.int .i64 a0.Actuators, .ro (a0.Steps.map cSStep)]]]⟩) _ (by kernel_rfl) ?_
    refine W_ret ?_
    replace h := Option.some.inj h; subst h
    exact Fin_free (l := [.bool v3]) (by kernel_rfl) (by kernel_rfl) rfl
  · replace h := fork_f c2 h
    refine W_skip ?_
    refine Gh_end (s1 := ⟨⟨77, [(1, .pown 0 1 0 0)]⟩, [.live .norm 2 [[.int .i64 a0.Actuators, .ro (a0.Steps.map cSStep)]]]⟩) _ (by kernel_rfl) ?_
    refine W_seq ?_
    refine W_gh ?_
    refine W_reg ?_
    refine O_ps 1 (by kernel_rfl) ?_
    refine O_call (fun v => .tup [.ro (v.1.map cI_i64), .int .i64 v.2]) h (.inr rfl) (ys := [.agg (cSSequence a0)]) (fun _ e => p16 _ _ e) (by kernel_rfl) (by kernel_rfl) (bels_cons (okSSequence.bel _) rfl) (fun v4 e_v4 h => ?_)
    refine O_ps 5 (by kernel_rfl) ?_
    refine O_nil ?_
    refine Gh_end (s1 := ⟨⟨77, [(1, .pown 0 1 0 0), (3, .ro (v4.1.map cI_i64)), (4, .int .i64 v4.2)]⟩, [.live .norm 2 [[.int .i64 a0.Actuators, .ro (a0.Steps.map cSStep)]]]⟩) _ (by kernel_rfl) ?_
    refine W_seq ?_
    refine W_seq ?_
    refine W_joinS (fun v : Bool => ⟨⟨77, [(1, .pown 0 1 0 0), (3, .ro (v4.1.map cI_i64)), (26, .bool v)]⟩, [.live .norm 2 [[.int .i64 a0.Actuators, .ro (a0.Steps.map cSStep)]]]⟩) h (fun w h => ?_) (fun w5 e_w5 h => ?_)
    · refine W_gh ?_
      refine W_reg ?_
      refine O_ps 3 (by kernel_rfl) ?_
      refine O_fork (n := 21) (v4.2 != 0) (by kernel_rfl) (fun c6 => ?_) (fun c6 => ?_)
      · replace h := fork_t c6 h
        refine O_ps 5 (by kernel_rfl) ?_
        refine O_nil ?_
        refine Gh_end (s1 := ⟨⟨77, [(1, .pown 0 1 0 0), (3, .ro (v4.1.map cI_i64)), (26, .bool true)]⟩, [.live .norm 2 [[.int .i64 a0.Actuators, .ro (a0.Steps.map cSStep)]]]⟩) _ (by kernel_rfl) ?_
        replace h := Option.some.inj h; subst h
        show _ = _
        kernel_rfl
      · replace h := fork_f c6 h
        refine O_ps 2 (by kernel_rfl) ?_
        refine O_call (fun v => .int .i64 v) h (.inr rfl) (ys := [.agg (cSSequence a0), .ro (v4.1.map cI_i64)]) (fun _ e => p24 _ _ _ e) (by kernel_rfl) (by kernel_rfl) (bels_cons (okSSequence.bel _) (bels_cons (ro_bel okI_i64.bel _) rfl)) (fun v7 e_v7 h => ?_)
        refine O_ps 2 (by kernel_rfl) ?_
        refine O_nil ?_
        refine Gh_end (s1 := ⟨⟨77, [(1, .pown 0 1 0 0), (3, .ro (v4.1.map cI_i64)), (26, .bool (v7 != 0))]⟩, [.live .norm 2 [[.int .i64 a0.Actuators, .ro (a0.Steps.map cSStep)]]]⟩) _ (by kernel_rfl) ?_
        replace h := Option.some.inj h; subst h
        show _ = _
        kernel_rfl
    · refine W_gh ?_
      refine W_cond (c := w5) (by kernel_rfl) (fun c8 => ?_) (fun c8 => ?_)
      · replace h := fork_t c8 h
        refine W_seq ?_
        refine W_reg ?_
        refine O_ps 1 (by kernel_rfl) ?_
        refine O_nil ?_
        refine W_ret ?_
        replace h := Option.some.inj h; subst h
        exact Fin_free (l := [.bool false]) (by kernel_rfl) (by kernel_rfl) rfl
      · replace h := fork_f c8 h
        refine W_skip ?_
        refine Gh_end (s1 := ⟨⟨77, [(1, .pown 0 1 0 0), (3, .ro (v4.1.map cI_i64))]⟩, [.live .norm 2 [[.int .i64 a0.Actuators, .ro (a0.Steps.map cSStep)]]]⟩) _ (by kernel_rfl) ?_
        refine W_seq ?_
        refine W_gh ?_
        refine W_reg ?_
        refine O_ps 2 (by kernel_rfl) ?_
        refine O_call (fun v => .tup [.ro (v.1.map (cL cI_i64)), .int .i64 v.2]) h (.inr rfl) (ys := [.agg (cSSequence a0), .ro (v4.1.map cI_i64)]) (fun _ e => p25 _ _ _ e) (by kernel_rfl) (by kernel_rfl) (bels_cons (okSSequence.bel _) (bels_cons (ro_bel okI_i64.bel _) rfl)) (fun v9 e_v9 h => ?_)
        refine O_ps 5 (by kernel_rfl) ?_
        refine O_nil ?_
        refine Gh_end (s1 := ⟨⟨77, [(1, .pown 0 1 0 0), (3, .ro (v4.1.map cI_i64)), (4, .int .i64 v9.2), (5, .ro (v9.1.map (cL cI_i64)))]⟩, [.live .norm 2 [[.int .i64 a0.Actuators, .ro (a0.Steps.map cSStep)]]]⟩) _ (by kernel_rfl) ?_
        refine W_seq ?_
        refine W_seq ?_
        refine W_cut ⟨⟨77, [(1, .pown 0 1 0 0), (3, .ro (v4.1.map cI_i64)), (5, .ro (v9.1.map (cL cI_i64))), (41, .bool ((v9.2 != 0) || ((v9.1.length : Int) != (v4.1.length : Int))))]⟩, [.live .norm 2 [[.int .i64 a0.Actuators, .ro (a0.Steps.map cSStep)]]]⟩ ?_ ?_
        · generalize e_g10 : ((v9.2 != 0) || ((v9.1.length : Int) != (v4.1.length : Int))) = g10
          refine W_gh ?_
          refine W_reg ?_
          refine O_ps 3 (by kernel_rfl) ?_
          refine O_fork (n := 35) (v9.2 != 0) (by kernel_rfl) (fun c11 => ?_) (fun c11 => ?_)
          · skip
            refine O_ps 6 (by kernel_rfl) ?_
            refine O_nil ?_
            refine Gh_end (s1 := ⟨⟨77, [(1, .pown 0 1 0 0), (3, .ro (v4.1.map cI_i64)), (5, .ro (v9.1.map (cL cI_i64))), (41, .bool true)]⟩, [.live .norm 2 [[.int .i64 a0.Actuators, .ro (a0.Steps.map cSStep)]]]⟩) _ (by kernel_rfl) ?_
            have q := e_g10; simp only [c2, c8, c11, cond_true, cond_false, Bool.true_and, Bool.false_and, Bool.true_or, Bool.false_or] at q; subst q
            show _ = _
            kernel_rfl
          · skip
            refine O_ps 1 (by kernel_rfl) ?_
            refine O_len (l := v9.1) (cL cI_i64) (by kernel_rfl) (by kernel_rfl) ?_
            refine O_ps 1 (by kernel_rfl) ?_
            refine O_len (l := v4.1) cI_i64 (by kernel_rfl) (by kernel_rfl) ?_
            refine O_ps 2 (by kernel_rfl) ?_
            refine O_nil ?_
            refine Gh_end (s1 := ⟨⟨77, [(1, .pown 0 1 0 0), (3, .ro (v4.1.map cI_i64)), (5, .ro (v9.1.map (cL cI_i64))), (41, .bool ((v9.1.length : Int) != (v4.1.length : Int)))]⟩, [.live .norm 2 [[.int .i64 a0.Actuators, .ro (a0.Steps.map cSStep)]]]⟩) _ (by kernel_rfl) ?_
            have q := e_g10; simp only [c2, c8, c11, cond_true, cond_false, Bool.true_and, Bool.false_and, Bool.true_or, Bool.false_or] at q; subst q
            show _ = _
            kernel_rfl
        · refine W_gh ?_
          refine W_cond (c := ((v9.2 != 0) || ((v9.1.length : Int) != (v4.1.length : Int)))) (by kernel_rfl) (fun c12 => ?_) (fun c12 => ?_)
          · replace h := fork_t c12 h
            refine W_seq ?_
            refine W_reg ?_
            refine O_ps 1 (by kernel_rfl) ?_
            refine O_nil ?_
            refine W_ret ?_
            replace h := Option.some.inj h; subst h
            exact Fin_free (l := [.bool false]) (by kernel_rfl) (by kernel_rfl) rfl
          · replace h := fork_f c12 h
            refine W_skip ?_
            refine Gh_end (s1 := ⟨⟨77, [(1, .pown 0 1 0 0), (3, .ro (v4.1.map cI_i64)), (5, .ro (v9.1.map (cL cI_i64)))]⟩, [.live .norm 2 [[.int .i64 a0.Actuators, .ro (a0.Steps.map cSStep)]]]⟩) _ (by kernel_rfl) ?_
            refine W_seq ?_
            refine W_seq ?_
            refine W_reg ?_
            refine O_ps 1 (by kernel_rfl) ?_
            refine O_nil ?_
            refine W_loop (fun s13 : Int => ⟨⟨77, [(1, .pown 0 1 0 0), (3, .ro (v4.1.map cI_i64)), (5, .ro (v9.1.map (cL cI_i64))), (6, .int .i64 s13)]⟩, [.live .norm 2 [[.int .i64 a0.Actuators, .ro (a0.Steps.map cSStep)]]]⟩) (fun w14 : Unit => ⟨⟨77, []⟩, [.live .norm 2 [[.int .i64 a0.Actuators, .ro (a0.Steps.map cSStep)]]]⟩) h (by kernel_rfl) (fun s13 c h => ?_) (fun w14 h => ?_)
            · refine W_gh ?_
              refine W_seq ?_
              refine W_seq ?_
              refine W_gh ?_
              refine W_reg ?_
              refine O_ps 2 (by kernel_rfl) ?_
              refine O_len (l := v4.1) cI_i64 (by kernel_rfl) (by kernel_rfl) ?_
              refine O_ps 1 (by kernel_rfl) ?_
              refine O_nil ?_
              refine Gh_end (s1 := ⟨⟨77, [(1, .pown 0 1 0 0), (3, .ro (v4.1.map cI_i64)), (5, .ro (v9.1.map (cL cI_i64))), (6, .int .i64 s13), (45, .bool (decide (s13 < (v4.1.length : Int))))]⟩, [.live .norm 2 [[.int .i64 a0.Actuators, .ro (a0.Steps.map cSStep)]]]⟩) _ (by kernel_rfl) ?_
              refine W_gh ?_
              refine W_cond (c := (decide (s13 < (v4.1.length : Int)))) (by kernel_rfl) (fun c15 => ?_) (fun c15 => ?_)
              · replace h := fork_t c15 h
                refine W_skip ?_
                refine Gh_end (s1 := ⟨⟨77, [(1, .pown 0 1 0 0), (3, .ro (v4.1.map cI_i64)), (5, .ro (v9.1.map (cL cI_i64))), (6, .int .i64 s13)]⟩, [.live .norm 2 [[.int .i64 a0.Actuators, .ro (a0.Steps.map cSStep)]]]⟩) _ (by kernel_rfl) ?_
                refine W_seq ?_
                refine W_gh ?_
                refine W_block ?_
                refine W_seq ?_
                refine W_reg ?_
                refine O_ps 1 (by kernel_rfl) ?_
                refine O_nil ?_
                refine W_seq ?_
                refine W_seq ?_
                refine W_gh ?_
                refine W_draw ?_
                refine O_ps 4 (by kernel_rfl) ?_
                refine O_idx (kd := .i64) cI_i64 h (fun _ => rfl) (by kernel_rfl) (by kernel_rfl) (by kernel_rfl) (fun v16 e_v16 h => ?_)
                refine O_ps 1 (by kernel_rfl) ?_
                refine O_idx (kd := .i64) cSStep h (fun _ => rfl) (by kernel_rfl) (by kernel_rfl) (by kernel_rfl) (fun v17 e_v17 h => ?_)
                refine O_ps 2 (by kernel_rfl) ?_
                refine O_len (l := v17.Strokes) cSStroke (by kernel_rfl) (by kernel_rfl) ?_
                refine O_ps 1 (by kernel_rfl) ?_
                refine O_nil ?_
                refine Gh_end (s1 := ⟨⟨77, [(1, .pown 0 1 0 0), (3, .ro (v4.1.map cI_i64)), (5, .ro (v9.1.map (cL cI_i64))), (6, .int .i64 s13), (7, .bool false), (56, .ro (v17.Strokes.map cSStroke)), (57, .int .i64 (v17.Strokes.length : Int)), (58, .int .i64 0)]⟩, [.live .norm 2 [[.int .i64 a0.Actuators, .ro (a0.Steps.map cSStep)]]]⟩) _ (by kernel_rfl) ?_
                refine W_loopS (fun s18 : Int × Bool => ⟨⟨77, [(1, .pown 0 1 0 0), (3, .ro (v4.1.map cI_i64)), (5, .ro (v9.1.map (cL cI_i64))), (6, .int .i64 s13), (7, .bool s18.2), (56, .ro (v17.Strokes.map cSStroke)), (57, .int .i64 (v17.Strokes.length : Int)), (58, .int .i64 s18.1)]⟩, [.live .norm 2 [[.int .i64 a0.Actuators, .ro (a0.Steps.map cSStep)]]]⟩) (fun w19 : Bool => ⟨⟨77, [(1, .pown 0 1 0 0), (3, .ro (v4.1.map cI_i64)), (5, .ro (v9.1.map (cL cI_i64))), (6, .int .i64 s13), (7, .bool w19)]⟩, [.live .norm 2 [[.int .i64 a0.Actuators, .ro (a0.Steps.map cSStep)]]]⟩) h (by kernel_rfl) (fun s18 c h => ?_) (fun w19 e_w19 h => ?_)
                · refine W_gh ?_
                  refine W_seq ?_
                  refine W_reg ?_
                  refine O_ps 1 (by kernel_rfl) ?_
                  refine O_nil ?_
                  refine W_seq ?_
                  refine W_gh ?_
                  refine W_cond (c := (decide (s18.1 < (v17.Strokes.length : Int)))) (by kernel_rfl) (fun c20 => ?_) (fun c20 => ?_)
                  · replace h := fork_t c20 h
                    refine W_skip ?_
                    refine Gh_end (s1 := ⟨⟨77, [(1, .pown 0 1 0 0), (3, .ro (v4.1.map cI_i64)), (5, .ro (v9.1.map (cL cI_i64))), (6, .int .i64 s13), (7, .bool s18.2), (56, .ro (v17.Strokes.map cSStroke)), (57, .int .i64 (v17.Strokes.length : Int)), (58, .int .i64 s18.1)]⟩, [.live .norm 2 [[.int .i64 a0.Actuators, .ro (a0.Steps.map cSStep)]]]⟩) _ (by kernel_rfl) ?_
                    refine W_seq ?_
                    refine W_gh ?_
                    refine W_block ?_
                    refine W_seq ?_
                    refine W_gh ?_
                    refine W_reg ?_
                    refine O_idx (kd := .i64) cSStroke h (fun _ => rfl) (by kernel_rfl) (by kernel_rfl) (by kernel_rfl) (fun v21 e_v21 h => ?_)
                    refine O_ps 3 (by kernel_rfl) ?_
                    refine O_nil ?_
                    refine Gh_end (s1 := ⟨⟨77, [(1, .pown 0 1 0 0), (3, .ro (v4.1.map cI_i64)), (5, .ro (v9.1.map (cL cI_i64))), (6, .int .i64 s13), (7, .bool s18.2), (9, .pown 1 1 0 0), (56, .ro (v17.Strokes.map cSStroke)), (57, .int .i64 (v17.Strokes.length : Int)), (58, .int .i64 s18.1)]⟩, [.live .norm 2 [[.int .i64 a0.Actuators, .ro (a0.Steps.map cSStep)]], .live .norm 2 [[.int .i64 v21.Actuator, .bool v21.Out]]]⟩) _ (by kernel_rfl) ?_
                    refine W_joinS (fun v : Bool => ⟨⟨77, [(1, .pown 0 1 0 0), (3, .ro (v4.1.map cI_i64)), (5, .ro (v9.1.map (cL cI_i64))), (6, .int .i64 s13), (7, .bool v), (56, .ro (v17.Strokes.map cSStroke)), (57, .int .i64 (v17.Strokes.length : Int)), (58, .int .i64 s18.1)]⟩, [.live .norm 2 [[.int .i64 a0.Actuators, .ro (a0.Steps.map cSStep)]], .live .norm 2 [[.int .i64 v21.Actuator, .bool v21.Out]]]⟩) h (fun w h => ?_) (fun w22 e_w22 h => ?_)
                    · refine W_gh ?_
                      refine W_draw ?_
                      refine O_ps 2 (by kernel_rfl) ?_
                      refine O_fork (n := 63) s18.2 (by kernel_rfl) (fun c23 => ?_) (fun c23 => ?_)
                      · replace h := fork_t c23 h
                        refine O_ps 10 (by kernel_rfl) ?_
                        refine O_nil ?_
                        refine Gh_end (s1 := ⟨⟨77, [(1, .pown 0 1 0 0), (3, .ro (v4.1.map cI_i64)), (5, .ro (v9.1.map (cL cI_i64))), (6, .int .i64 s13), (7, .bool true), (56, .ro (v17.Strokes.map cSStroke)), (57, .int .i64 (v17.Strokes.length : Int)), (58, .int .i64 s18.1)]⟩, [.live .norm 2 [[.int .i64 a0.Actuators, .ro (a0.Steps.map cSStep)]], .live .norm 2 [[.int .i64 v21.Actuator, .bool v21.Out]]]⟩) _ (by kernel_rfl) ?_
                        replace h := Option.some.inj h; subst h
                        show _ = _
                        kernel_rfl
                      · replace h := fork_f c23 h
                        refine O_ps 3 (by kernel_rfl) ?_
                        refine O_idx (kd := .i64) (cL cI_i64) h (fun _ => rfl) (by kernel_rfl) (by kernel_rfl) (by kernel_rfl) (fun v24 e_v24 h => ?_)
                        refine O_ps 3 (by kernel_rfl) ?_
                        refine O_call (fun v => .bool v) h (.inr rfl) (ys := [.ro (v24.map cI_i64), .int .i64 v21.Actuator]) (fun _ e => p26 _ _ _ e) (by kernel_rfl) (by kernel_rfl) (bels_cons (ro_bel okI_i64.bel _) (bels_cons rfl rfl)) (fun v25 e_v25 h => ?_)
                        refine O_ps 2 (by kernel_rfl) ?_
                        refine O_nil ?_
                        refine Gh_end (s1 := ⟨⟨77, [(1, .pown 0 1 0 0), (3, .ro (v4.1.map cI_i64)), (5, .ro (v9.1.map (cL cI_i64))), (6, .int .i64 s13), (7, .bool v25), (56, .ro (v17.Strokes.map cSStroke)), (57, .int .i64 (v17.Strokes.length : Int)), (58, .int .i64 s18.1)]⟩, [.live .norm 2 [[.int .i64 a0.Actuators, .ro (a0.Steps.map cSStep)]], .live .norm 2 [[.int .i64 v21.Actuator, .bool v21.Out]]]⟩) _ (by kernel_rfl) ?_
                        replace h := Option.some.inj h; subst h
                        show _ = _
                        kernel_rfl
                    · refine Gh_one (s1 := ⟨⟨77, [(1, .pown 0 1 0 0), (3, .ro (v4.1.map cI_i64)), (5, .ro (v9.1.map (cL cI_i64))), (6, .int .i64 s13), (7, .bool w22), (56, .ro (v17.Strokes.map cSStroke)), (57, .int .i64 (v17.Strokes.length : Int)), (58, .int .i64 s18.1)]⟩, [.live .norm 2 [[.int .i64 a0.Actuators, .ro (a0.Steps.map cSStep)]], .live .norm 2 [[.int .i64 v21.Actuator, .bool v21.Out]]]⟩) (by kernel_rfl) ?_
                      refine Gh_at (s1 := ⟨⟨77, [(1, .pown 0 1 0 0), (3, .ro (v4.1.map cI_i64)), (5, .ro (v9.1.map (cL cI_i64))), (6, .int .i64 s13), (7, .bool w22), (56, .ro (v17.Strokes.map cSStroke)), (57, .int .i64 (v17.Strokes.length : Int)), (58, .int .i64 s18.1)]⟩, [.live .norm 2 [[.int .i64 a0.Actuators, .ro (a0.Steps.map cSStep)]], .live .norm 2 [[.int .i64 v21.Actuator, .bool v21.Out]]]⟩) (by kernel_rfl) ?_
                      refine Gh_trunc (s1 := ⟨⟨77, [(1, .pown 0 1 0 0), (3, .ro (v4.1.map cI_i64)), (5, .ro (v9.1.map (cL cI_i64))), (6, .int .i64 s13), (7, .bool w22), (56, .ro (v17.Strokes.map cSStroke)), (57, .int .i64 (v17.Strokes.length : Int)), (58, .int .i64 s18.1)]⟩, [.live .norm 2 [[.int .i64 a0.Actuators, .ro (a0.Steps.map cSStep)]]]⟩) (by kernel_rfl) (tb_ref rfl (tb_free (ro_bel okI_i64.bel _) (tb_free (ro_bel (okL okI_i64).bel _) (tb_free rfl (tb_free rfl (tb_free (ro_bel okSStroke.bel _) (tb_free rfl (tb_free rfl rfl)))))))) (H1 := [.live .norm 2 [[.int .i64 a0.Actuators, .ro (a0.Steps.map cSStep)]]]) (by kernel_rfl) (ob_boxn (bn_free rfl (bn_free (ro_bel okSStep.bel _) rfl)) rfl) (by kernel_rfl) ?_
                      refine Gh_nil ?_
                      refine W_gh ?_
                      refine W_reg ?_
                      refine O_ps 2 (by kernel_rfl) ?_
                      refine O_nil ?_
                      refine Gh_end (s1 := ⟨⟨77, [(1, .pown 0 1 0 0), (3, .ro (v4.1.map cI_i64)), (5, .ro (v9.1.map (cL cI_i64))), (6, .int .i64 s13), (7, .bool w22), (56, .ro (v17.Strokes.map cSStroke)), (57, .int .i64 (v17.Strokes.length : Int)), (58, .int .i64 (addI .i64 s18.1 1))]⟩, [.live .norm 2 [[.int .i64 a0.Actuators, .ro (a0.Steps.map cSStep)]]]⟩) _ (by kernel_rfl) ?_
                      refine Gh_one (s1 := ⟨⟨77, [(1, .pown 0 1 0 0), (3, .ro (v4.1.map cI_i64)), (5, .ro (v9.1.map (cL cI_i64))), (6, .int .i64 s13), (7, .bool w22), (56, .ro (v17.Strokes.map cSStroke)), (57, .int .i64 (v17.Strokes.length : Int)), (58, .int .i64 (addI .i64 s18.1 1))]⟩, [.live .norm 2 [[.int .i64 a0.Actuators, .ro (a0.Steps.map cSStep)]]]⟩) (by kernel_rfl) ?_
                      refine Gh_trunc0 (by kernel_rfl) ?_
                      refine Gh_nil ?_
                      replace h := Option.some.inj h; subst h
                      exact ⟨_, rfl, by kernel_rfl⟩
                  · replace h := fork_f c20 h
                    refine W_exit ?_
                    refine X_hit ?_
                    refine Gh_one (s1 := ⟨⟨77, [(1, .pown 0 1 0 0), (3, .ro (v4.1.map cI_i64)), (5, .ro (v9.1.map (cL cI_i64))), (6, .int .i64 s13), (7, .bool s18.2)]⟩, [.live .norm 2 [[.int .i64 a0.Actuators, .ro (a0.Steps.map cSStep)]]]⟩) (by kernel_rfl) ?_
                    refine Gh_trunc0 (by kernel_rfl) ?_
                    refine Gh_nil ?_
                    replace h := Option.some.inj h; subst h
                    exact ⟨_, rfl, by kernel_rfl⟩
                · refine W_seq ?_
                  refine W_gh ?_
                  refine W_reg ?_
                  refine O_ps 2 (by kernel_rfl) ?_
                  refine O_nil ?_
                  refine Gh_end (s1 := ⟨⟨77, [(1, .pown 0 1 0 0), (3, .ro (v4.1.map cI_i64)), (5, .ro (v9.1.map (cL cI_i64))), (6, .int .i64 s13), (75, .bool (!w19))]⟩, [.live .norm 2 [[.int .i64 a0.Actuators, .ro (a0.Steps.map cSStep)]]]⟩) _ (by kernel_rfl) ?_
                  refine W_gh ?_
                  refine W_cond (c := (!w19)) (by kernel_rfl) (fun c26 => ?_) (fun c26 => ?_)
                  · replace h := fork_t c26 h
                    refine W_seq ?_
                    refine W_reg ?_
                    refine O_ps 1 (by kernel_rfl) ?_
                    refine O_nil ?_
                    refine W_ret ?_
                    replace h := Option.some.inj h; subst h
                    refine ⟨_, rfl, fun h => ?_⟩
                    replace h := Option.some.inj h; subst h
                    exact Fin_free (l := [.bool false]) (by kernel_rfl) (by kernel_rfl) rfl
                  · replace h := fork_f c26 h
                    refine W_skip ?_
                    refine Gh_end (s1 := ⟨⟨77, [(1, .pown 0 1 0 0), (3, .ro (v4.1.map cI_i64)), (5, .ro (v9.1.map (cL cI_i64))), (6, .int .i64 s13)]⟩, [.live .norm 2 [[.int .i64 a0.Actuators, .ro (a0.Steps.map cSStep)]]]⟩) _ (by kernel_rfl) ?_
                    refine Gh_one (s1 := ⟨⟨77, [(1, .pown 0 1 0 0), (3, .ro (v4.1.map cI_i64)), (5, .ro (v9.1.map (cL cI_i64))), (6, .int .i64 s13)]⟩, [.live .norm 2 [[.int .i64 a0.Actuators, .ro (a0.Steps.map cSStep)]]]⟩) (by kernel_rfl) ?_
                    refine Gh_trunc0 (by kernel_rfl) ?_
                    refine Gh_nil ?_
                    refine W_gh ?_
                    refine W_reg ?_
                    refine O_ps 3 (by kernel_rfl) ?_
                    refine O_nil ?_
                    refine Gh_end (s1 := ⟨⟨77, [(1, .pown 0 1 0 0), (3, .ro (v4.1.map cI_i64)), (5, .ro (v9.1.map (cL cI_i64))), (6, .int .i64 (addI .i64 s13 1))]⟩, [.live .norm 2 [[.int .i64 a0.Actuators, .ro (a0.Steps.map cSStep)]]]⟩) _ (by kernel_rfl) ?_
                    refine Gh_one (s1 := ⟨⟨77, [(1, .pown 0 1 0 0), (3, .ro (v4.1.map cI_i64)), (5, .ro (v9.1.map (cL cI_i64))), (6, .int .i64 (addI .i64 s13 1))]⟩, [.live .norm 2 [[.int .i64 a0.Actuators, .ro (a0.Steps.map cSStep)]]]⟩) (by kernel_rfl) ?_
                    refine Gh_trunc0 (by kernel_rfl) ?_
                    refine Gh_nil ?_
                    replace h := Option.some.inj h; subst h
                    exact ⟨_, rfl, by kernel_rfl⟩
              · replace h := fork_f c15 h
                refine W_exit ?_
                refine X_hit ?_
                refine Gh_one (s1 := ⟨⟨77, []⟩, [.live .norm 2 [[.int .i64 a0.Actuators, .ro (a0.Steps.map cSStep)]]]⟩) (by kernel_rfl) ?_
                refine Gh_trunc0 (by kernel_rfl) ?_
                refine Gh_nil ?_
                replace h := Option.some.inj h; subst h
                exact ⟨_, rfl, by kernel_rfl⟩
            · refine W_seq ?_
              refine W_gh ?_
              refine W_reg ?_
              refine O_call (fun v => .bool v) h (.inr rfl) (ys := []) (fun _ e => p12  _ e) (by kernel_rfl) (by kernel_rfl) rfl (fun v27 e_v27 h => ?_)
              refine O_ps 1 (by kernel_rfl) ?_
              refine O_nil ?_
              refine Gh_end (s1 := ⟨⟨77, [(2, .bool v27)]⟩, [.live .norm 2 [[.int .i64 a0.Actuators, .ro (a0.Steps.map cSStep)]]]⟩) _ (by kernel_rfl) ?_
              refine W_ret ?_
              replace h := Option.some.inj h; subst h
              exact Fin_free (l := [.bool v27]) (by kernel_rfl) (by kernel_rfl) rfl
end G18
