/- The code computes the models, printed by a program of mine (dec.py). No condition. -/
import Derived.Test.YtoobbcmofleljaaDoorG18E
import Derived.Test.YtoobbcmofleljaaDoorG18r
namespace G18
open Go Go.Pl Go.Am Go.Am.As
set_option linter.unusedVariables false
set_option linter.unusedSimpArgs false
set_option maxHeartbeats 1000000

theorem p11 (a0 : SSequence) (r : Bool) (h : m11 a0 = some r) : Pt E0 hp 11 [.agg (cSSequence a0)] (.bool r) := by
  unfold m11 at h
  refine Pt_W (fn11) rfl (by decide) ?_
  refine W_seq ?_
  refine W_gh ?_
  refine W_reg ?_
  refine O_ps 2 (by kernel_rfl) ?_
  refine O_nil ?_
  refine Gh_end (s1 := ⟨⟨23, [(1, .pown 0 1 0 0)]⟩, [.live .norm 2 [[.int .i64 a0.Actuators, .ro (a0.Steps.map cSStep)]]]⟩) _ (by kernel_rfl) ?_
  refine W_seq ?_
  refine W_seq ?_
  refine W_gh ?_
  refine W_reg ?_
  refine O_ps 2 (by kernel_rfl) ?_
  refine O_len (l := a0.Steps) cSStep (by kernel_rfl) (by kernel_rfl) ?_
  refine O_ps 1 (by kernel_rfl) ?_
  refine O_nil ?_
  refine Gh_end (s1 := ⟨⟨23, [(1, .pown 0 1 0 0), (7, .bool (decide ((a0.Steps.length : Int) > 128)))]⟩, [.live .norm 2 [[.int .i64 a0.Actuators, .ro (a0.Steps.map cSStep)]]]⟩) _ (by kernel_rfl) ?_
  refine W_gh ?_
  refine W_cond (c := (decide ((a0.Steps.length : Int) > 128))) (by kernel_rfl) (fun c1 => ?_) (fun c1 => ?_)
  · replace h := fork_t c1 h
    refine W_seq ?_
    refine W_reg ?_
    refine O_ps 1 (by kernel_rfl) ?_
    refine O_nil ?_
    refine W_ret ?_
    replace h := Option.some.inj h; subst h
    exact Fin_free (l := [.bool false]) (by kernel_rfl) (by kernel_rfl) rfl
  · replace h := fork_f c1 h
    refine W_skip ?_
    refine Gh_end (s1 := ⟨⟨23, [(1, .pown 0 1 0 0)]⟩, [.live .norm 2 [[.int .i64 a0.Actuators, .ro (a0.Steps.map cSStep)]]]⟩) _ (by kernel_rfl) ?_
    refine W_seq ?_
    refine W_seq ?_
    refine W_reg ?_
    refine O_ps 1 (by kernel_rfl) ?_
    refine O_nil ?_
    refine W_loop (fun s2 : Int => ⟨⟨23, [(1, .pown 0 1 0 0), (3, .int .i64 s2)]⟩, [.live .norm 2 [[.int .i64 a0.Actuators, .ro (a0.Steps.map cSStep)]]]⟩) (fun w3 : Unit => ⟨⟨23, []⟩, [.live .norm 2 [[.int .i64 a0.Actuators, .ro (a0.Steps.map cSStep)]]]⟩) h (by kernel_rfl) (fun s2 c h => ?_) (fun w3 h => ?_)
    · refine W_gh ?_
      refine W_seq ?_
      refine W_seq ?_
      refine W_gh ?_
      refine W_reg ?_
      refine O_ps 3 (by kernel_rfl) ?_
      refine O_len (l := a0.Steps) cSStep (by kernel_rfl) (by kernel_rfl) ?_
      refine O_ps 1 (by kernel_rfl) ?_
      refine O_nil ?_
      refine Gh_end (s1 := ⟨⟨23, [(1, .pown 0 1 0 0), (3, .int .i64 s2), (12, .bool (decide (s2 < (a0.Steps.length : Int))))]⟩, [.live .norm 2 [[.int .i64 a0.Actuators, .ro (a0.Steps.map cSStep)]]]⟩) _ (by kernel_rfl) ?_
      refine W_gh ?_
      refine W_cond (c := (decide (s2 < (a0.Steps.length : Int)))) (by kernel_rfl) (fun c4 => ?_) (fun c4 => ?_)
      · replace h := fork_t c4 h
        refine W_skip ?_
        refine Gh_end (s1 := ⟨⟨23, [(1, .pown 0 1 0 0), (3, .int .i64 s2)]⟩, [.live .norm 2 [[.int .i64 a0.Actuators, .ro (a0.Steps.map cSStep)]]]⟩) _ (by kernel_rfl) ?_
        refine W_seq ?_
        refine W_gh ?_
        refine W_block ?_
        refine W_seq ?_
        refine W_gh ?_
        refine W_reg ?_
        refine O_ps 3 (by kernel_rfl) ?_
        refine O_idx (kd := .i64) cSStep h (fun _ => rfl) (by kernel_rfl) (by kernel_rfl) (by kernel_rfl) (fun v5 e_v5 h => ?_)
        refine O_ps 2 (by kernel_rfl) ?_
        refine O_len (l := v5.Strokes) cSStroke (by kernel_rfl) (by kernel_rfl) ?_
        refine O_ps 1 (by kernel_rfl) ?_
        refine O_nil ?_
        refine Gh_end (s1 := ⟨⟨23, [(1, .pown 0 1 0 0), (3, .int .i64 s2), (22, .bool (decide ((v5.Strokes.length : Int) > 40)))]⟩, [.live .norm 2 [[.int .i64 a0.Actuators, .ro (a0.Steps.map cSStep)]]]⟩) _ (by kernel_rfl) ?_
        refine W_gh ?_
        refine W_cond (c := (decide ((v5.Strokes.length : Int) > 40))) (by kernel_rfl) (fun c6 => ?_) (fun c6 => ?_)
        · replace h := fork_t c6 h
          refine W_seq ?_
          refine W_reg ?_
          refine O_ps 1 (by kernel_rfl) ?_
          refine O_nil ?_
          refine W_ret ?_
          replace h := Option.some.inj h; subst h
          refine ⟨_, rfl, fun h => ?_⟩
          replace h := Option.some.inj h; subst h
          exact Fin_free (l := [.bool false]) (by kernel_rfl) (by kernel_rfl) rfl
        · replace h := fork_f c6 h
          refine W_skip ?_
          refine Gh_end (s1 := ⟨⟨23, [(1, .pown 0 1 0 0), (3, .int .i64 s2)]⟩, [.live .norm 2 [[.int .i64 a0.Actuators, .ro (a0.Steps.map cSStep)]]]⟩) _ (by kernel_rfl) ?_
          refine Gh_end (s1 := ⟨⟨23, [(1, .pown 0 1 0 0), (3, .int .i64 s2)]⟩, [.live .norm 2 [[.int .i64 a0.Actuators, .ro (a0.Steps.map cSStep)]]]⟩) _ (by kernel_rfl) ?_
          refine W_gh ?_
          refine W_reg ?_
          refine O_ps 3 (by kernel_rfl) ?_
          refine O_nil ?_
          refine Gh_end (s1 := ⟨⟨23, [(1, .pown 0 1 0 0), (3, .int .i64 (addI .i64 s2 1))]⟩, [.live .norm 2 [[.int .i64 a0.Actuators, .ro (a0.Steps.map cSStep)]]]⟩) _ (by kernel_rfl) ?_
          refine Gh_end (s1 := ⟨⟨23, [(1, .pown 0 1 0 0), (3, .int .i64 (addI .i64 s2 1))]⟩, [.live .norm 2 [[.int .i64 a0.Actuators, .ro (a0.Steps.map cSStep)]]]⟩) _ (by kernel_rfl) ?_
          replace h := Option.some.inj h; subst h
          exact ⟨_, rfl, by kernel_rfl⟩
      · replace h := fork_f c4 h
        refine W_exit ?_
        refine X_hit ?_
        refine Gh_end (s1 := ⟨⟨23, []⟩, [.live .norm 2 [[.int .i64 a0.Actuators, .ro (a0.Steps.map cSStep)]]]⟩) _ (by kernel_rfl) ?_
        replace h := Option.some.inj h; subst h
        exact ⟨_, rfl, by kernel_rfl⟩
    · refine W_seq ?_
      refine W_reg ?_
      refine O_ps 1 (by kernel_rfl) ?_
      refine O_nil ?_
      refine W_ret ?_
      replace h := Option.some.inj h; subst h
      exact Fin_free (l := [.bool true]) (by kernel_rfl) (by kernel_rfl) rfl

theorem p79 (a0 : (List UInt8)) (a1 : (List UInt8)) (r : (List (List UInt8))) (h : m79 a0 a1 = some r) : Pt E0 hp 79 [.str a0, .str a1] (.ro (r.map cS)) := by
  unfold m79 at h
  refine Pt_W (fn79) rfl (by decide) ?_
  refine W_seq ?_
  refine W_gh ?_
  refine W_reg ?_
  refine O_ps 1 (by kernel_rfl) ?_
  refine O_nil ?_
  refine Gh_end (s1 := ⟨⟨48, [(0, .str a0), (1, .str a1)]⟩, []⟩) _ (by kernel_rfl) ?_
  refine W_seq ?_
  refine W_gh ?_
  refine W_reg ?_
  refine O_ps 1 (by kernel_rfl) ?_
  refine O_nil ?_
  refine Gh_end (s1 := ⟨⟨48, [(0, .str a0), (1, .str a1), (5, .own 0 0 0 0)]⟩, [.live .nil 1 (([] : List (List UInt8)).map cS)]⟩) _ (by kernel_rfl) ?_
  refine W_seq ?_
  refine W_reg ?_
  refine O_ps 1 (by kernel_rfl) ?_
  refine O_nil ?_
  refine W_seq ?_
  refine W_seq ?_
  refine W_reg ?_
  refine O_ps 1 (by kernel_rfl) ?_
  refine O_nil ?_
  refine W_loopS (fun s1 : (List (List UInt8)) × Int × Int => ⟨⟨48, [(0, .str a0), (1, .str a1), (5, .own 0 s1.1.length 0 s1.1.length), (6, .int .i64 s1.2.1), (7, .int .i64 s1.2.2)]⟩, [.live .nil 1 (s1.1.map cS)]⟩) (fun w2 : (List (List UInt8)) × Int => ⟨⟨48, [(0, .str a0), (1, .str a1), (5, .own 0 w2.1.length 0 w2.1.length), (6, .int .i64 w2.2)]⟩, [.live .nil 1 (w2.1.map cS)]⟩) h (by kernel_rfl) (fun s1 c h => ?_) (fun w2 e_w2 h => ?_)
  · refine W_gh ?_
    refine W_seq ?_
    refine W_seq ?_
    refine W_gh ?_
    refine W_reg ?_
    refine O_ps 7 (by kernel_rfl) ?_
    refine O_nil ?_
    refine Gh_end (s1 := ⟨⟨48, [(0, .str a0), (1, .str a1), (5, .own 0 s1.1.length 0 s1.1.length), (6, .int .i64 s1.2.1), (7, .int .i64 s1.2.2), (14, .bool (decide ((addI .i64 s1.2.2 (a1.length : Int)) ≤ (a0.length : Int))))]⟩, [.live .nil 1 (s1.1.map cS)]⟩) _ (by kernel_rfl) ?_
    refine W_gh ?_
    refine W_cond (c := (decide ((addI .i64 s1.2.2 (a1.length : Int)) ≤ (a0.length : Int)))) (by kernel_rfl) (fun c3 => ?_) (fun c3 => ?_)
    · replace h := fork_t c3 h
      refine W_skip ?_
      refine Gh_end (s1 := ⟨⟨48, [(0, .str a0), (1, .str a1), (5, .own 0 s1.1.length 0 s1.1.length), (6, .int .i64 s1.2.1), (7, .int .i64 s1.2.2)]⟩, [.live .nil 1 (s1.1.map cS)]⟩) _ (by kernel_rfl) ?_
      refine W_seq ?_
      refine W_gh ?_
      refine W_block ?_
      refine W_seq ?_
      refine W_joinS (fun v : Bool => ⟨⟨48, [(0, .str a0), (1, .str a1), (5, .own 0 s1.1.length 0 s1.1.length), (6, .int .i64 s1.2.1), (7, .int .i64 s1.2.2), (30, .bool v)]⟩, [.live .nil 1 (s1.1.map cS)]⟩) h (fun w h => ?_) (fun w4 e_w4 h => ?_)
      · refine W_gh ?_
        refine W_reg ?_
        refine O_ps 4 (by kernel_rfl) ?_
        refine O_fork (n := 20) (decide (s1.2.2 ≥ s1.2.1)) (by kernel_rfl) (fun c5 => ?_) (fun c5 => ?_)
        · replace h := fork_t c5 h
          refine O_ps 6 (by kernel_rfl) ?_
          refine O_slcS (kl := .i64) (kh := .i64) h (by kernel_rfl) (by kernel_rfl) (by kernel_rfl) (by kernel_rfl) (fun v6 e_v6 h => ?_)
          refine O_ps 3 (by kernel_rfl) ?_
          refine O_nil ?_
          refine Gh_end (s1 := ⟨⟨48, [(0, .str a0), (1, .str a1), (5, .own 0 s1.1.length 0 s1.1.length), (6, .int .i64 s1.2.1), (7, .int .i64 s1.2.2), (30, .bool (v6 == a1))]⟩, [.live .nil 1 (s1.1.map cS)]⟩) _ (by kernel_rfl) ?_
          replace h := Option.some.inj h; subst h
          show _ = _
          kernel_rfl
        · replace h := fork_f c5 h
          refine O_ps 10 (by kernel_rfl) ?_
          refine O_nil ?_
          refine Gh_end (s1 := ⟨⟨48, [(0, .str a0), (1, .str a1), (5, .own 0 s1.1.length 0 s1.1.length), (6, .int .i64 s1.2.1), (7, .int .i64 s1.2.2), (30, .bool false)]⟩, [.live .nil 1 (s1.1.map cS)]⟩) _ (by kernel_rfl) ?_
          replace h := Option.some.inj h; subst h
          show _ = _
          kernel_rfl
      · refine W_joinS (fun v : (List (List UInt8)) × Int => ⟨⟨48, [(0, .str a0), (1, .str a1), (5, .own 0 v.1.length 0 v.1.length), (6, .int .i64 v.2), (7, .int .i64 s1.2.2)]⟩, [.live .nil 1 (v.1.map cS)]⟩) h (fun w h => ?_) (fun w7 e_w7 h => ?_)
        · refine W_gh ?_
          refine W_cond (c := w4) (by kernel_rfl) (fun c8 => ?_) (fun c8 => ?_)
          · replace h := fork_t c8 h
            refine W_seq ?_
            refine W_gh ?_
            refine W_reg ?_
            refine O_ps 4 (by kernel_rfl) ?_
            refine O_slcS (kl := .i64) (kh := .i64) h (by kernel_rfl) (by kernel_rfl) (by kernel_rfl) (by kernel_rfl) (fun v9 e_v9 h => ?_)
            refine O_ps 1 (by kernel_rfl) ?_
            refine O_app (C := cS) (id := 0) (nl := .nil) okStr h rfl (by kernel_rfl) (by kernel_rfl) (by kernel_rfl) (by kernel_rfl) rfl (fun l10 e_l10 h => ?_)
            refine O_ps 1 (by kernel_rfl) ?_
            refine O_nil ?_
            refine Gh_one (s1 := ⟨⟨48, [(0, .str a0), (1, .str a1), (5, .own 0 l10.length 0 l10.length), (7, .int .i64 s1.2.2), (30, .bool w4)]⟩, [.live .nil 1 (l10.map cS), .live .norm 1 (([v9] : List (List UInt8)).map cS)]⟩) (by kernel_rfl) ?_
            refine Gh_at (s1 := ⟨⟨48, [(0, .str a0), (1, .str a1), (5, .own 0 l10.length 0 l10.length), (7, .int .i64 s1.2.2), (30, .bool w4)]⟩, [.live .nil 1 (l10.map cS), .live .norm 1 (([v9] : List (List UInt8)).map cS)]⟩) (by kernel_rfl) ?_
            refine Gh_trunc (s1 := ⟨⟨48, [(0, .str a0), (1, .str a1), (5, .own 0 l10.length 0 l10.length), (7, .int .i64 s1.2.2), (30, .bool w4)]⟩, [.live .nil 1 (l10.map cS)]⟩) (by kernel_rfl) (tb_free rfl (tb_free rfl (tb_ref rfl (tb_free rfl (tb_free rfl rfl))))) (H1 := [.live .nil 1 (l10.map cS)]) (by kernel_rfl) (ob_list okStr.bel rfl) (by kernel_rfl) ?_
            refine Gh_nil ?_
            refine W_gh ?_
            refine W_reg ?_
            refine O_ps 5 (by kernel_rfl) ?_
            refine O_nil ?_
            refine Gh_end (s1 := ⟨⟨48, [(0, .str a0), (1, .str a1), (5, .own 0 l10.length 0 l10.length), (6, .int .i64 (addI .i64 s1.2.2 (a1.length : Int))), (7, .int .i64 s1.2.2), (30, .bool w4)]⟩, [.live .nil 1 (l10.map cS)]⟩) _ (by kernel_rfl) ?_
            refine Gh_one (s1 := ⟨⟨48, [(0, .str a0), (1, .str a1), (5, .own 0 l10.length 0 l10.length), (6, .int .i64 (addI .i64 s1.2.2 (a1.length : Int))), (7, .int .i64 s1.2.2)]⟩, [.live .nil 1 (l10.map cS)]⟩) (by kernel_rfl) ?_
            refine Gh_trunc0 (by kernel_rfl) ?_
            refine Gh_nil ?_
            replace h := Option.some.inj h; subst h
            show _ = _
            kernel_rfl
          · replace h := fork_f c8 h
            refine W_skip ?_
            refine Gh_one (s1 := ⟨⟨48, [(0, .str a0), (1, .str a1), (5, .own 0 s1.1.length 0 s1.1.length), (6, .int .i64 s1.2.1), (7, .int .i64 s1.2.2)]⟩, [.live .nil 1 (s1.1.map cS)]⟩) (by kernel_rfl) ?_
            refine Gh_trunc0 (by kernel_rfl) ?_
            refine Gh_nil ?_
            replace h := Option.some.inj h; subst h
            show _ = _
            kernel_rfl
        · refine Gh_one (s1 := ⟨⟨48, [(0, .str a0), (1, .str a1), (5, .own 0 w7.1.length 0 w7.1.length), (6, .int .i64 w7.2), (7, .int .i64 s1.2.2)]⟩, [.live .nil 1 (w7.1.map cS)]⟩) (by kernel_rfl) ?_
          refine Gh_trunc0 (by kernel_rfl) ?_
          refine Gh_nil ?_
          refine W_gh ?_
          refine W_reg ?_
          refine O_ps 3 (by kernel_rfl) ?_
          refine O_nil ?_
          refine Gh_end (s1 := ⟨⟨48, [(0, .str a0), (1, .str a1), (5, .own 0 w7.1.length 0 w7.1.length), (6, .int .i64 w7.2), (7, .int .i64 (addI .i64 s1.2.2 1))]⟩, [.live .nil 1 (w7.1.map cS)]⟩) _ (by kernel_rfl) ?_
          refine Gh_one (s1 := ⟨⟨48, [(0, .str a0), (1, .str a1), (5, .own 0 w7.1.length 0 w7.1.length), (6, .int .i64 w7.2), (7, .int .i64 (addI .i64 s1.2.2 1))]⟩, [.live .nil 1 (w7.1.map cS)]⟩) (by kernel_rfl) ?_
          refine Gh_trunc0 (by kernel_rfl) ?_
          refine Gh_nil ?_
          replace h := Option.some.inj h; subst h
          exact ⟨_, rfl, by kernel_rfl⟩
    · replace h := fork_f c3 h
      refine W_exit ?_
      refine X_hit ?_
      refine Gh_one (s1 := ⟨⟨48, [(0, .str a0), (1, .str a1), (5, .own 0 s1.1.length 0 s1.1.length), (6, .int .i64 s1.2.1)]⟩, [.live .nil 1 (s1.1.map cS)]⟩) (by kernel_rfl) ?_
      refine Gh_trunc0 (by kernel_rfl) ?_
      refine Gh_nil ?_
      replace h := Option.some.inj h; subst h
      exact ⟨_, rfl, by kernel_rfl⟩
  · refine W_seq ?_
    refine W_gh ?_
    refine W_reg ?_
    refine O_ps 3 (by kernel_rfl) ?_
    refine O_slcS (kl := .i64) (kh := .i64) h (by kernel_rfl) (by kernel_rfl) (by kernel_rfl) (by kernel_rfl) (fun v11 e_v11 h => ?_)
    refine O_ps 1 (by kernel_rfl) ?_
    refine O_app (C := cS) (id := 0) (nl := .nil) okStr h rfl (by kernel_rfl) (by kernel_rfl) (by kernel_rfl) (by kernel_rfl) rfl (fun l12 e_l12 h => ?_)
    refine O_ps 1 (by kernel_rfl) ?_
    refine O_nil ?_
    refine Gh_one (s1 := ⟨⟨48, [(1, .str a1), (4, .own 0 l12.length 0 l12.length)]⟩, [.live .nil 1 (l12.map cS), .live .norm 1 (([v11] : List (List UInt8)).map cS)]⟩) (by kernel_rfl) ?_
    refine Gh_at (s1 := ⟨⟨48, [(1, .str a1), (4, .own 0 l12.length 0 l12.length)]⟩, [.live .nil 1 (l12.map cS), .live .norm 1 (([v11] : List (List UInt8)).map cS)]⟩) (by kernel_rfl) ?_
    refine Gh_trunc (s1 := ⟨⟨48, [(1, .str a1), (4, .own 0 l12.length 0 l12.length)]⟩, [.live .nil 1 (l12.map cS)]⟩) (by kernel_rfl) (tb_free rfl (tb_ref rfl rfl)) (H1 := [.live .nil 1 (l12.map cS)]) (by kernel_rfl) (ob_list okStr.bel rfl) (by kernel_rfl) ?_
    refine Gh_nil ?_
    refine W_ret ?_
    replace h := Option.some.inj h; subst h
    exact Fin_pk (l := [.own 0 l12.length 0 l12.length]) (by kernel_rfl) (pk_own (d := 5) (id := 0) (nl := .nil) (sz := 1) (l := l12) okStr.bel (by kernel_rfl) rfl)

theorem p86 (a0 : SStroke) (r : (List UInt8)) (h : m86 a0 = some r) : Pt E0 hp 86 [.agg (cSStroke a0)] (.str r) := by
  unfold m86 at h
  refine Pt_W (fn86) rfl (by decide) ?_
  refine W_seq ?_
  refine W_gh ?_
  refine W_reg ?_
  refine O_ps 2 (by kernel_rfl) ?_
  refine O_nil ?_
  refine Gh_end (s1 := ⟨⟨16, [(1, .pown 0 1 0 0)]⟩, [.live .norm 2 [[.int .i64 a0.Actuator, .bool a0.Out]]]⟩) _ (by kernel_rfl) ?_
  refine W_seq ?_
  refine W_gh ?_
  refine W_reg ?_
  refine O_ps 5 (by kernel_rfl) ?_
  refine O_slcS (kl := .i64) (kh := .i64) h (by kernel_rfl) (by kernel_rfl) (by kernel_rfl) (by kernel_rfl) (fun v1 e_v1 h => ?_)
  refine O_ps 1 (by kernel_rfl) ?_
  refine O_nil ?_
  refine Gh_end (s1 := ⟨⟨16, [(1, .pown 0 1 0 0), (3, .str v1)]⟩, [.live .norm 2 [[.int .i64 a0.Actuator, .bool a0.Out]]]⟩) _ (by kernel_rfl) ?_
  refine W_seq ?_
  refine W_seq ?_
  refine W_gh ?_
  refine W_reg ?_
  refine O_ps 2 (by kernel_rfl) ?_
  refine O_nil ?_
  refine Gh_end (s1 := ⟨⟨16, [(3, .str v1), (11, .bool a0.Out)]⟩, [.live .norm 2 [[.int .i64 a0.Actuator, .bool a0.Out]]]⟩) _ (by kernel_rfl) ?_
  refine W_gh ?_
  refine W_cond (c := a0.Out) (by kernel_rfl) (fun c2 => ?_) (fun c2 => ?_)
  · replace h := fork_t c2 h
    refine W_seq ?_
    refine W_gh ?_
    refine W_reg ?_
    refine O_ps 1 (by kernel_rfl) ?_
    refine O_cat h (by kernel_rfl) (by kernel_rfl) (by kernel_rfl) (fun v3 e_v3 h => ?_)
    refine O_ps 1 (by kernel_rfl) ?_
    refine O_nil ?_
    refine Gh_end (s1 := ⟨⟨16, [(2, .str v3), (11, .bool a0.Out)]⟩, [.live .norm 2 [[.int .i64 a0.Actuator, .bool a0.Out]]]⟩) _ (by kernel_rfl) ?_
    refine W_ret ?_
    replace h := Option.some.inj h; subst h
    exact Fin_free (l := [.str v3]) (by kernel_rfl) (by kernel_rfl) rfl
  · replace h := fork_f c2 h
    refine W_skip ?_
    refine Gh_end (s1 := ⟨⟨16, [(3, .str v1)]⟩, [.live .norm 2 [[.int .i64 a0.Actuator, .bool a0.Out]]]⟩) _ (by kernel_rfl) ?_
    refine W_seq ?_
    refine W_gh ?_
    refine W_reg ?_
    refine O_ps 1 (by kernel_rfl) ?_
    refine O_cat h (by kernel_rfl) (by kernel_rfl) (by kernel_rfl) (fun v4 e_v4 h => ?_)
    refine O_ps 1 (by kernel_rfl) ?_
    refine O_nil ?_
    refine Gh_end (s1 := ⟨⟨16, [(2, .str v4)]⟩, [.live .norm 2 [[.int .i64 a0.Actuator, .bool a0.Out]]]⟩) _ (by kernel_rfl) ?_
    refine W_ret ?_
    replace h := Option.some.inj h; subst h
    exact Fin_free (l := [.str v4]) (by kernel_rfl) (by kernel_rfl) rfl

theorem p84 (a0 : (List UInt8)) (r : (SStroke × Bool)) (h : m84 a0 = some r) : Pt E0 hp 84 [.str a0] (.tup [.agg [.int .i64 r.1.Actuator, .bool r.1.Out], .bool r.2]) := by
  unfold m84 at h
  refine Pt_W (fn84) rfl (by decide) ?_
  refine W_seq ?_
  refine W_gh ?_
  refine W_reg ?_
  refine O_ps 2 (by kernel_rfl) ?_
  refine O_nil ?_
  refine Gh_end (s1 := ⟨⟨28, [(0, .str a0), (2, .pown 0 1 0 0)]⟩, [.live .norm 2 [[.int .i64 0, .bool false]]]⟩) _ (by kernel_rfl) ?_
  refine W_seq ?_
  refine W_seq ?_
  refine W_reg ?_
  refine O_ps 1 (by kernel_rfl) ?_
  refine O_nil ?_
  refine W_loop (fun s1 : Int => ⟨⟨28, [(0, .str a0), (2, .pown 0 1 0 0), (4, .int .i64 s1)]⟩, [.live .norm 2 [[.int .i64 0, .bool false]]]⟩) (fun w2 : Unit => ⟨⟨28, [(0, .str a0), (2, .pown 0 1 0 0)]⟩, [.live .norm 2 [[.int .i64 0, .bool false]]]⟩) h (by kernel_rfl) (fun s1 c h => ?_) (fun w2 h => ?_)
  · refine W_gh ?_
    refine W_seq ?_
    refine W_seq ?_
    refine W_gh ?_
    refine W_reg ?_
    refine O_ps 2 (by kernel_rfl) ?_
    refine O_nil ?_
    refine Gh_end (s1 := ⟨⟨28, [(0, .str a0), (2, .pown 0 1 0 0), (4, .int .i64 s1), (9, .bool (decide (s1 < 6)))]⟩, [.live .norm 2 [[.int .i64 0, .bool false]]]⟩) _ (by kernel_rfl) ?_
    refine W_gh ?_
    refine W_cond (c := (decide (s1 < 6))) (by kernel_rfl) (fun c3 => ?_) (fun c3 => ?_)
    · replace h := fork_t c3 h
      refine W_skip ?_
      refine Gh_end (s1 := ⟨⟨28, [(0, .str a0), (2, .pown 0 1 0 0), (4, .int .i64 s1)]⟩, [.live .norm 2 [[.int .i64 0, .bool false]]]⟩) _ (by kernel_rfl) ?_
      refine W_seq ?_
      refine W_gh ?_
      refine W_block ?_
      refine W_seq ?_
      refine W_gh ?_
      refine W_reg ?_
      refine O_ps 3 (by kernel_rfl) ?_
      refine O_nil ?_
      refine Gh_one (frz_own (id := 1) (nl := .norm) (sz := 1) (l := ([false, true] : List Bool)) okB.bel (by kernel_rfl) (by kernel_rfl) rfl rfl (s1 := ⟨⟨28, [(0, .str a0), (2, .pown 0 1 0 0), (4, .int .i64 s1), (12, .ro (([false, true] : List Bool).map cB)), (13, .int .i64 (2 : Int)), (14, .int .i64 0)]⟩, [.live .norm 2 [[.int .i64 0, .bool false]], .dead]⟩) (by kernel_rfl)) ?_
      refine Gh_at (s1 := ⟨⟨28, [(0, .str a0), (2, .pown 0 1 0 0), (4, .int .i64 s1), (12, .ro (([false, true] : List Bool).map cB)), (13, .int .i64 (2 : Int)), (14, .int .i64 0)]⟩, [.live .norm 2 [[.int .i64 0, .bool false]], .dead]⟩) (by kernel_rfl) ?_
      refine Gh_trunc (s1 := ⟨⟨28, [(0, .str a0), (2, .pown 0 1 0 0), (4, .int .i64 s1), (12, .ro (([false, true] : List Bool).map cB)), (13, .int .i64 (2 : Int)), (14, .int .i64 0)]⟩, [.live .norm 2 [[.int .i64 0, .bool false]]]⟩) (by kernel_rfl) (tb_free rfl (tb_ref rfl (tb_free rfl (tb_free (ro_bel okB.bel _) (tb_free rfl (tb_free rfl rfl)))))) (H1 := [.live .norm 2 [[.int .i64 0, .bool false]]]) (by kernel_rfl) (ob_boxn (bn_free rfl (bn_free rfl rfl)) rfl) (by kernel_rfl) ?_
      refine Gh_nil ?_
      refine W_loop (fun s4 : Int => ⟨⟨28, [(0, .str a0), (2, .pown 0 1 0 0), (4, .int .i64 s1), (12, .ro (([false, true] : List Bool).map cB)), (13, .int .i64 (2 : Int)), (14, .int .i64 s4)]⟩, [.live .norm 2 [[.int .i64 0, .bool false]]]⟩) (fun w5 : Unit => ⟨⟨28, [(0, .str a0), (2, .pown 0 1 0 0), (4, .int .i64 s1)]⟩, [.live .norm 2 [[.int .i64 0, .bool false]]]⟩) h (by kernel_rfl) (fun s4 c h => ?_) (fun w5 h => ?_)
      · refine W_gh ?_
        refine W_seq ?_
        refine W_reg ?_
        refine O_ps 1 (by kernel_rfl) ?_
        refine O_nil ?_
        refine W_seq ?_
        refine W_gh ?_
        refine W_cond (c := (decide (s4 < (2 : Int)))) (by kernel_rfl) (fun c6 => ?_) (fun c6 => ?_)
        · replace h := fork_t c6 h
          refine W_skip ?_
          refine Gh_end (s1 := ⟨⟨28, [(0, .str a0), (2, .pown 0 1 0 0), (4, .int .i64 s1), (12, .ro (([false, true] : List Bool).map cB)), (13, .int .i64 (2 : Int)), (14, .int .i64 s4)]⟩, [.live .norm 2 [[.int .i64 0, .bool false]]]⟩) _ (by kernel_rfl) ?_
          refine W_seq ?_
          refine W_gh ?_
          refine W_block ?_
          refine W_seq ?_
          refine W_gh ?_
          refine W_reg ?_
          refine O_idx (kd := .i64) cB h (fun _ => rfl) (by kernel_rfl) (by kernel_rfl) (by kernel_rfl) (fun v7 e_v7 h => ?_)
          refine O_ps 2 (by kernel_rfl) ?_
          refine O_nil ?_
          refine Gh_end (s1 := ⟨⟨28, [(0, .str a0), (2, .pown 0 1 0 0), (4, .int .i64 s1), (6, .bool v7), (12, .ro (([false, true] : List Bool).map cB)), (13, .int .i64 (2 : Int)), (14, .int .i64 s4)]⟩, [.live .norm 2 [[.int .i64 0, .bool false]]]⟩) _ (by kernel_rfl) ?_
          refine W_seq ?_
          refine W_gh ?_
          refine W_reg ?_
          refine O_ps 5 (by kernel_rfl) ?_
          refine O_nil ?_
          refine Gh_end (s1 := ⟨⟨28, [(0, .str a0), (2, .pown 0 1 0 0), (4, .int .i64 s1), (7, .pown 1 1 0 0), (12, .ro (([false, true] : List Bool).map cB)), (13, .int .i64 (2 : Int)), (14, .int .i64 s4)]⟩, [.live .norm 2 [[.int .i64 0, .bool false]], .live .norm 2 [[.int .i64 s1, .bool v7]]]⟩) _ (by kernel_rfl) ?_
          refine W_seq ?_
          refine W_gh ?_
          refine W_reg ?_
          refine O_ps 1 (by kernel_rfl) ?_
          refine O_call (fun v => .str v) h (.inr rfl) (ys := [.agg (cSStroke (⟨s1, v7⟩ : SStroke))]) (fun _ e => p86 _ _ e) (by kernel_rfl) (by kernel_rfl) (bels_cons (okSStroke.bel _) rfl) (fun v8 e_v8 h => ?_)
          refine O_ps 2 (by kernel_rfl) ?_
          refine O_nil ?_
          refine Gh_end (s1 := ⟨⟨28, [(0, .str a0), (2, .pown 0 1 0 0), (4, .int .i64 s1), (7, .pown 1 1 0 0), (12, .ro (([false, true] : List Bool).map cB)), (13, .int .i64 (2 : Int)), (14, .int .i64 s4), (24, .bool (v8 == a0))]⟩, [.live .norm 2 [[.int .i64 0, .bool false]], .live .norm 2 [[.int .i64 s1, .bool v7]]]⟩) _ (by kernel_rfl) ?_
          refine W_gh ?_
          refine W_cond (c := (v8 == a0)) (by kernel_rfl) (fun c9 => ?_) (fun c9 => ?_)
          · replace h := fork_t c9 h
            refine W_seq ?_
            refine W_gh ?_
            refine W_reg ?_
            refine O_ps 3 (by kernel_rfl) ?_
            refine O_nil ?_
            refine Gh_end (s1 := ⟨⟨28, [(0, .str a0), (2, .pown 0 1 0 0), (3, .bool true), (4, .int .i64 s1), (12, .ro (([false, true] : List Bool).map cB)), (13, .int .i64 (2 : Int)), (14, .int .i64 s4), (24, .bool (v8 == a0))]⟩, [.live .norm 2 [[.int .i64 s1, .bool v7]], .live .norm 2 [[.int .i64 s1, .bool v7]]]⟩) _ (by kernel_rfl) ?_
            refine W_ret ?_
            replace h := Option.some.inj h; subst h
            refine ⟨_, rfl, fun h => ?_⟩
            replace h := Option.some.inj h; subst h
            refine ⟨_, rfl, fun h => ?_⟩
            replace h := Option.some.inj h; subst h
            exact Fin_free (l := [.agg [.int .i64 s1, .bool v7], .bool true]) (by kernel_rfl) (by kernel_rfl) (bels_cons rfl (bels_cons rfl rfl))
          · replace h := fork_f c9 h
            refine W_skip ?_
            refine Gh_end (s1 := ⟨⟨28, [(0, .str a0), (2, .pown 0 1 0 0), (4, .int .i64 s1), (12, .ro (([false, true] : List Bool).map cB)), (13, .int .i64 (2 : Int)), (14, .int .i64 s4)]⟩, [.live .norm 2 [[.int .i64 0, .bool false]], .live .norm 2 [[.int .i64 s1, .bool v7]]]⟩) _ (by kernel_rfl) ?_
            refine Gh_one (s1 := ⟨⟨28, [(0, .str a0), (2, .pown 0 1 0 0), (4, .int .i64 s1), (12, .ro (([false, true] : List Bool).map cB)), (13, .int .i64 (2 : Int)), (14, .int .i64 s4)]⟩, [.live .norm 2 [[.int .i64 0, .bool false]], .live .norm 2 [[.int .i64 s1, .bool v7]]]⟩) (by kernel_rfl) ?_
            refine Gh_at (s1 := ⟨⟨28, [(0, .str a0), (2, .pown 0 1 0 0), (4, .int .i64 s1), (12, .ro (([false, true] : List Bool).map cB)), (13, .int .i64 (2 : Int)), (14, .int .i64 s4)]⟩, [.live .norm 2 [[.int .i64 0, .bool false]], .live .norm 2 [[.int .i64 s1, .bool v7]]]⟩) (by kernel_rfl) ?_
            refine Gh_trunc (s1 := ⟨⟨28, [(0, .str a0), (2, .pown 0 1 0 0), (4, .int .i64 s1), (12, .ro (([false, true] : List Bool).map cB)), (13, .int .i64 (2 : Int)), (14, .int .i64 s4)]⟩, [.live .norm 2 [[.int .i64 0, .bool false]]]⟩) (by kernel_rfl) (tb_free rfl (tb_ref rfl (tb_free rfl (tb_free (ro_bel okB.bel _) (tb_free rfl (tb_free rfl rfl)))))) (H1 := [.live .norm 2 [[.int .i64 0, .bool false]]]) (by kernel_rfl) (ob_boxn (bn_free rfl (bn_free rfl rfl)) rfl) (by kernel_rfl) ?_
            refine Gh_nil ?_
            refine W_gh ?_
            refine W_reg ?_
            refine O_ps 2 (by kernel_rfl) ?_
            refine O_nil ?_
            refine Gh_end (s1 := ⟨⟨28, [(0, .str a0), (2, .pown 0 1 0 0), (4, .int .i64 s1), (12, .ro (([false, true] : List Bool).map cB)), (13, .int .i64 (2 : Int)), (14, .int .i64 (addI .i64 s4 1))]⟩, [.live .norm 2 [[.int .i64 0, .bool false]]]⟩) _ (by kernel_rfl) ?_
            refine Gh_one (s1 := ⟨⟨28, [(0, .str a0), (2, .pown 0 1 0 0), (4, .int .i64 s1), (12, .ro (([false, true] : List Bool).map cB)), (13, .int .i64 (2 : Int)), (14, .int .i64 (addI .i64 s4 1))]⟩, [.live .norm 2 [[.int .i64 0, .bool false]]]⟩) (by kernel_rfl) ?_
            refine Gh_trunc0 (by kernel_rfl) ?_
            refine Gh_nil ?_
            replace h := Option.some.inj h; subst h
            exact ⟨_, rfl, by kernel_rfl⟩
        · replace h := fork_f c6 h
          refine W_exit ?_
          refine X_hit ?_
          refine Gh_one (s1 := ⟨⟨28, [(0, .str a0), (2, .pown 0 1 0 0), (4, .int .i64 s1)]⟩, [.live .norm 2 [[.int .i64 0, .bool false]]]⟩) (by kernel_rfl) ?_
          refine Gh_trunc0 (by kernel_rfl) ?_
          refine Gh_nil ?_
          replace h := Option.some.inj h; subst h
          exact ⟨_, rfl, by kernel_rfl⟩
      · refine Gh_one (s1 := ⟨⟨28, [(0, .str a0), (2, .pown 0 1 0 0), (4, .int .i64 s1)]⟩, [.live .norm 2 [[.int .i64 0, .bool false]]]⟩) (by kernel_rfl) ?_
        refine Gh_trunc0 (by kernel_rfl) ?_
        refine Gh_nil ?_
        refine W_gh ?_
        refine W_reg ?_
        refine O_ps 3 (by kernel_rfl) ?_
        refine O_nil ?_
        refine Gh_end (s1 := ⟨⟨28, [(0, .str a0), (2, .pown 0 1 0 0), (4, .int .i64 (addI .i64 s1 1))]⟩, [.live .norm 2 [[.int .i64 0, .bool false]]]⟩) _ (by kernel_rfl) ?_
        refine Gh_one (s1 := ⟨⟨28, [(0, .str a0), (2, .pown 0 1 0 0), (4, .int .i64 (addI .i64 s1 1))]⟩, [.live .norm 2 [[.int .i64 0, .bool false]]]⟩) (by kernel_rfl) ?_
        refine Gh_trunc0 (by kernel_rfl) ?_
        refine Gh_nil ?_
        replace h := Option.some.inj h; subst h
        exact ⟨_, rfl, by kernel_rfl⟩
    · replace h := fork_f c3 h
      refine W_exit ?_
      refine X_hit ?_
      refine Gh_one (s1 := ⟨⟨28, [(0, .str a0), (2, .pown 0 1 0 0)]⟩, [.live .norm 2 [[.int .i64 0, .bool false]]]⟩) (by kernel_rfl) ?_
      refine Gh_trunc0 (by kernel_rfl) ?_
      refine Gh_nil ?_
      replace h := Option.some.inj h; subst h
      exact ⟨_, rfl, by kernel_rfl⟩
  · refine W_seq ?_
    refine W_gh ?_
    refine W_reg ?_
    refine O_ps 3 (by kernel_rfl) ?_
    refine O_nil ?_
    refine Gh_end (s1 := ⟨⟨28, [(0, .str a0), (2, .pown 0 1 0 0), (3, .bool false)]⟩, [.live .norm 2 [[.int .i64 0, .bool false]]]⟩) _ (by kernel_rfl) ?_
    refine W_ret ?_
    replace h := Option.some.inj h; subst h
    exact Fin_free (l := [.agg [.int .i64 0, .bool false], .bool false]) (by kernel_rfl) (by kernel_rfl) (bels_cons rfl (bels_cons rfl rfl))

theorem p85 (a0 : (List UInt8)) (r : (Int × Bool)) (h : m85 a0 = some r) : Pt E0 hp 85 [.str a0] (.tup [.int .i64 r.1, .bool r.2]) := by
  unfold m85 at h
  refine Pt_W (fn85) rfl (by decide) ?_
  refine W_seq ?_
  refine W_gh ?_
  refine W_reg ?_
  refine O_ps 2 (by kernel_rfl) ?_
  refine O_nil ?_
  refine Gh_end (s1 := ⟨⟨48, [(0, .str a0)]⟩, []⟩) _ (by kernel_rfl) ?_
  refine W_seq ?_
  refine W_seq ?_
  refine W_joinS (fun v : Bool => ⟨⟨48, [(0, .str a0), (22, .bool v)]⟩, []⟩) h (fun w h => ?_) (fun w1 e_w1 h => ?_)
  · refine W_gh ?_
    refine W_reg ?_
    refine O_ps 3 (by kernel_rfl) ?_
    refine O_fork (n := 8) (a0 == []) (by kernel_rfl) (fun c2 => ?_) (fun c2 => ?_)
    · replace h := fork_t c2 h
      refine O_ps 14 (by kernel_rfl) ?_
      refine O_nil ?_
      refine Gh_end (s1 := ⟨⟨48, [(0, .str a0), (22, .bool true)]⟩, []⟩) _ (by kernel_rfl) ?_
      replace h := Option.some.inj h; subst h
      show _ = _
      kernel_rfl
    · replace h := fork_f c2 h
      refine O_ps 5 (by kernel_rfl) ?_
      refine O_fork (n := 13) (decide ((a0.length : Int) > 7)) (by kernel_rfl) (fun c3 => ?_) (fun c3 => ?_)
      · replace h := fork_t c3 h
        refine O_ps 9 (by kernel_rfl) ?_
        refine O_nil ?_
        refine Gh_end (s1 := ⟨⟨48, [(0, .str a0), (22, .bool true)]⟩, []⟩) _ (by kernel_rfl) ?_
        replace h := Option.some.inj h; subst h
        show _ = _
        kernel_rfl
      · replace h := fork_f c3 h
        refine O_ps 4 (by kernel_rfl) ?_
        refine O_fork (n := 17) (decide ((a0.length : Int) > 1)) (by kernel_rfl) (fun c4 => ?_) (fun c4 => ?_)
        · replace h := fork_t c4 h
          refine O_ps 1 (by kernel_rfl) ?_
          refine O_idxS (kd := .i64) h (by kernel_rfl) (by kernel_rfl) (by kernel_rfl) (fun v5 e_v5 h => ?_)
          refine O_ps 3 (by kernel_rfl) ?_
          refine O_nil ?_
          refine Gh_end (s1 := ⟨⟨48, [(0, .str a0), (22, .bool ((v5.toNat : Int) == 48))]⟩, []⟩) _ (by kernel_rfl) ?_
          replace h := Option.some.inj h; subst h
          show _ = _
          kernel_rfl
        · replace h := fork_f c4 h
          refine O_ps 5 (by kernel_rfl) ?_
          refine O_nil ?_
          refine Gh_end (s1 := ⟨⟨48, [(0, .str a0), (22, .bool false)]⟩, []⟩) _ (by kernel_rfl) ?_
          replace h := Option.some.inj h; subst h
          show _ = _
          kernel_rfl
  · refine W_gh ?_
    refine W_cond (c := w1) (by kernel_rfl) (fun c6 => ?_) (fun c6 => ?_)
    · replace h := fork_t c6 h
      refine W_seq ?_
      refine W_reg ?_
      refine O_ps 2 (by kernel_rfl) ?_
      refine O_nil ?_
      refine W_ret ?_
      replace h := Option.some.inj h; subst h
      exact Fin_free (l := [.int .i64 0, .bool false]) (by kernel_rfl) (by kernel_rfl) rfl
    · replace h := fork_f c6 h
      refine W_skip ?_
      refine Gh_end (s1 := ⟨⟨48, [(0, .str a0)]⟩, []⟩) _ (by kernel_rfl) ?_
      refine W_seq ?_
      refine W_reg ?_
      refine O_ps 1 (by kernel_rfl) ?_
      refine O_nil ?_
      refine W_seq ?_
      refine W_seq ?_
      refine W_reg ?_
      refine O_ps 1 (by kernel_rfl) ?_
      refine O_nil ?_
      refine W_loop (fun s7 : Int × Int => ⟨⟨48, [(0, .str a0), (4, .int .i64 s7.1), (5, .int .i64 s7.2)]⟩, []⟩) (fun w8 : Int => ⟨⟨48, [(0, .str a0), (4, .int .i64 w8)]⟩, []⟩) h (by kernel_rfl) (fun s7 c h => ?_) (fun w8 h => ?_)
      · refine W_gh ?_
        refine W_seq ?_
        refine W_seq ?_
        refine W_gh ?_
        refine W_reg ?_
        refine O_ps 4 (by kernel_rfl) ?_
        refine O_nil ?_
        refine Gh_end (s1 := ⟨⟨48, [(0, .str a0), (4, .int .i64 s7.1), (5, .int .i64 s7.2), (26, .bool (decide (s7.2 < (a0.length : Int))))]⟩, []⟩) _ (by kernel_rfl) ?_
        refine W_gh ?_
        refine W_cond (c := (decide (s7.2 < (a0.length : Int)))) (by kernel_rfl) (fun c9 => ?_) (fun c9 => ?_)
        · replace h := fork_t c9 h
          refine W_skip ?_
          refine Gh_end (s1 := ⟨⟨48, [(0, .str a0), (4, .int .i64 s7.1), (5, .int .i64 s7.2)]⟩, []⟩) _ (by kernel_rfl) ?_
          refine W_seq ?_
          refine W_gh ?_
          refine W_block ?_
          refine W_seq ?_
          refine W_seq ?_
          refine W_joinS (fun v : Bool => ⟨⟨48, [(0, .str a0), (4, .int .i64 s7.1), (5, .int .i64 s7.2), (38, .bool v)]⟩, []⟩) h (fun w h => ?_) (fun w10 e_w10 h => ?_)
          · refine W_gh ?_
            refine W_reg ?_
            refine O_ps 2 (by kernel_rfl) ?_
            refine O_idxS (kd := .i64) h (by kernel_rfl) (by kernel_rfl) (by kernel_rfl) (fun v11 e_v11 h => ?_)
            refine O_ps 2 (by kernel_rfl) ?_
            refine O_fork (n := 33) (decide ((v11.toNat : Int) < 48)) (by kernel_rfl) (fun c12 => ?_) (fun c12 => ?_)
            · replace h := fork_t c12 h
              refine O_ps 5 (by kernel_rfl) ?_
              refine O_nil ?_
              refine Gh_end (s1 := ⟨⟨48, [(0, .str a0), (4, .int .i64 s7.1), (5, .int .i64 s7.2), (38, .bool true)]⟩, []⟩) _ (by kernel_rfl) ?_
              replace h := Option.some.inj h; subst h
              show _ = _
              kernel_rfl
            · replace h := fork_f c12 h
              refine O_ps 2 (by kernel_rfl) ?_
              refine O_idxS (kd := .i64) h (by kernel_rfl) (by kernel_rfl) (by kernel_rfl) (fun v13 e_v13 h => ?_)
              refine O_ps 2 (by kernel_rfl) ?_
              refine O_nil ?_
              refine Gh_end (s1 := ⟨⟨48, [(0, .str a0), (4, .int .i64 s7.1), (5, .int .i64 s7.2), (38, .bool (decide ((v13.toNat : Int) > 57)))]⟩, []⟩) _ (by kernel_rfl) ?_
              replace h := Option.some.inj h; subst h
              show _ = _
              kernel_rfl
          · refine W_gh ?_
            refine W_cond (c := w10) (by kernel_rfl) (fun c14 => ?_) (fun c14 => ?_)
            · replace h := fork_t c14 h
              refine W_seq ?_
              refine W_reg ?_
              refine O_ps 2 (by kernel_rfl) ?_
              refine O_nil ?_
              refine W_ret ?_
              replace h := Option.some.inj h; subst h
              refine ⟨_, rfl, fun h => ?_⟩
              replace h := Option.some.inj h; subst h
              exact Fin_free (l := [.int .i64 0, .bool false]) (by kernel_rfl) (by kernel_rfl) rfl
            · replace h := fork_f c14 h
              refine W_skip ?_
              refine Gh_end (s1 := ⟨⟨48, [(0, .str a0), (4, .int .i64 s7.1), (5, .int .i64 s7.2)]⟩, []⟩) _ (by kernel_rfl) ?_
              refine W_gh ?_
              refine W_reg ?_
              refine O_ps 4 (by kernel_rfl) ?_
              refine O_idxS (kd := .i64) h (by kernel_rfl) (by kernel_rfl) (by kernel_rfl) (fun v15 e_v15 h => ?_)
              refine O_ps 4 (by kernel_rfl) ?_
              refine O_nil ?_
              refine Gh_end (s1 := ⟨⟨48, [(0, .str a0), (4, .int .i64 (addI .i64 (mulI .i64 10 s7.1) (IntKind.wrap .i64 (subI .u8 (v15.toNat : Int) 48)))), (5, .int .i64 s7.2)]⟩, []⟩) _ (by kernel_rfl) ?_
              refine Gh_end (s1 := ⟨⟨48, [(0, .str a0), (4, .int .i64 (addI .i64 (mulI .i64 10 s7.1) (IntKind.wrap .i64 (subI .u8 (v15.toNat : Int) 48)))), (5, .int .i64 s7.2)]⟩, []⟩) _ (by kernel_rfl) ?_
              refine W_gh ?_
              refine W_reg ?_
              refine O_ps 3 (by kernel_rfl) ?_
              refine O_nil ?_
              refine Gh_end (s1 := ⟨⟨48, [(0, .str a0), (4, .int .i64 (addI .i64 (mulI .i64 10 s7.1) (IntKind.wrap .i64 (subI .u8 (v15.toNat : Int) 48)))), (5, .int .i64 (addI .i64 s7.2 1))]⟩, []⟩) _ (by kernel_rfl) ?_
              refine Gh_end (s1 := ⟨⟨48, [(0, .str a0), (4, .int .i64 (addI .i64 (mulI .i64 10 s7.1) (IntKind.wrap .i64 (subI .u8 (v15.toNat : Int) 48)))), (5, .int .i64 (addI .i64 s7.2 1))]⟩, []⟩) _ (by kernel_rfl) ?_
              replace h := Option.some.inj h; subst h
              exact ⟨_, rfl, by kernel_rfl⟩
        · replace h := fork_f c9 h
          refine W_exit ?_
          refine X_hit ?_
          refine Gh_end (s1 := ⟨⟨48, [(0, .str a0), (4, .int .i64 s7.1)]⟩, []⟩) _ (by kernel_rfl) ?_
          replace h := Option.some.inj h; subst h
          exact ⟨_, rfl, by kernel_rfl⟩
      · refine W_seq ?_
        refine W_gh ?_
        refine W_reg ?_
        refine O_ps 3 (by kernel_rfl) ?_
        refine O_nil ?_
        refine Gh_end (s1 := ⟨⟨48, [(0, .str a0), (2, .int .i64 w8), (3, .bool true)]⟩, []⟩) _ (by kernel_rfl) ?_
        refine W_ret ?_
        replace h := Option.some.inj h; subst h
        exact Fin_free (l := [.int .i64 w8, .bool true]) (by kernel_rfl) (by kernel_rfl) rfl

theorem p82 (a0 : Int) (r : Bool) (h : m82 a0 = some r) : Pt E0 hp 82 [.int .i64 a0] (.bool r) := by
  unfold m82 at h
  refine Pt_W (fn82) rfl (by decide) ?_
  refine W_seq ?_
  refine W_gh ?_
  refine W_reg ?_
  refine O_ps 1 (by kernel_rfl) ?_
  refine O_nil ?_
  refine Gh_end (s1 := ⟨⟨9, [(0, .int .i64 a0)]⟩, []⟩) _ (by kernel_rfl) ?_
  refine W_seq ?_
  refine W_cut ⟨⟨9, [(2, .bool ((decide (a0 ≥ 0)) && (decide (a0 < 6))))]⟩, []⟩ ?_ ?_
  · generalize e_g1 : ((decide (a0 ≥ 0)) && (decide (a0 < 6))) = g1
    refine W_gh ?_
    refine W_reg ?_
    refine O_ps 3 (by kernel_rfl) ?_
    refine O_fork (n := 5) (decide (a0 ≥ 0)) (by kernel_rfl) (fun c2 => ?_) (fun c2 => ?_)
    · skip
      refine O_ps 4 (by kernel_rfl) ?_
      refine O_nil ?_
      refine Gh_end (s1 := ⟨⟨9, [(2, .bool (decide (a0 < 6)))]⟩, []⟩) _ (by kernel_rfl) ?_
      have q := e_g1; simp only [c2, cond_true, cond_false, Bool.true_and, Bool.false_and, Bool.true_or, Bool.false_or] at q; subst q
      show _ = _
      kernel_rfl
    · skip
      refine O_ps 4 (by kernel_rfl) ?_
      refine O_nil ?_
      refine Gh_end (s1 := ⟨⟨9, [(2, .bool false)]⟩, []⟩) _ (by kernel_rfl) ?_
      have q := e_g1; simp only [c2, cond_true, cond_false, Bool.true_and, Bool.false_and, Bool.true_or, Bool.false_or] at q; subst q
      show _ = _
      kernel_rfl
  · refine W_ret ?_
    replace h := Option.some.inj h; subst h
    exact Fin_free (l := [.bool ((decide (a0 ≥ 0)) && (decide (a0 < 6)))]) (by kernel_rfl) (by kernel_rfl) rfl

theorem p83 (a0 : Int) (r : Bool) (h : m83 a0 = some r) : Pt E0 hp 83 [.int .i64 a0] (.bool r) := by
  unfold m83 at h
  refine Pt_W (fn83) rfl (by decide) ?_
  refine W_seq ?_
  refine W_gh ?_
  refine W_reg ?_
  refine O_ps 1 (by kernel_rfl) ?_
  refine O_nil ?_
  refine Gh_end (s1 := ⟨⟨9, [(0, .int .i64 a0)]⟩, []⟩) _ (by kernel_rfl) ?_
  refine W_seq ?_
  refine W_cut ⟨⟨9, [(2, .bool ((decide (a0 ≥ 0)) && (decide (a0 ≤ 1000000))))]⟩, []⟩ ?_ ?_
  · generalize e_g1 : ((decide (a0 ≥ 0)) && (decide (a0 ≤ 1000000))) = g1
    refine W_gh ?_
    refine W_reg ?_
    refine O_ps 3 (by kernel_rfl) ?_
    refine O_fork (n := 5) (decide (a0 ≥ 0)) (by kernel_rfl) (fun c2 => ?_) (fun c2 => ?_)
    · skip
      refine O_ps 4 (by kernel_rfl) ?_
      refine O_nil ?_
      refine Gh_end (s1 := ⟨⟨9, [(2, .bool (decide (a0 ≤ 1000000)))]⟩, []⟩) _ (by kernel_rfl) ?_
      have q := e_g1; simp only [c2, cond_true, cond_false, Bool.true_and, Bool.false_and, Bool.true_or, Bool.false_or] at q; subst q
      show _ = _
      kernel_rfl
    · skip
      refine O_ps 4 (by kernel_rfl) ?_
      refine O_nil ?_
      refine Gh_end (s1 := ⟨⟨9, [(2, .bool false)]⟩, []⟩) _ (by kernel_rfl) ?_
      have q := e_g1; simp only [c2, cond_true, cond_false, Bool.true_and, Bool.false_and, Bool.true_or, Bool.false_or] at q; subst q
      show _ = _
      kernel_rfl
  · refine W_ret ?_
    replace h := Option.some.inj h; subst h
    exact Fin_free (l := [.bool ((decide (a0 ≥ 0)) && (decide (a0 ≤ 1000000)))]) (by kernel_rfl) (by kernel_rfl) rfl

theorem p75 (a0 : SStep) (r : Int) (h : m75 a0 = some r) : Pt E0 hp 75 [.agg (cSStep a0)] (.int .i64 r) := by
  unfold m75 at h
  refine Pt_W (fn75) rfl (by decide) ?_
  refine W_seq ?_
  refine W_gh ?_
  refine W_reg ?_
  refine O_ps 2 (by kernel_rfl) ?_
  refine O_nil ?_
  refine Gh_end (s1 := ⟨⟨67, [(1, .pown 0 1 0 0)]⟩, [.live .norm 2 [[.ro (a0.Strokes.map cSStroke), .int .i64 a0.Wait]]]⟩) _ (by kernel_rfl) ?_
  refine W_seq ?_
  refine W_seq ?_
  refine W_gh ?_
  refine W_reg ?_
  refine O_ps 2 (by kernel_rfl) ?_
  refine O_len (l := a0.Strokes) cSStroke (by kernel_rfl) (by kernel_rfl) ?_
  refine O_ps 1 (by kernel_rfl) ?_
  refine O_nil ?_
  refine Gh_end (s1 := ⟨⟨67, [(1, .pown 0 1 0 0), (7, .bool ((a0.Strokes.length : Int) == 0))]⟩, [.live .norm 2 [[.ro (a0.Strokes.map cSStroke), .int .i64 a0.Wait]]]⟩) _ (by kernel_rfl) ?_
  refine W_gh ?_
  refine W_cond (c := ((a0.Strokes.length : Int) == 0)) (by kernel_rfl) (fun c1 => ?_) (fun c1 => ?_)
  · replace h := fork_t c1 h
    refine W_seq ?_
    refine W_reg ?_
    refine O_ps 1 (by kernel_rfl) ?_
    refine O_nil ?_
    refine W_ret ?_
    replace h := Option.some.inj h; subst h
    exact Fin_free (l := [.int .i64 13]) (by kernel_rfl) (by kernel_rfl) rfl
  · replace h := fork_f c1 h
    refine W_skip ?_
    refine Gh_end (s1 := ⟨⟨67, [(1, .pown 0 1 0 0)]⟩, [.live .norm 2 [[.ro (a0.Strokes.map cSStroke), .int .i64 a0.Wait]]]⟩) _ (by kernel_rfl) ?_
    refine W_seq ?_
    refine W_seq ?_
    refine W_gh ?_
    refine W_reg ?_
    refine O_ps 2 (by kernel_rfl) ?_
    refine O_len (l := a0.Strokes) cSStroke (by kernel_rfl) (by kernel_rfl) ?_
    refine O_ps 1 (by kernel_rfl) ?_
    refine O_nil ?_
    refine Gh_end (s1 := ⟨⟨67, [(1, .pown 0 1 0 0), (11, .bool (decide ((a0.Strokes.length : Int) > 6)))]⟩, [.live .norm 2 [[.ro (a0.Strokes.map cSStroke), .int .i64 a0.Wait]]]⟩) _ (by kernel_rfl) ?_
    refine W_gh ?_
    refine W_cond (c := (decide ((a0.Strokes.length : Int) > 6))) (by kernel_rfl) (fun c2 => ?_) (fun c2 => ?_)
    · replace h := fork_t c2 h
      refine W_seq ?_
      refine W_reg ?_
      refine O_ps 1 (by kernel_rfl) ?_
      refine O_nil ?_
      refine W_ret ?_
      replace h := Option.some.inj h; subst h
      exact Fin_free (l := [.int .i64 5]) (by kernel_rfl) (by kernel_rfl) rfl
    · replace h := fork_f c2 h
      refine W_skip ?_
      refine Gh_end (s1 := ⟨⟨67, [(1, .pown 0 1 0 0)]⟩, [.live .norm 2 [[.ro (a0.Strokes.map cSStroke), .int .i64 a0.Wait]]]⟩) _ (by kernel_rfl) ?_
      refine W_seq ?_
      refine W_seq ?_
      refine W_reg ?_
      refine O_ps 1 (by kernel_rfl) ?_
      refine O_nil ?_
      refine W_loop (fun s3 : Int => ⟨⟨67, [(1, .pown 0 1 0 0), (3, .int .i64 s3)]⟩, [.live .norm 2 [[.ro (a0.Strokes.map cSStroke), .int .i64 a0.Wait]]]⟩) (fun w4 : Unit => ⟨⟨67, [(1, .pown 0 1 0 0)]⟩, [.live .norm 2 [[.ro (a0.Strokes.map cSStroke), .int .i64 a0.Wait]]]⟩) h (by kernel_rfl) (fun s3 c h => ?_) (fun w4 h => ?_)
      · refine W_gh ?_
        refine W_seq ?_
        refine W_seq ?_
        refine W_gh ?_
        refine W_reg ?_
        refine O_ps 3 (by kernel_rfl) ?_
        refine O_len (l := a0.Strokes) cSStroke (by kernel_rfl) (by kernel_rfl) ?_
        refine O_ps 1 (by kernel_rfl) ?_
        refine O_nil ?_
        refine Gh_end (s1 := ⟨⟨67, [(1, .pown 0 1 0 0), (3, .int .i64 s3), (16, .bool (decide (s3 < (a0.Strokes.length : Int))))]⟩, [.live .norm 2 [[.ro (a0.Strokes.map cSStroke), .int .i64 a0.Wait]]]⟩) _ (by kernel_rfl) ?_
        refine W_gh ?_
        refine W_cond (c := (decide (s3 < (a0.Strokes.length : Int)))) (by kernel_rfl) (fun c5 => ?_) (fun c5 => ?_)
        · replace h := fork_t c5 h
          refine W_skip ?_
          refine Gh_end (s1 := ⟨⟨67, [(1, .pown 0 1 0 0), (3, .int .i64 s3)]⟩, [.live .norm 2 [[.ro (a0.Strokes.map cSStroke), .int .i64 a0.Wait]]]⟩) _ (by kernel_rfl) ?_
          refine W_seq ?_
          refine W_gh ?_
          refine W_block ?_
          refine W_seq ?_
          refine W_seq ?_
          refine W_gh ?_
          refine W_reg ?_
          refine O_ps 3 (by kernel_rfl) ?_
          refine O_idx (kd := .i64) cSStroke h (fun _ => rfl) (by kernel_rfl) (by kernel_rfl) (by kernel_rfl) (fun v6 e_v6 h => ?_)
          refine O_ps 2 (by kernel_rfl) ?_
          refine O_call (fun v => .bool v) h (.inr rfl) (ys := [.int .i64 v6.Actuator]) (fun _ e => p82 _ _ e) (by kernel_rfl) (by kernel_rfl) (bels_cons rfl rfl) (fun v7 e_v7 h => ?_)
          refine O_ps 1 (by kernel_rfl) ?_
          refine O_nil ?_
          refine Gh_end (s1 := ⟨⟨67, [(1, .pown 0 1 0 0), (3, .int .i64 s3), (26, .bool (!v7))]⟩, [.live .norm 2 [[.ro (a0.Strokes.map cSStroke), .int .i64 a0.Wait]]]⟩) _ (by kernel_rfl) ?_
          refine W_gh ?_
          refine W_cond (c := (!v7)) (by kernel_rfl) (fun c8 => ?_) (fun c8 => ?_)
          · replace h := fork_t c8 h
            refine W_seq ?_
            refine W_reg ?_
            refine O_ps 1 (by kernel_rfl) ?_
            refine O_nil ?_
            refine W_ret ?_
            replace h := Option.some.inj h; subst h
            refine ⟨_, rfl, fun h => ?_⟩
            replace h := Option.some.inj h; subst h
            exact Fin_free (l := [.int .i64 2]) (by kernel_rfl) (by kernel_rfl) rfl
          · replace h := fork_f c8 h
            refine W_skip ?_
            refine Gh_end (s1 := ⟨⟨67, [(1, .pown 0 1 0 0), (3, .int .i64 s3)]⟩, [.live .norm 2 [[.ro (a0.Strokes.map cSStroke), .int .i64 a0.Wait]]]⟩) _ (by kernel_rfl) ?_
            refine W_seq ?_
            refine W_seq ?_
            refine W_joinS (fun v : Bool => ⟨⟨67, [(1, .pown 0 1 0 0), (3, .int .i64 s3), (44, .bool v)]⟩, [.live .norm 2 [[.ro (a0.Strokes.map cSStroke), .int .i64 a0.Wait]]]⟩) h (fun w h => ?_) (fun w9 e_w9 h => ?_)
            · refine W_gh ?_
              refine W_draw ?_
              refine O_ps 3 (by kernel_rfl) ?_
              refine O_fork (n := 29) (decide (s3 > 0)) (by kernel_rfl) (fun c10 => ?_) (fun c10 => ?_)
              · replace h := fork_t c10 h
                refine O_ps 3 (by kernel_rfl) ?_
                refine O_idx (kd := .i64) cSStroke h (fun _ => rfl) (by kernel_rfl) (by kernel_rfl) (by kernel_rfl) (fun v11 e_v11 h => ?_)
                refine O_ps 6 (by kernel_rfl) ?_
                refine O_idx (kd := .i64) cSStroke h (fun _ => rfl) (by kernel_rfl) (by kernel_rfl) (by kernel_rfl) (fun v12 e_v12 h => ?_)
                refine O_ps 4 (by kernel_rfl) ?_
                refine O_nil ?_
                refine Gh_end (s1 := ⟨⟨67, [(1, .pown 0 1 0 0), (3, .int .i64 s3), (44, .bool (v11.Actuator == v12.Actuator))]⟩, [.live .norm 2 [[.ro (a0.Strokes.map cSStroke), .int .i64 a0.Wait]]]⟩) _ (by kernel_rfl) ?_
                replace h := Option.some.inj h; subst h
                show _ = _
                kernel_rfl
              · replace h := fork_f c10 h
                refine O_ps 15 (by kernel_rfl) ?_
                refine O_nil ?_
                refine Gh_end (s1 := ⟨⟨67, [(1, .pown 0 1 0 0), (3, .int .i64 s3), (44, .bool false)]⟩, [.live .norm 2 [[.ro (a0.Strokes.map cSStroke), .int .i64 a0.Wait]]]⟩) _ (by kernel_rfl) ?_
                replace h := Option.some.inj h; subst h
                show _ = _
                kernel_rfl
            · refine W_gh ?_
              refine W_cond (c := w9) (by kernel_rfl) (fun c13 => ?_) (fun c13 => ?_)
              · replace h := fork_t c13 h
                refine W_seq ?_
                refine W_reg ?_
                refine O_ps 1 (by kernel_rfl) ?_
                refine O_nil ?_
                refine W_ret ?_
                replace h := Option.some.inj h; subst h
                refine ⟨_, rfl, fun h => ?_⟩
                replace h := Option.some.inj h; subst h
                exact Fin_free (l := [.int .i64 7]) (by kernel_rfl) (by kernel_rfl) rfl
              · replace h := fork_f c13 h
                refine W_skip ?_
                refine Gh_end (s1 := ⟨⟨67, [(1, .pown 0 1 0 0), (3, .int .i64 s3)]⟩, [.live .norm 2 [[.ro (a0.Strokes.map cSStroke), .int .i64 a0.Wait]]]⟩) _ (by kernel_rfl) ?_
                refine W_seq ?_
                refine W_joinS (fun v : Bool => ⟨⟨67, [(1, .pown 0 1 0 0), (3, .int .i64 s3), (62, .bool v)]⟩, [.live .norm 2 [[.ro (a0.Strokes.map cSStroke), .int .i64 a0.Wait]]]⟩) h (fun w h => ?_) (fun w14 e_w14 h => ?_)
                · refine W_gh ?_
                  refine W_draw ?_
                  refine O_ps 3 (by kernel_rfl) ?_
                  refine O_fork (n := 47) (decide (s3 > 0)) (by kernel_rfl) (fun c15 => ?_) (fun c15 => ?_)
                  · replace h := fork_t c15 h
                    refine O_ps 3 (by kernel_rfl) ?_
                    refine O_idx (kd := .i64) cSStroke h (fun _ => rfl) (by kernel_rfl) (by kernel_rfl) (by kernel_rfl) (fun v16 e_v16 h => ?_)
                    refine O_ps 6 (by kernel_rfl) ?_
                    refine O_idx (kd := .i64) cSStroke h (fun _ => rfl) (by kernel_rfl) (by kernel_rfl) (by kernel_rfl) (fun v17 e_v17 h => ?_)
                    refine O_ps 4 (by kernel_rfl) ?_
                    refine O_nil ?_
                    refine Gh_end (s1 := ⟨⟨67, [(1, .pown 0 1 0 0), (3, .int .i64 s3), (62, .bool (decide (v16.Actuator < v17.Actuator)))]⟩, [.live .norm 2 [[.ro (a0.Strokes.map cSStroke), .int .i64 a0.Wait]]]⟩) _ (by kernel_rfl) ?_
                    replace h := Option.some.inj h; subst h
                    show _ = _
                    kernel_rfl
                  · replace h := fork_f c15 h
                    refine O_ps 15 (by kernel_rfl) ?_
                    refine O_nil ?_
                    refine Gh_end (s1 := ⟨⟨67, [(1, .pown 0 1 0 0), (3, .int .i64 s3), (62, .bool false)]⟩, [.live .norm 2 [[.ro (a0.Strokes.map cSStroke), .int .i64 a0.Wait]]]⟩) _ (by kernel_rfl) ?_
                    replace h := Option.some.inj h; subst h
                    show _ = _
                    kernel_rfl
                · refine W_gh ?_
                  refine W_cond (c := w14) (by kernel_rfl) (fun c18 => ?_) (fun c18 => ?_)
                  · replace h := fork_t c18 h
                    refine W_seq ?_
                    refine W_reg ?_
                    refine O_ps 1 (by kernel_rfl) ?_
                    refine O_nil ?_
                    refine W_ret ?_
                    replace h := Option.some.inj h; subst h
                    refine ⟨_, rfl, fun h => ?_⟩
                    replace h := Option.some.inj h; subst h
                    exact Fin_free (l := [.int .i64 9]) (by kernel_rfl) (by kernel_rfl) rfl
                  · replace h := fork_f c18 h
                    refine W_skip ?_
                    refine Gh_end (s1 := ⟨⟨67, [(1, .pown 0 1 0 0), (3, .int .i64 s3)]⟩, [.live .norm 2 [[.ro (a0.Strokes.map cSStroke), .int .i64 a0.Wait]]]⟩) _ (by kernel_rfl) ?_
                    refine Gh_end (s1 := ⟨⟨67, [(1, .pown 0 1 0 0), (3, .int .i64 s3)]⟩, [.live .norm 2 [[.ro (a0.Strokes.map cSStroke), .int .i64 a0.Wait]]]⟩) _ (by kernel_rfl) ?_
                    refine W_gh ?_
                    refine W_reg ?_
                    refine O_ps 3 (by kernel_rfl) ?_
                    refine O_nil ?_
                    refine Gh_end (s1 := ⟨⟨67, [(1, .pown 0 1 0 0), (3, .int .i64 (addI .i64 s3 1))]⟩, [.live .norm 2 [[.ro (a0.Strokes.map cSStroke), .int .i64 a0.Wait]]]⟩) _ (by kernel_rfl) ?_
                    refine Gh_end (s1 := ⟨⟨67, [(1, .pown 0 1 0 0), (3, .int .i64 (addI .i64 s3 1))]⟩, [.live .norm 2 [[.ro (a0.Strokes.map cSStroke), .int .i64 a0.Wait]]]⟩) _ (by kernel_rfl) ?_
                    replace h := Option.some.inj h; subst h
                    exact ⟨_, rfl, by kernel_rfl⟩
        · replace h := fork_f c5 h
          refine W_exit ?_
          refine X_hit ?_
          refine Gh_end (s1 := ⟨⟨67, [(1, .pown 0 1 0 0)]⟩, [.live .norm 2 [[.ro (a0.Strokes.map cSStroke), .int .i64 a0.Wait]]]⟩) _ (by kernel_rfl) ?_
          replace h := Option.some.inj h; subst h
          exact ⟨_, rfl, by kernel_rfl⟩
      · refine W_seq ?_
        refine W_seq ?_
        refine W_gh ?_
        refine W_reg ?_
        refine O_ps 2 (by kernel_rfl) ?_
        refine O_call (fun v => .bool v) h (.inr rfl) (ys := [.int .i64 a0.Wait]) (fun _ e => p83 _ _ e) (by kernel_rfl) (by kernel_rfl) (bels_cons rfl rfl) (fun v19 e_v19 h => ?_)
        refine O_ps 1 (by kernel_rfl) ?_
        refine O_nil ?_
        refine Gh_end (s1 := ⟨⟨67, [(66, .bool (!v19))]⟩, [.live .norm 2 [[.ro (a0.Strokes.map cSStroke), .int .i64 a0.Wait]]]⟩) _ (by kernel_rfl) ?_
        refine W_gh ?_
        refine W_cond (c := (!v19)) (by kernel_rfl) (fun c20 => ?_) (fun c20 => ?_)
        · replace h := fork_t c20 h
          refine W_seq ?_
          refine W_reg ?_
          refine O_ps 1 (by kernel_rfl) ?_
          refine O_nil ?_
          refine W_ret ?_
          replace h := Option.some.inj h; subst h
          exact Fin_free (l := [.int .i64 2]) (by kernel_rfl) (by kernel_rfl) rfl
        · replace h := fork_f c20 h
          refine W_skip ?_
          refine Gh_end (s1 := ⟨⟨67, []⟩, [.live .norm 2 [[.ro (a0.Strokes.map cSStroke), .int .i64 a0.Wait]]]⟩) _ (by kernel_rfl) ?_
          refine W_seq ?_
          refine W_reg ?_
          refine O_ps 1 (by kernel_rfl) ?_
          refine O_nil ?_
          refine W_ret ?_
          replace h := Option.some.inj h; subst h
          exact Fin_free (l := [.int .i64 0]) (by kernel_rfl) (by kernel_rfl) rfl

theorem p80 (a0 : (List UInt8)) (r : (SStep × Int)) (h : m80 a0 = some r) : Pt E0 hp 80 [.str a0] (.tup [.agg [.ro (r.1.Strokes.map cSStroke), .int .i64 r.1.Wait], .int .i64 r.2]) := by
  unfold m80 at h
  refine Pt_W (fn80) rfl (by decide) ?_
  refine W_seq ?_
  refine W_gh ?_
  refine W_reg ?_
  refine O_ps 2 (by kernel_rfl) ?_
  refine O_nil ?_
  refine Gh_end (s1 := ⟨⟨75, [(0, .str a0), (2, .pown 0 1 0 0)]⟩, [.live .norm 2 [[.ro (([] : List SStroke).map cSStroke), .int .i64 0]]]⟩) _ (by kernel_rfl) ?_
  refine W_seq ?_
  refine W_gh ?_
  refine W_reg ?_
  refine O_ps 1 (by kernel_rfl) ?_
  refine O_nil ?_
  refine Gh_end (s1 := ⟨⟨75, [(0, .str a0), (2, .pown 0 1 0 0), (4, .pown 1 1 0 0)]⟩, [.live .norm 2 [[.ro (([] : List SStroke).map cSStroke), .int .i64 0]], .live .norm 2 [[.own 2 0 0 0, .int .i64 0]], .live .nil 2 (([] : List SStroke).map cSStroke)]⟩) _ (by kernel_rfl) ?_
  refine W_seq ?_
  refine W_gh ?_
  refine W_reg ?_
  refine O_ps 1 (by kernel_rfl) ?_
  refine O_call (fun v => .ro (v.map cS)) h (.inr rfl) (ys := [.str a0, .str [32]]) (fun _ e => p79 _ _ _ e) (by kernel_rfl) (by kernel_rfl) (bels_cons rfl (bels_cons rfl rfl)) (fun v1 e_v1 h => ?_)
  refine O_ps 1 (by kernel_rfl) ?_
  refine O_nil ?_
  refine Gh_end (s1 := ⟨⟨75, [(2, .pown 0 1 0 0), (4, .pown 1 1 0 0), (5, .ro (v1.map cS))]⟩, [.live .norm 2 [[.ro (([] : List SStroke).map cSStroke), .int .i64 0]], .live .norm 2 [[.own 2 0 0 0, .int .i64 0]], .live .nil 2 (([] : List SStroke).map cSStroke)]⟩) _ (by kernel_rfl) ?_
  refine W_seq ?_
  refine W_seq ?_
  refine W_reg ?_
  refine O_ps 1 (by kernel_rfl) ?_
  refine O_nil ?_
  refine W_loop (fun s2 : Int × (List SStroke) × Int => ⟨⟨75, [(2, .pown 0 1 0 0), (4, .pown 1 1 0 0), (5, .ro (v1.map cS)), (6, .int .i64 s2.2.2)]⟩, [.live .norm 2 [[.ro (([] : List SStroke).map cSStroke), .int .i64 0]], .live .norm 2 [[.own 2 s2.2.1.length 0 s2.2.1.length, .int .i64 s2.1]], .live .nil 2 (s2.2.1.map cSStroke)]⟩) (fun w3 : Int × (List SStroke) => ⟨⟨75, [(2, .pown 0 1 0 0), (4, .pown 1 1 0 0)]⟩, [.live .norm 2 [[.ro (([] : List SStroke).map cSStroke), .int .i64 0]], .live .norm 2 [[.own 2 w3.2.length 0 w3.2.length, .int .i64 w3.1]], .live .nil 2 (w3.2.map cSStroke)]⟩) h (by kernel_rfl) (fun s2 c h => ?_) (fun w3 h => ?_)
  · refine W_gh ?_
    refine W_seq ?_
    refine W_seq ?_
    refine W_gh ?_
    refine W_reg ?_
    refine O_ps 2 (by kernel_rfl) ?_
    refine O_len (l := v1) cS (by kernel_rfl) (by kernel_rfl) ?_
    refine O_ps 1 (by kernel_rfl) ?_
    refine O_nil ?_
    refine Gh_end (s1 := ⟨⟨75, [(2, .pown 0 1 0 0), (4, .pown 1 1 0 0), (5, .ro (v1.map cS)), (6, .int .i64 s2.2.2), (17, .bool (decide (s2.2.2 < (v1.length : Int))))]⟩, [.live .norm 2 [[.ro (([] : List SStroke).map cSStroke), .int .i64 0]], .live .norm 2 [[.own 2 s2.2.1.length 0 s2.2.1.length, .int .i64 s2.1]], .live .nil 2 (s2.2.1.map cSStroke)]⟩) _ (by kernel_rfl) ?_
    refine W_gh ?_
    refine W_cond (c := (decide (s2.2.2 < (v1.length : Int)))) (by kernel_rfl) (fun c4 => ?_) (fun c4 => ?_)
    · replace h := fork_t c4 h
      refine W_skip ?_
      refine Gh_end (s1 := ⟨⟨75, [(2, .pown 0 1 0 0), (4, .pown 1 1 0 0), (5, .ro (v1.map cS)), (6, .int .i64 s2.2.2)]⟩, [.live .norm 2 [[.ro (([] : List SStroke).map cSStroke), .int .i64 0]], .live .norm 2 [[.own 2 s2.2.1.length 0 s2.2.1.length, .int .i64 s2.1]], .live .nil 2 (s2.2.1.map cSStroke)]⟩) _ (by kernel_rfl) ?_
      refine W_seq ?_
      refine W_join (fun v : Int × (List SStroke) => ⟨⟨75, [(2, .pown 0 1 0 0), (4, .pown 1 1 0 0), (5, .ro (v1.map cS)), (6, .int .i64 s2.2.2)]⟩, [.live .norm 2 [[.ro (([] : List SStroke).map cSStroke), .int .i64 0]], .live .norm 2 [[.own 2 v.2.length 0 v.2.length, .int .i64 v.1]], .live .nil 2 (v.2.map cSStroke)]⟩) h (fun w h h0 => ?_) (fun w5 h => ?_)
      · refine W_gh ?_
        refine W_block ?_
        refine W_seq ?_
        refine W_seq ?_
        refine W_gh ?_
        refine W_reg ?_
        refine O_ps 2 (by kernel_rfl) ?_
        refine O_idx (kd := .i64) cS h (fun _ => rfl) (by kernel_rfl) (by kernel_rfl) (by kernel_rfl) (fun v6 e_v6 h => ?_)
        refine O_ps 1 (by kernel_rfl) ?_
        refine O_call (fun v => .tup [.agg [.int .i64 v.1.Actuator, .bool v.1.Out], .bool v.2]) h (.inr rfl) (ys := [.str v6]) (fun _ e => p84 _ _ e) (by kernel_rfl) (by kernel_rfl) (bels_cons rfl rfl) (fun v7 e_v7 h => ?_)
        refine O_ps 6 (by kernel_rfl) ?_
        refine O_nil ?_
        refine Gh_end (s1 := ⟨⟨75, [(2, .pown 0 1 0 0), (4, .pown 1 1 0 0), (5, .ro (v1.map cS)), (6, .int .i64 s2.2.2), (7, .pown 3 1 0 0), (8, .bool v7.2)]⟩, [.live .norm 2 [[.ro (([] : List SStroke).map cSStroke), .int .i64 0]], .live .norm 2 [[.own 2 s2.2.1.length 0 s2.2.1.length, .int .i64 s2.1]], .live .nil 2 (s2.2.1.map cSStroke), .live .norm 2 [[.int .i64 v7.1.Actuator, .bool v7.1.Out]]]⟩) _ (by kernel_rfl) ?_
        refine W_seq ?_
        refine W_cut ⟨⟨75, [(2, .pown 0 1 0 0), (4, .pown 1 1 0 0), (5, .ro (v1.map cS)), (6, .int .i64 s2.2.2), (7, .pown 3 1 0 0), (33, .bool (v7.2 && (s2.1 == 0)))]⟩, [.live .norm 2 [[.ro (([] : List SStroke).map cSStroke), .int .i64 0]], .live .norm 2 [[.own 2 s2.2.1.length 0 s2.2.1.length, .int .i64 s2.1]], .live .nil 2 (s2.2.1.map cSStroke), .live .norm 2 [[.int .i64 v7.1.Actuator, .bool v7.1.Out]]]⟩ ?_ ?_
        · generalize e_g8 : (v7.2 && (s2.1 == 0)) = g8
          refine W_gh ?_
          refine W_reg ?_
          refine O_ps 2 (by kernel_rfl) ?_
          refine O_fork (n := 29) v7.2 (by kernel_rfl) (fun c9 => ?_) (fun c9 => ?_)
          · skip
            refine O_ps 4 (by kernel_rfl) ?_
            refine O_nil ?_
            refine Gh_end (s1 := ⟨⟨75, [(2, .pown 0 1 0 0), (4, .pown 1 1 0 0), (5, .ro (v1.map cS)), (6, .int .i64 s2.2.2), (7, .pown 3 1 0 0), (33, .bool (s2.1 == 0))]⟩, [.live .norm 2 [[.ro (([] : List SStroke).map cSStroke), .int .i64 0]], .live .norm 2 [[.own 2 s2.2.1.length 0 s2.2.1.length, .int .i64 s2.1]], .live .nil 2 (s2.2.1.map cSStroke), .live .norm 2 [[.int .i64 v7.1.Actuator, .bool v7.1.Out]]]⟩) _ (by kernel_rfl) ?_
            have q := e_g8; simp only [c4, c9, cond_true, cond_false, Bool.true_and, Bool.false_and, Bool.true_or, Bool.false_or] at q; subst q
            show _ = _
            kernel_rfl
          · skip
            refine O_ps 4 (by kernel_rfl) ?_
            refine O_nil ?_
            refine Gh_end (s1 := ⟨⟨75, [(2, .pown 0 1 0 0), (4, .pown 1 1 0 0), (5, .ro (v1.map cS)), (6, .int .i64 s2.2.2), (7, .pown 3 1 0 0), (33, .bool false)]⟩, [.live .norm 2 [[.ro (([] : List SStroke).map cSStroke), .int .i64 0]], .live .norm 2 [[.own 2 s2.2.1.length 0 s2.2.1.length, .int .i64 s2.1]], .live .nil 2 (s2.2.1.map cSStroke), .live .norm 2 [[.int .i64 v7.1.Actuator, .bool v7.1.Out]]]⟩) _ (by kernel_rfl) ?_
            have q := e_g8; simp only [c4, c9, cond_true, cond_false, Bool.true_and, Bool.false_and, Bool.true_or, Bool.false_or] at q; subst q
            show _ = _
            kernel_rfl
        · refine W_gh ?_
          refine W_cond (c := (v7.2 && (s2.1 == 0))) (by kernel_rfl) (fun c10 => ?_) (fun c10 => ?_)
          · replace h := fork_t c10 h
            refine W_seq ?_
            refine W_gh ?_
            refine W_reg ?_
            refine O_ps 4 (by kernel_rfl) ?_
            refine O_app (C := cSStroke) (id := 2) (nl := .nil) okSStroke h rfl (by kernel_rfl) (by kernel_rfl) (by kernel_rfl) (by kernel_rfl) rfl (fun l11 e_l11 h => ?_)
            refine O_ps 2 (by kernel_rfl) ?_
            refine O_nil ?_
            refine Gh_one (s1 := ⟨⟨75, [(2, .pown 0 1 0 0), (4, .pown 1 1 0 0), (5, .ro (v1.map cS)), (6, .int .i64 s2.2.2), (33, .bool (v7.2 && (s2.1 == 0)))]⟩, [.live .norm 2 [[.ro (([] : List SStroke).map cSStroke), .int .i64 0]], .live .norm 2 [[.own 2 l11.length 0 l11.length, .int .i64 s2.1]], .live .nil 2 (l11.map cSStroke), .live .norm 2 [[.int .i64 v7.1.Actuator, .bool v7.1.Out]], .live .norm 2 (([v7.1] : List SStroke).map cSStroke)]⟩) (by kernel_rfl) ?_
            refine Gh_at (s1 := ⟨⟨75, [(2, .pown 0 1 0 0), (4, .pown 1 1 0 0), (5, .ro (v1.map cS)), (6, .int .i64 s2.2.2), (33, .bool (v7.2 && (s2.1 == 0)))]⟩, [.live .norm 2 [[.ro (([] : List SStroke).map cSStroke), .int .i64 0]], .live .norm 2 [[.own 2 l11.length 0 l11.length, .int .i64 s2.1]], .live .nil 2 (l11.map cSStroke), .live .norm 2 [[.int .i64 v7.1.Actuator, .bool v7.1.Out]], .live .norm 2 (([v7.1] : List SStroke).map cSStroke)]⟩) (by kernel_rfl) ?_
            refine Gh_trunc (s1 := ⟨⟨75, [(2, .pown 0 1 0 0), (4, .pown 1 1 0 0), (5, .ro (v1.map cS)), (6, .int .i64 s2.2.2), (33, .bool (v7.2 && (s2.1 == 0)))]⟩, [.live .norm 2 [[.ro (([] : List SStroke).map cSStroke), .int .i64 0]], .live .norm 2 [[.own 2 l11.length 0 l11.length, .int .i64 s2.1]], .live .nil 2 (l11.map cSStroke), .live .norm 2 [[.int .i64 v7.1.Actuator, .bool v7.1.Out]]]⟩) (by kernel_rfl) (tb_ref rfl (tb_ref rfl (tb_free (ro_bel okStr.bel _) (tb_free rfl (tb_free rfl rfl))))) (H1 := [.live .norm 2 [[.ro (([] : List SStroke).map cSStroke), .int .i64 0]], .live .norm 2 [[.own 2 l11.length 0 l11.length, .int .i64 s2.1]], .live .nil 2 (l11.map cSStroke), .live .norm 2 [[.int .i64 v7.1.Actuator, .bool v7.1.Out]]]) (by kernel_rfl) (ob_boxn (bn_free (ro_bel okSStroke.bel _) (bn_free rfl rfl)) (ob_boxn (bn_ref rfl (bn_free rfl rfl)) (ob_list okSStroke.bel (ob_boxn (bn_free rfl (bn_free rfl rfl)) rfl)))) (by kernel_rfl) ?_
            refine Gh_nil ?_
            refine W_exit ?_
            refine X_hit ?_
            refine Gh_one (s1 := ⟨⟨75, [(2, .pown 0 1 0 0), (4, .pown 1 1 0 0), (5, .ro (v1.map cS)), (6, .int .i64 s2.2.2)]⟩, [.live .norm 2 [[.ro (([] : List SStroke).map cSStroke), .int .i64 0]], .live .norm 2 [[.own 2 l11.length 0 l11.length, .int .i64 s2.1]], .live .nil 2 (l11.map cSStroke), .live .norm 2 [[.int .i64 v7.1.Actuator, .bool v7.1.Out]]]⟩) (by kernel_rfl) ?_
            refine Gh_at (s1 := ⟨⟨75, [(2, .pown 0 1 0 0), (4, .pown 1 1 0 0), (5, .ro (v1.map cS)), (6, .int .i64 s2.2.2)]⟩, [.live .norm 2 [[.ro (([] : List SStroke).map cSStroke), .int .i64 0]], .live .norm 2 [[.own 2 l11.length 0 l11.length, .int .i64 s2.1]], .live .nil 2 (l11.map cSStroke), .live .norm 2 [[.int .i64 v7.1.Actuator, .bool v7.1.Out]]]⟩) (by kernel_rfl) ?_
            refine Gh_trunc (s1 := ⟨⟨75, [(2, .pown 0 1 0 0), (4, .pown 1 1 0 0), (5, .ro (v1.map cS)), (6, .int .i64 s2.2.2)]⟩, [.live .norm 2 [[.ro (([] : List SStroke).map cSStroke), .int .i64 0]], .live .norm 2 [[.own 2 l11.length 0 l11.length, .int .i64 s2.1]], .live .nil 2 (l11.map cSStroke)]⟩) (by kernel_rfl) (tb_ref rfl (tb_ref rfl (tb_free (ro_bel okStr.bel _) (tb_free rfl rfl)))) (H1 := [.live .norm 2 [[.ro (([] : List SStroke).map cSStroke), .int .i64 0]], .live .norm 2 [[.own 2 l11.length 0 l11.length, .int .i64 s2.1]], .live .nil 2 (l11.map cSStroke)]) (by kernel_rfl) (ob_boxn (bn_free (ro_bel okSStroke.bel _) (bn_free rfl rfl)) (ob_boxn (bn_ref rfl (bn_free rfl rfl)) (ob_list okSStroke.bel rfl))) (by kernel_rfl) ?_
            refine Gh_nil ?_
            replace h := Option.some.inj h; subst h
            exact ⟨_, rfl, by kernel_rfl⟩
          · replace h := fork_f c10 h
            refine W_skip ?_
            refine Gh_one (s1 := ⟨⟨75, [(2, .pown 0 1 0 0), (4, .pown 1 1 0 0), (5, .ro (v1.map cS)), (6, .int .i64 s2.2.2)]⟩, [.live .norm 2 [[.ro (([] : List SStroke).map cSStroke), .int .i64 0]], .live .norm 2 [[.own 2 s2.2.1.length 0 s2.2.1.length, .int .i64 s2.1]], .live .nil 2 (s2.2.1.map cSStroke), .live .norm 2 [[.int .i64 v7.1.Actuator, .bool v7.1.Out]]]⟩) (by kernel_rfl) ?_
            refine Gh_trunc0 (by kernel_rfl) ?_
            refine Gh_nil ?_
            refine W_seq ?_
            refine W_gh ?_
            refine W_reg ?_
            refine O_ps 2 (by kernel_rfl) ?_
            refine O_idx (kd := .i64) cS h (fun _ => rfl) (by kernel_rfl) (by kernel_rfl) (by kernel_rfl) (fun v12 e_v12 h => ?_)
            refine O_ps 1 (by kernel_rfl) ?_
            refine O_call (fun v => .tup [.int .i64 v.1, .bool v.2]) h (.inr rfl) (ys := [.str v12]) (fun _ e => p85 _ _ e) (by kernel_rfl) (by kernel_rfl) (bels_cons rfl rfl) (fun v13 e_v13 h => ?_)
            refine O_ps 5 (by kernel_rfl) ?_
            refine O_nil ?_
            refine Gh_end (s1 := ⟨⟨75, [(2, .pown 0 1 0 0), (4, .pown 1 1 0 0), (5, .ro (v1.map cS)), (6, .int .i64 s2.2.2), (9, .int .i64 v13.1), (10, .bool v13.2)]⟩, [.live .norm 2 [[.ro (([] : List SStroke).map cSStroke), .int .i64 0]], .live .norm 2 [[.own 2 s2.2.1.length 0 s2.2.1.length, .int .i64 s2.1]], .live .nil 2 (s2.2.1.map cSStroke), .live .norm 2 [[.int .i64 v7.1.Actuator, .bool v7.1.Out]]]⟩) _ (by kernel_rfl) ?_
            refine W_seq ?_
            refine W_seq ?_
            refine W_cut ⟨⟨75, [(2, .pown 0 1 0 0), (4, .pown 1 1 0 0), (5, .ro (v1.map cS)), (6, .int .i64 s2.2.2), (9, .int .i64 v13.1), (64, .bool ((!v13.2) || ((v13.1 == 0) || ((s2.2.2 == 0) || (decide (s2.2.2 < (subI .i64 (v1.length : Int) 1)))))))]⟩, [.live .norm 2 [[.ro (([] : List SStroke).map cSStroke), .int .i64 0]], .live .norm 2 [[.own 2 s2.2.1.length 0 s2.2.1.length, .int .i64 s2.1]], .live .nil 2 (s2.2.1.map cSStroke), .live .norm 2 [[.int .i64 v7.1.Actuator, .bool v7.1.Out]]]⟩ ?_ ?_
            · generalize e_g14 : ((!v13.2) || ((v13.1 == 0) || ((s2.2.2 == 0) || (decide (s2.2.2 < (subI .i64 (v1.length : Int) 1)))))) = g14
              refine W_gh ?_
              refine W_reg ?_
              refine O_ps 3 (by kernel_rfl) ?_
              refine O_fork (n := 50) (!v13.2) (by kernel_rfl) (fun c15 => ?_) (fun c15 => ?_)
              · skip
                refine O_ps 14 (by kernel_rfl) ?_
                refine O_nil ?_
                refine Gh_end (s1 := ⟨⟨75, [(2, .pown 0 1 0 0), (4, .pown 1 1 0 0), (5, .ro (v1.map cS)), (6, .int .i64 s2.2.2), (9, .int .i64 v13.1), (64, .bool true)]⟩, [.live .norm 2 [[.ro (([] : List SStroke).map cSStroke), .int .i64 0]], .live .norm 2 [[.own 2 s2.2.1.length 0 s2.2.1.length, .int .i64 s2.1]], .live .nil 2 (s2.2.1.map cSStroke), .live .norm 2 [[.int .i64 v7.1.Actuator, .bool v7.1.Out]]]⟩) _ (by kernel_rfl) ?_
                have q := e_g14; simp only [c4, c10, c15, cond_true, cond_false, Bool.true_and, Bool.false_and, Bool.true_or, Bool.false_or] at q; subst q
                show _ = _
                kernel_rfl
              · skip
                refine O_ps 4 (by kernel_rfl) ?_
                refine O_fork (n := 54) (v13.1 == 0) (by kernel_rfl) (fun c16 => ?_) (fun c16 => ?_)
                · skip
                  refine O_ps 10 (by kernel_rfl) ?_
                  refine O_nil ?_
                  refine Gh_end (s1 := ⟨⟨75, [(2, .pown 0 1 0 0), (4, .pown 1 1 0 0), (5, .ro (v1.map cS)), (6, .int .i64 s2.2.2), (9, .int .i64 v13.1), (64, .bool true)]⟩, [.live .norm 2 [[.ro (([] : List SStroke).map cSStroke), .int .i64 0]], .live .norm 2 [[.own 2 s2.2.1.length 0 s2.2.1.length, .int .i64 s2.1]], .live .nil 2 (s2.2.1.map cSStroke), .live .norm 2 [[.int .i64 v7.1.Actuator, .bool v7.1.Out]]]⟩) _ (by kernel_rfl) ?_
                  have q := e_g14; simp only [c4, c10, c15, c16, cond_true, cond_false, Bool.true_and, Bool.false_and, Bool.true_or, Bool.false_or] at q; subst q
                  show _ = _
                  kernel_rfl
                · skip
                  refine O_ps 4 (by kernel_rfl) ?_
                  refine O_fork (n := 58) (s2.2.2 == 0) (by kernel_rfl) (fun c17 => ?_) (fun c17 => ?_)
                  · skip
                    refine O_ps 6 (by kernel_rfl) ?_
                    refine O_nil ?_
                    refine Gh_end (s1 := ⟨⟨75, [(2, .pown 0 1 0 0), (4, .pown 1 1 0 0), (5, .ro (v1.map cS)), (6, .int .i64 s2.2.2), (9, .int .i64 v13.1), (64, .bool true)]⟩, [.live .norm 2 [[.ro (([] : List SStroke).map cSStroke), .int .i64 0]], .live .norm 2 [[.own 2 s2.2.1.length 0 s2.2.1.length, .int .i64 s2.1]], .live .nil 2 (s2.2.1.map cSStroke), .live .norm 2 [[.int .i64 v7.1.Actuator, .bool v7.1.Out]]]⟩) _ (by kernel_rfl) ?_
                    have q := e_g14; simp only [c4, c10, c15, c16, c17, cond_true, cond_false, Bool.true_and, Bool.false_and, Bool.true_or, Bool.false_or] at q; subst q
                    show _ = _
                    kernel_rfl
                  · skip
                    refine O_ps 2 (by kernel_rfl) ?_
                    refine O_len (l := v1) cS (by kernel_rfl) (by kernel_rfl) ?_
                    refine O_ps 3 (by kernel_rfl) ?_
                    refine O_nil ?_
                    refine Gh_end (s1 := ⟨⟨75, [(2, .pown 0 1 0 0), (4, .pown 1 1 0 0), (5, .ro (v1.map cS)), (6, .int .i64 s2.2.2), (9, .int .i64 v13.1), (64, .bool (decide (s2.2.2 < (subI .i64 (v1.length : Int) 1))))]⟩, [.live .norm 2 [[.ro (([] : List SStroke).map cSStroke), .int .i64 0]], .live .norm 2 [[.own 2 s2.2.1.length 0 s2.2.1.length, .int .i64 s2.1]], .live .nil 2 (s2.2.1.map cSStroke), .live .norm 2 [[.int .i64 v7.1.Actuator, .bool v7.1.Out]]]⟩) _ (by kernel_rfl) ?_
                    have q := e_g14; simp only [c4, c10, c15, c16, c17, cond_true, cond_false, Bool.true_and, Bool.false_and, Bool.true_or, Bool.false_or] at q; subst q
                    show _ = _
                    kernel_rfl
            · refine W_gh ?_
              refine W_cond (c := ((!v13.2) || ((v13.1 == 0) || ((s2.2.2 == 0) || (decide (s2.2.2 < (subI .i64 (v1.length : Int) 1))))))) (by kernel_rfl) (fun c18 => ?_) (fun c18 => ?_)
              · replace h := fork_t c18 h
                refine W_seq ?_
                refine W_gh ?_
                refine W_reg ?_
                refine O_ps 3 (by kernel_rfl) ?_
                refine O_nil ?_
                refine Gh_end (s1 := ⟨⟨75, [(2, .pown 0 1 0 0), (3, .int .i64 4), (4, .pown 1 1 0 0), (5, .ro (v1.map cS)), (6, .int .i64 s2.2.2), (9, .int .i64 v13.1), (64, .bool ((!v13.2) || ((v13.1 == 0) || ((s2.2.2 == 0) || (decide (s2.2.2 < (subI .i64 (v1.length : Int) 1)))))))]⟩, [.live .norm 2 [[.ro (([] : List SStroke).map cSStroke), .int .i64 0]], .live .norm 2 [[.own 2 s2.2.1.length 0 s2.2.1.length, .int .i64 s2.1]], .live .nil 2 (s2.2.1.map cSStroke), .live .norm 2 [[.int .i64 v7.1.Actuator, .bool v7.1.Out]]]⟩) _ (by kernel_rfl) ?_
                refine W_ret ?_
                replace h := Option.some.inj h; subst h
                replace h : some _ = some _ := h0
                replace h := Option.some.inj h; subst h
                refine ⟨_, rfl, fun h => ?_⟩
                replace h := Option.some.inj h; subst h
                exact Fin_free (l := [.agg [.ro (([] : List SStroke).map cSStroke), .int .i64 0], .int .i64 4]) (by kernel_rfl) (by kernel_rfl) (bels_cons (bels_cons (ro_bel okSStroke.bel _) (bels_cons rfl rfl)) (bels_cons rfl rfl))
              · replace h := fork_f c18 h
                refine W_skip ?_
                refine Gh_end (s1 := ⟨⟨75, [(2, .pown 0 1 0 0), (4, .pown 1 1 0 0), (5, .ro (v1.map cS)), (6, .int .i64 s2.2.2), (9, .int .i64 v13.1)]⟩, [.live .norm 2 [[.ro (([] : List SStroke).map cSStroke), .int .i64 0]], .live .norm 2 [[.own 2 s2.2.1.length 0 s2.2.1.length, .int .i64 s2.1]], .live .nil 2 (s2.2.1.map cSStroke), .live .norm 2 [[.int .i64 v7.1.Actuator, .bool v7.1.Out]]]⟩) _ (by kernel_rfl) ?_
                refine W_gh ?_
                refine W_reg ?_
                refine O_ps 3 (by kernel_rfl) ?_
                refine O_nil ?_
                refine Gh_end (s1 := ⟨⟨75, [(2, .pown 0 1 0 0), (4, .pown 1 1 0 0), (5, .ro (v1.map cS)), (6, .int .i64 s2.2.2)]⟩, [.live .norm 2 [[.ro (([] : List SStroke).map cSStroke), .int .i64 0]], .live .norm 2 [[.own 2 s2.2.1.length 0 s2.2.1.length, .int .i64 v13.1]], .live .nil 2 (s2.2.1.map cSStroke), .live .norm 2 [[.int .i64 v7.1.Actuator, .bool v7.1.Out]]]⟩) _ (by kernel_rfl) ?_
                refine Gh_one (s1 := ⟨⟨75, [(2, .pown 0 1 0 0), (4, .pown 1 1 0 0), (5, .ro (v1.map cS)), (6, .int .i64 s2.2.2)]⟩, [.live .norm 2 [[.ro (([] : List SStroke).map cSStroke), .int .i64 0]], .live .norm 2 [[.own 2 s2.2.1.length 0 s2.2.1.length, .int .i64 v13.1]], .live .nil 2 (s2.2.1.map cSStroke), .live .norm 2 [[.int .i64 v7.1.Actuator, .bool v7.1.Out]]]⟩) (by kernel_rfl) ?_
                refine Gh_at (s1 := ⟨⟨75, [(2, .pown 0 1 0 0), (4, .pown 1 1 0 0), (5, .ro (v1.map cS)), (6, .int .i64 s2.2.2)]⟩, [.live .norm 2 [[.ro (([] : List SStroke).map cSStroke), .int .i64 0]], .live .norm 2 [[.own 2 s2.2.1.length 0 s2.2.1.length, .int .i64 v13.1]], .live .nil 2 (s2.2.1.map cSStroke), .live .norm 2 [[.int .i64 v7.1.Actuator, .bool v7.1.Out]]]⟩) (by kernel_rfl) ?_
                refine Gh_trunc (s1 := ⟨⟨75, [(2, .pown 0 1 0 0), (4, .pown 1 1 0 0), (5, .ro (v1.map cS)), (6, .int .i64 s2.2.2)]⟩, [.live .norm 2 [[.ro (([] : List SStroke).map cSStroke), .int .i64 0]], .live .norm 2 [[.own 2 s2.2.1.length 0 s2.2.1.length, .int .i64 v13.1]], .live .nil 2 (s2.2.1.map cSStroke)]⟩) (by kernel_rfl) (tb_ref rfl (tb_ref rfl (tb_free (ro_bel okStr.bel _) (tb_free rfl rfl)))) (H1 := [.live .norm 2 [[.ro (([] : List SStroke).map cSStroke), .int .i64 0]], .live .norm 2 [[.own 2 s2.2.1.length 0 s2.2.1.length, .int .i64 v13.1]], .live .nil 2 (s2.2.1.map cSStroke)]) (by kernel_rfl) (ob_boxn (bn_free (ro_bel okSStroke.bel _) (bn_free rfl rfl)) (ob_boxn (bn_ref rfl (bn_free rfl rfl)) (ob_list okSStroke.bel rfl))) (by kernel_rfl) ?_
                refine Gh_nil ?_
                replace h := Option.some.inj h; subst h
                exact ⟨_, rfl, by kernel_rfl⟩
      · refine W_gh ?_
        refine W_reg ?_
        refine O_ps 3 (by kernel_rfl) ?_
        refine O_nil ?_
        refine Gh_end (s1 := ⟨⟨75, [(2, .pown 0 1 0 0), (4, .pown 1 1 0 0), (5, .ro (v1.map cS)), (6, .int .i64 (addI .i64 s2.2.2 1))]⟩, [.live .norm 2 [[.ro (([] : List SStroke).map cSStroke), .int .i64 0]], .live .norm 2 [[.own 2 w5.2.length 0 w5.2.length, .int .i64 w5.1]], .live .nil 2 (w5.2.map cSStroke)]⟩) _ (by kernel_rfl) ?_
        refine Gh_one (s1 := ⟨⟨75, [(2, .pown 0 1 0 0), (4, .pown 1 1 0 0), (5, .ro (v1.map cS)), (6, .int .i64 (addI .i64 s2.2.2 1))]⟩, [.live .norm 2 [[.ro (([] : List SStroke).map cSStroke), .int .i64 0]], .live .norm 2 [[.own 2 w5.2.length 0 w5.2.length, .int .i64 w5.1]], .live .nil 2 (w5.2.map cSStroke)]⟩) (by kernel_rfl) ?_
        refine Gh_trunc0 (by kernel_rfl) ?_
        refine Gh_nil ?_
        replace h := Option.some.inj h; subst h
        exact ⟨_, rfl, by kernel_rfl⟩
    · replace h := fork_f c4 h
      refine W_exit ?_
      refine X_hit ?_
      refine Gh_one (s1 := ⟨⟨75, [(2, .pown 0 1 0 0), (4, .pown 1 1 0 0)]⟩, [.live .norm 2 [[.ro (([] : List SStroke).map cSStroke), .int .i64 0]], .live .norm 2 [[.own 2 s2.2.1.length 0 s2.2.1.length, .int .i64 s2.1]], .live .nil 2 (s2.2.1.map cSStroke)]⟩) (by kernel_rfl) ?_
      refine Gh_trunc0 (by kernel_rfl) ?_
      refine Gh_nil ?_
      replace h := Option.some.inj h; subst h
      exact ⟨_, rfl, by kernel_rfl⟩
  · refine W_seq ?_
    refine W_seq ?_
    refine W_gh ?_
    refine W_reg ?_
    refine O_ps 1 (by kernel_rfl) ?_
    refine O_lent (fun v => .int .i64 v) h (.inr rfl) (ys := [.agg (cSStep (⟨w3.2, w3.1⟩ : SStep))]) (fun _ e => p75 _ _ e) (by kernel_rfl) (snaps_of (xs := [.agg [.own 2 w3.2.length 0 w3.2.length, .int .i64 w3.1]]) (by kernel_rfl) (mapO_cons (pk_agg (d := 5) (mapO_cons (pk_own (d := 4) (id := 2) (nl := .nil) (sz := 2) (l := w3.2) okSStroke.bel (by kernel_rfl) rfl) (mapO_cons (pk_free rfl) rfl))) rfl)) (fun _ => rfl) (fun v19 e_v19 h => ?_)
    refine O_ps 1 (by kernel_rfl) ?_
    refine O_nil ?_
    refine Gh_end (s1 := ⟨⟨75, [(2, .pown 0 1 0 0), (4, .pown 1 1 0 0), (11, .int .i64 v19)]⟩, [.live .norm 2 [[.ro (([] : List SStroke).map cSStroke), .int .i64 0]], .live .norm 2 [[.own 2 w3.2.length 0 w3.2.length, .int .i64 w3.1]], .live .nil 2 (w3.2.map cSStroke)]⟩) _ (by kernel_rfl) ?_
    refine W_seq ?_
    refine W_gh ?_
    refine W_reg ?_
    refine O_ps 2 (by kernel_rfl) ?_
    refine O_nil ?_
    refine Gh_end (s1 := ⟨⟨75, [(2, .pown 0 1 0 0), (4, .pown 1 1 0 0), (11, .int .i64 v19), (71, .bool (v19 != 0))]⟩, [.live .norm 2 [[.ro (([] : List SStroke).map cSStroke), .int .i64 0]], .live .norm 2 [[.own 2 w3.2.length 0 w3.2.length, .int .i64 w3.1]], .live .nil 2 (w3.2.map cSStroke)]⟩) _ (by kernel_rfl) ?_
    refine W_gh ?_
    refine W_cond (c := (v19 != 0)) (by kernel_rfl) (fun c20 => ?_) (fun c20 => ?_)
    · replace h := fork_t c20 h
      refine W_seq ?_
      refine W_gh ?_
      refine W_reg ?_
      refine O_ps 4 (by kernel_rfl) ?_
      refine O_nil ?_
      refine Gh_end (s1 := ⟨⟨75, [(2, .pown 0 1 0 0), (3, .int .i64 v19), (4, .pown 1 1 0 0), (71, .bool (v19 != 0))]⟩, [.live .norm 2 [[.ro (([] : List SStroke).map cSStroke), .int .i64 0]], .live .norm 2 [[.own 2 w3.2.length 0 w3.2.length, .int .i64 w3.1]], .live .nil 2 (w3.2.map cSStroke)]⟩) _ (by kernel_rfl) ?_
      refine W_ret ?_
      replace h := Option.some.inj h; subst h
      exact Fin_free (l := [.agg [.ro (([] : List SStroke).map cSStroke), .int .i64 0], .int .i64 v19]) (by kernel_rfl) (by kernel_rfl) (bels_cons (bels_cons (ro_bel okSStroke.bel _) (bels_cons rfl rfl)) (bels_cons rfl rfl))
    · replace h := fork_f c20 h
      refine W_skip ?_
      refine Gh_end (s1 := ⟨⟨75, [(2, .pown 0 1 0 0), (4, .pown 1 1 0 0)]⟩, [.live .norm 2 [[.ro (([] : List SStroke).map cSStroke), .int .i64 0]], .live .norm 2 [[.own 2 w3.2.length 0 w3.2.length, .int .i64 w3.1]], .live .nil 2 (w3.2.map cSStroke)]⟩) _ (by kernel_rfl) ?_
      refine W_seq ?_
      refine W_gh ?_
      refine W_reg ?_
      refine O_ps 3 (by kernel_rfl) ?_
      refine O_nil ?_
      refine Gh_end (s1 := ⟨⟨75, [(2, .pown 0 1 0 0), (3, .int .i64 0)]⟩, [.live .norm 2 [[.own 2 w3.2.length 0 w3.2.length, .int .i64 w3.1]], .live .norm 2 [[.own 2 w3.2.length 0 w3.2.length, .int .i64 w3.1]], .live .nil 2 (w3.2.map cSStroke)]⟩) _ (by kernel_rfl) ?_
      refine W_ret ?_
      replace h := Option.some.inj h; subst h
      exact Fin_pk (l := [.agg [.own 2 w3.2.length 0 w3.2.length, .int .i64 w3.1], .int .i64 0]) (by kernel_rfl) (pk_tup (d := 5) (mapO_cons (pk_agg (d := 4) (mapO_cons (pk_own (d := 3) (id := 2) (nl := .nil) (sz := 2) (l := w3.2) okSStroke.bel (by kernel_rfl) rfl) (mapO_cons (pk_free rfl) rfl))) (mapO_cons (pk_free rfl) rfl)))

theorem p71 (a0 : (List UInt8)) (r : ((List SStep) × Int × Int)) (h : m71 a0 = some r) : Pt E0 hp 71 [.str a0] (.tup [.ro (r.1.map cSStep), .int .i64 r.2.1, .int .i64 r.2.2]) := by
  unfold m71 at h
  refine Pt_W (fn71) rfl (by decide) ?_
  refine W_seq ?_
  refine W_gh ?_
  refine W_reg ?_
  refine O_ps 3 (by kernel_rfl) ?_
  refine O_nil ?_
  refine Gh_end (s1 := ⟨⟨52, [(0, .str a0)]⟩, []⟩) _ (by kernel_rfl) ?_
  refine W_seq ?_
  refine W_seq ?_
  refine W_gh ?_
  refine W_reg ?_
  refine O_ps 3 (by kernel_rfl) ?_
  refine O_nil ?_
  refine Gh_end (s1 := ⟨⟨52, [(0, .str a0), (13, .bool (decide ((a0.length : Int) > 4096)))]⟩, []⟩) _ (by kernel_rfl) ?_
  refine W_gh ?_
  refine W_cond (c := (decide ((a0.length : Int) > 4096))) (by kernel_rfl) (fun c1 => ?_) (fun c1 => ?_)
  · replace h := fork_t c1 h
    refine W_seq ?_
    refine W_gh ?_
    refine W_reg ?_
    refine O_ps 3 (by kernel_rfl) ?_
    refine O_nil ?_
    refine Gh_end (s1 := ⟨⟨52, [(0, .str a0), (2, .ro (([] : List SStep).map cSStep)), (3, .int .i64 0), (4, .int .i64 17), (13, .bool (decide ((a0.length : Int) > 4096)))]⟩, []⟩) _ (by kernel_rfl) ?_
    refine W_ret ?_
    replace h := Option.some.inj h; subst h
    exact Fin_free (l := [.ro (([] : List SStep).map cSStep), .int .i64 0, .int .i64 17]) (by kernel_rfl) (by kernel_rfl) (bels_cons (ro_bel okSStep.bel _) (bels_cons rfl (bels_cons rfl rfl)))
  · replace h := fork_f c1 h
    refine W_skip ?_
    refine Gh_end (s1 := ⟨⟨52, [(0, .str a0)]⟩, []⟩) _ (by kernel_rfl) ?_
    refine W_seq ?_
    refine W_seq ?_
    refine W_gh ?_
    refine W_reg ?_
    refine O_ps 2 (by kernel_rfl) ?_
    refine O_nil ?_
    refine Gh_end (s1 := ⟨⟨52, [(0, .str a0), (15, .bool (a0 == []))]⟩, []⟩) _ (by kernel_rfl) ?_
    refine W_gh ?_
    refine W_cond (c := (a0 == [])) (by kernel_rfl) (fun c2 => ?_) (fun c2 => ?_)
    · replace h := fork_t c2 h
      refine W_seq ?_
      refine W_gh ?_
      refine W_reg ?_
      refine O_ps 3 (by kernel_rfl) ?_
      refine O_nil ?_
      refine Gh_end (s1 := ⟨⟨52, [(0, .str a0), (2, .ro (([] : List SStep).map cSStep)), (3, .int .i64 0), (4, .int .i64 0), (15, .bool (a0 == []))]⟩, []⟩) _ (by kernel_rfl) ?_
      refine W_ret ?_
      replace h := Option.some.inj h; subst h
      exact Fin_free (l := [.ro (([] : List SStep).map cSStep), .int .i64 0, .int .i64 0]) (by kernel_rfl) (by kernel_rfl) (bels_cons (ro_bel okSStep.bel _) (bels_cons rfl (bels_cons rfl rfl)))
    · replace h := fork_f c2 h
      refine W_skip ?_
      refine Gh_end (s1 := ⟨⟨52, [(0, .str a0)]⟩, []⟩) _ (by kernel_rfl) ?_
      refine W_seq ?_
      refine W_gh ?_
      refine W_reg ?_
      refine O_ps 1 (by kernel_rfl) ?_
      refine O_nil ?_
      refine Gh_end (s1 := ⟨⟨52, [(0, .str a0), (5, .own 0 0 0 0)]⟩, [.live .nil 2 (([] : List SStep).map cSStep)]⟩) _ (by kernel_rfl) ?_
      refine W_seq ?_
      refine W_gh ?_
      refine W_reg ?_
      refine O_ps 1 (by kernel_rfl) ?_
      refine O_call (fun v => .ro (v.map cS)) h (.inr rfl) (ys := [.str a0, .str [59, 32]]) (fun _ e => p79 _ _ _ e) (by kernel_rfl) (by kernel_rfl) (bels_cons rfl (bels_cons rfl rfl)) (fun v3 e_v3 h => ?_)
      refine O_ps 1 (by kernel_rfl) ?_
      refine O_nil ?_
      refine Gh_end (s1 := ⟨⟨52, [(5, .own 0 0 0 0), (6, .ro (v3.map cS))]⟩, [.live .nil 2 (([] : List SStep).map cSStep)]⟩) _ (by kernel_rfl) ?_
      refine W_seq ?_
      refine W_reg ?_
      refine O_ps 1 (by kernel_rfl) ?_
      refine O_nil ?_
      refine W_seq ?_
      refine W_seq ?_
      refine W_reg ?_
      refine O_ps 1 (by kernel_rfl) ?_
      refine O_nil ?_
      refine W_loop (fun s4 : (List SStep) × Int × Int => ⟨⟨52, [(5, .own 0 s4.1.length 0 s4.1.length), (6, .ro (v3.map cS)), (7, .int .i64 s4.2.1), (8, .int .i64 s4.2.2)]⟩, [.live .nil 2 (s4.1.map cSStep)]⟩) (fun w5 : (List SStep) => ⟨⟨52, [(5, .own 0 w5.length 0 w5.length)]⟩, [.live .nil 2 (w5.map cSStep)]⟩) h (by kernel_rfl) (fun s4 c h => ?_) (fun w5 h => ?_)
      · refine W_gh ?_
        refine W_seq ?_
        refine W_seq ?_
        refine W_gh ?_
        refine W_reg ?_
        refine O_ps 2 (by kernel_rfl) ?_
        refine O_len (l := v3) cS (by kernel_rfl) (by kernel_rfl) ?_
        refine O_ps 1 (by kernel_rfl) ?_
        refine O_nil ?_
        refine Gh_end (s1 := ⟨⟨52, [(5, .own 0 s4.1.length 0 s4.1.length), (6, .ro (v3.map cS)), (7, .int .i64 s4.2.1), (8, .int .i64 s4.2.2), (21, .bool (decide (s4.2.2 < (v3.length : Int))))]⟩, [.live .nil 2 (s4.1.map cSStep)]⟩) _ (by kernel_rfl) ?_
        refine W_gh ?_
        refine W_cond (c := (decide (s4.2.2 < (v3.length : Int)))) (by kernel_rfl) (fun c6 => ?_) (fun c6 => ?_)
        · replace h := fork_t c6 h
          refine W_skip ?_
          refine Gh_end (s1 := ⟨⟨52, [(5, .own 0 s4.1.length 0 s4.1.length), (6, .ro (v3.map cS)), (7, .int .i64 s4.2.1), (8, .int .i64 s4.2.2)]⟩, [.live .nil 2 (s4.1.map cSStep)]⟩) _ (by kernel_rfl) ?_
          refine W_seq ?_
          refine W_gh ?_
          refine W_block ?_
          refine W_seq ?_
          refine W_seq ?_
          refine W_gh ?_
          refine W_reg ?_
          refine O_ps 2 (by kernel_rfl) ?_
          refine O_nil ?_
          refine Gh_end (s1 := ⟨⟨52, [(5, .own 0 s4.1.length 0 s4.1.length), (6, .ro (v3.map cS)), (7, .int .i64 s4.2.1), (8, .int .i64 s4.2.2), (25, .bool (s4.2.2 == 64))]⟩, [.live .nil 2 (s4.1.map cSStep)]⟩) _ (by kernel_rfl) ?_
          refine W_gh ?_
          refine W_cond (c := (s4.2.2 == 64)) (by kernel_rfl) (fun c7 => ?_) (fun c7 => ?_)
          · replace h := fork_t c7 h
            refine W_seq ?_
            refine W_gh ?_
            refine W_reg ?_
            refine O_ps 4 (by kernel_rfl) ?_
            refine O_nil ?_
            refine Gh_end (s1 := ⟨⟨52, [(2, .ro (([] : List SStep).map cSStep)), (3, .int .i64 s4.2.1), (4, .int .i64 5), (5, .own 0 s4.1.length 0 s4.1.length), (6, .ro (v3.map cS)), (8, .int .i64 s4.2.2), (25, .bool (s4.2.2 == 64))]⟩, [.live .nil 2 (s4.1.map cSStep)]⟩) _ (by kernel_rfl) ?_
            refine W_ret ?_
            replace h := Option.some.inj h; subst h
            refine ⟨_, rfl, fun h => ?_⟩
            replace h := Option.some.inj h; subst h
            exact Fin_free (l := [.ro (([] : List SStep).map cSStep), .int .i64 s4.2.1, .int .i64 5]) (by kernel_rfl) (by kernel_rfl) (bels_cons (ro_bel okSStep.bel _) (bels_cons rfl (bels_cons rfl rfl)))
          · replace h := fork_f c7 h
            refine W_skip ?_
            refine Gh_end (s1 := ⟨⟨52, [(5, .own 0 s4.1.length 0 s4.1.length), (6, .ro (v3.map cS)), (7, .int .i64 s4.2.1), (8, .int .i64 s4.2.2)]⟩, [.live .nil 2 (s4.1.map cSStep)]⟩) _ (by kernel_rfl) ?_
            refine W_seq ?_
            refine W_gh ?_
            refine W_reg ?_
            refine O_ps 2 (by kernel_rfl) ?_
            refine O_idx (kd := .i64) cS h (fun _ => rfl) (by kernel_rfl) (by kernel_rfl) (by kernel_rfl) (fun v8 e_v8 h => ?_)
            refine O_ps 1 (by kernel_rfl) ?_
            refine O_call (fun v => .tup [.agg [.ro (v.1.Strokes.map cSStroke), .int .i64 v.1.Wait], .int .i64 v.2]) h (.inr rfl) (ys := [.str v8]) (fun _ e => p80 _ _ e) (by kernel_rfl) (by kernel_rfl) (bels_cons rfl rfl) (fun v9 e_v9 h => ?_)
            refine O_ps 6 (by kernel_rfl) ?_
            refine O_nil ?_
            refine Gh_end (s1 := ⟨⟨52, [(5, .own 0 s4.1.length 0 s4.1.length), (6, .ro (v3.map cS)), (7, .int .i64 s4.2.1), (8, .int .i64 s4.2.2), (9, .pown 1 1 0 0), (10, .int .i64 v9.2)]⟩, [.live .nil 2 (s4.1.map cSStep), .live .norm 2 [[.ro (v9.1.Strokes.map cSStroke), .int .i64 v9.1.Wait]]]⟩) _ (by kernel_rfl) ?_
            refine W_seq ?_
            refine W_seq ?_
            refine W_gh ?_
            refine W_reg ?_
            refine O_ps 2 (by kernel_rfl) ?_
            refine O_nil ?_
            refine Gh_end (s1 := ⟨⟨52, [(5, .own 0 s4.1.length 0 s4.1.length), (6, .ro (v3.map cS)), (7, .int .i64 s4.2.1), (8, .int .i64 s4.2.2), (9, .pown 1 1 0 0), (10, .int .i64 v9.2), (36, .bool (v9.2 != 0))]⟩, [.live .nil 2 (s4.1.map cSStep), .live .norm 2 [[.ro (v9.1.Strokes.map cSStroke), .int .i64 v9.1.Wait]]]⟩) _ (by kernel_rfl) ?_
            refine W_gh ?_
            refine W_cond (c := (v9.2 != 0)) (by kernel_rfl) (fun c10 => ?_) (fun c10 => ?_)
            · replace h := fork_t c10 h
              refine W_seq ?_
              refine W_gh ?_
              refine W_reg ?_
              refine O_ps 5 (by kernel_rfl) ?_
              refine O_nil ?_
              refine Gh_end (s1 := ⟨⟨52, [(2, .ro (([] : List SStep).map cSStep)), (3, .int .i64 s4.2.1), (4, .int .i64 v9.2), (5, .own 0 s4.1.length 0 s4.1.length), (6, .ro (v3.map cS)), (8, .int .i64 s4.2.2), (9, .pown 1 1 0 0), (36, .bool (v9.2 != 0))]⟩, [.live .nil 2 (s4.1.map cSStep), .live .norm 2 [[.ro (v9.1.Strokes.map cSStroke), .int .i64 v9.1.Wait]]]⟩) _ (by kernel_rfl) ?_
              refine W_ret ?_
              replace h := Option.some.inj h; subst h
              refine ⟨_, rfl, fun h => ?_⟩
              replace h := Option.some.inj h; subst h
              exact Fin_free (l := [.ro (([] : List SStep).map cSStep), .int .i64 s4.2.1, .int .i64 v9.2]) (by kernel_rfl) (by kernel_rfl) (bels_cons (ro_bel okSStep.bel _) (bels_cons rfl (bels_cons rfl rfl)))
            · replace h := fork_f c10 h
              refine W_skip ?_
              refine Gh_end (s1 := ⟨⟨52, [(5, .own 0 s4.1.length 0 s4.1.length), (6, .ro (v3.map cS)), (7, .int .i64 s4.2.1), (8, .int .i64 s4.2.2), (9, .pown 1 1 0 0)]⟩, [.live .nil 2 (s4.1.map cSStep), .live .norm 2 [[.ro (v9.1.Strokes.map cSStroke), .int .i64 v9.1.Wait]]]⟩) _ (by kernel_rfl) ?_
              refine W_seq ?_
              refine W_gh ?_
              refine W_reg ?_
              refine O_ps 3 (by kernel_rfl) ?_
              refine O_app (C := cSStep) (id := 0) (nl := .nil) okSStep h rfl (by kernel_rfl) (by kernel_rfl) (by kernel_rfl) (by kernel_rfl) rfl (fun l11 e_l11 h => ?_)
              refine O_ps 1 (by kernel_rfl) ?_
              refine O_nil ?_
              refine Gh_one (s1 := ⟨⟨52, [(5, .own 0 l11.length 0 l11.length), (6, .ro (v3.map cS)), (7, .int .i64 s4.2.1), (8, .int .i64 s4.2.2)]⟩, [.live .nil 2 (l11.map cSStep), .live .norm 2 [[.ro (v9.1.Strokes.map cSStroke), .int .i64 v9.1.Wait]], .live .norm 2 (([v9.1] : List SStep).map cSStep)]⟩) (by kernel_rfl) ?_
              refine Gh_at (s1 := ⟨⟨52, [(5, .own 0 l11.length 0 l11.length), (6, .ro (v3.map cS)), (7, .int .i64 s4.2.1), (8, .int .i64 s4.2.2)]⟩, [.live .nil 2 (l11.map cSStep), .live .norm 2 [[.ro (v9.1.Strokes.map cSStroke), .int .i64 v9.1.Wait]], .live .norm 2 (([v9.1] : List SStep).map cSStep)]⟩) (by kernel_rfl) ?_
              refine Gh_trunc (s1 := ⟨⟨52, [(5, .own 0 l11.length 0 l11.length), (6, .ro (v3.map cS)), (7, .int .i64 s4.2.1), (8, .int .i64 s4.2.2)]⟩, [.live .nil 2 (l11.map cSStep), .live .norm 2 [[.ro (v9.1.Strokes.map cSStroke), .int .i64 v9.1.Wait]]]⟩) (by kernel_rfl) (tb_ref rfl (tb_free (ro_bel okStr.bel _) (tb_free rfl (tb_free rfl rfl)))) (H1 := [.live .nil 2 (l11.map cSStep), .live .norm 2 [[.ro (v9.1.Strokes.map cSStroke), .int .i64 v9.1.Wait]]]) (by kernel_rfl) (ob_list okSStep.bel (ob_boxn (bn_free (ro_bel okSStroke.bel _) (bn_free rfl rfl)) rfl)) (by kernel_rfl) ?_
              refine Gh_nil ?_
              refine W_gh ?_
              refine W_reg ?_
              refine O_ps 3 (by kernel_rfl) ?_
              refine O_idx (kd := .i64) cS h (fun _ => rfl) (by kernel_rfl) (by kernel_rfl) (by kernel_rfl) (fun v12 e_v12 h => ?_)
              refine O_ps 5 (by kernel_rfl) ?_
              refine O_nil ?_
              refine Gh_end (s1 := ⟨⟨52, [(5, .own 0 l11.length 0 l11.length), (6, .ro (v3.map cS)), (7, .int .i64 (addI .i64 s4.2.1 (addI .i64 (v12.length : Int) 2))), (8, .int .i64 s4.2.2)]⟩, [.live .nil 2 (l11.map cSStep), .live .norm 2 [[.ro (v9.1.Strokes.map cSStroke), .int .i64 v9.1.Wait]]]⟩) _ (by kernel_rfl) ?_
              refine Gh_one (s1 := ⟨⟨52, [(5, .own 0 l11.length 0 l11.length), (6, .ro (v3.map cS)), (7, .int .i64 (addI .i64 s4.2.1 (addI .i64 (v12.length : Int) 2))), (8, .int .i64 s4.2.2)]⟩, [.live .nil 2 (l11.map cSStep), .live .norm 2 [[.ro (v9.1.Strokes.map cSStroke), .int .i64 v9.1.Wait]]]⟩) (by kernel_rfl) ?_
              refine Gh_at (s1 := ⟨⟨52, [(5, .own 0 l11.length 0 l11.length), (6, .ro (v3.map cS)), (7, .int .i64 (addI .i64 s4.2.1 (addI .i64 (v12.length : Int) 2))), (8, .int .i64 s4.2.2)]⟩, [.live .nil 2 (l11.map cSStep), .live .norm 2 [[.ro (v9.1.Strokes.map cSStroke), .int .i64 v9.1.Wait]]]⟩) (by kernel_rfl) ?_
              refine Gh_trunc (s1 := ⟨⟨52, [(5, .own 0 l11.length 0 l11.length), (6, .ro (v3.map cS)), (7, .int .i64 (addI .i64 s4.2.1 (addI .i64 (v12.length : Int) 2))), (8, .int .i64 s4.2.2)]⟩, [.live .nil 2 (l11.map cSStep)]⟩) (by kernel_rfl) (tb_ref rfl (tb_free (ro_bel okStr.bel _) (tb_free rfl (tb_free rfl rfl)))) (H1 := [.live .nil 2 (l11.map cSStep)]) (by kernel_rfl) (ob_list okSStep.bel rfl) (by kernel_rfl) ?_
              refine Gh_nil ?_
              refine W_gh ?_
              refine W_reg ?_
              refine O_ps 3 (by kernel_rfl) ?_
              refine O_nil ?_
              refine Gh_end (s1 := ⟨⟨52, [(5, .own 0 l11.length 0 l11.length), (6, .ro (v3.map cS)), (7, .int .i64 (addI .i64 s4.2.1 (addI .i64 (v12.length : Int) 2))), (8, .int .i64 (addI .i64 s4.2.2 1))]⟩, [.live .nil 2 (l11.map cSStep)]⟩) _ (by kernel_rfl) ?_
              refine Gh_one (s1 := ⟨⟨52, [(5, .own 0 l11.length 0 l11.length), (6, .ro (v3.map cS)), (7, .int .i64 (addI .i64 s4.2.1 (addI .i64 (v12.length : Int) 2))), (8, .int .i64 (addI .i64 s4.2.2 1))]⟩, [.live .nil 2 (l11.map cSStep)]⟩) (by kernel_rfl) ?_
              refine Gh_trunc0 (by kernel_rfl) ?_
              refine Gh_nil ?_
              replace h := Option.some.inj h; subst h
              exact ⟨_, rfl, by kernel_rfl⟩
        · replace h := fork_f c6 h
          refine W_exit ?_
          refine X_hit ?_
          refine Gh_one (s1 := ⟨⟨52, [(5, .own 0 s4.1.length 0 s4.1.length)]⟩, [.live .nil 2 (s4.1.map cSStep)]⟩) (by kernel_rfl) ?_
          refine Gh_trunc0 (by kernel_rfl) ?_
          refine Gh_nil ?_
          replace h := Option.some.inj h; subst h
          exact ⟨_, rfl, by kernel_rfl⟩
      · refine W_seq ?_
        refine W_gh ?_
        refine W_reg ?_
        refine O_ps 4 (by kernel_rfl) ?_
        refine O_nil ?_
        refine Gh_end (s1 := ⟨⟨52, [(2, .own 0 w5.length 0 w5.length), (3, .int .i64 0), (4, .int .i64 0)]⟩, [.live .nil 2 (w5.map cSStep)]⟩) _ (by kernel_rfl) ?_
        refine W_ret ?_
        replace h := Option.some.inj h; subst h
        exact Fin_pk (l := [.own 0 w5.length 0 w5.length, .int .i64 0, .int .i64 0]) (by kernel_rfl) (pk_tup (d := 5) (mapO_cons (pk_own (d := 4) (id := 0) (nl := .nil) (sz := 2) (l := w5) okSStep.bel (by kernel_rfl) rfl) (mapO_cons (pk_free rfl) (mapO_cons (pk_free rfl) rfl))))

theorem p72 (a0 : (List SStep)) (r : SSequence) (h : m72 a0 = some r) : Pt E0 hp 72 [.ro (a0.map cSStep)] (.agg [.int .i64 r.Actuators, .ro (r.Steps.map cSStep)]) := by
  unfold m72 at h
  refine Pt_W (fn72) rfl (by decide) ?_
  refine W_seq ?_
  refine W_gh ?_
  refine W_reg ?_
  refine O_ps 1 (by kernel_rfl) ?_
  refine O_nil ?_
  refine Gh_end (s1 := ⟨⟨39, [(0, .ro (a0.map cSStep)), (2, .pown 0 1 0 0)]⟩, [.live .norm 2 [[.int .i64 0, .ro (([] : List SStep).map cSStep)]]]⟩) _ (by kernel_rfl) ?_
  refine W_seq ?_
  refine W_gh ?_
  refine W_reg ?_
  refine O_ps 4 (by kernel_rfl) ?_
  refine O_nil ?_
  refine Gh_end (s1 := ⟨⟨39, [(0, .ro (a0.map cSStep)), (2, .pown 0 1 0 0), (3, .pown 1 1 0 0)]⟩, [.live .norm 2 [[.int .i64 0, .ro (([] : List SStep).map cSStep)]], .live .norm 2 [[.int .i64 0, .ro (a0.map cSStep)]]]⟩) _ (by kernel_rfl) ?_
  refine W_seq ?_
  refine W_seq ?_
  refine W_reg ?_
  refine O_ps 1 (by kernel_rfl) ?_
  refine O_nil ?_
  refine W_loopS (fun s1 : Int × Int => ⟨⟨39, [(0, .ro (a0.map cSStep)), (2, .pown 0 1 0 0), (3, .pown 1 1 0 0), (4, .int .i64 s1.2)]⟩, [.live .norm 2 [[.int .i64 0, .ro (([] : List SStep).map cSStep)]], .live .norm 2 [[.int .i64 s1.1, .ro (a0.map cSStep)]]]⟩) (fun w2 : Int => ⟨⟨39, [(0, .ro (a0.map cSStep)), (2, .pown 0 1 0 0), (3, .pown 1 1 0 0)]⟩, [.live .norm 2 [[.int .i64 0, .ro (([] : List SStep).map cSStep)]], .live .norm 2 [[.int .i64 w2, .ro (a0.map cSStep)]]]⟩) h (by kernel_rfl) (fun s1 c h => ?_) (fun w2 e_w2 h => ?_)
  · refine W_gh ?_
    refine W_seq ?_
    refine W_seq ?_
    refine W_gh ?_
    refine W_reg ?_
    refine O_ps 2 (by kernel_rfl) ?_
    refine O_len (l := a0) cSStep (by kernel_rfl) (by kernel_rfl) ?_
    refine O_ps 1 (by kernel_rfl) ?_
    refine O_nil ?_
    refine Gh_end (s1 := ⟨⟨39, [(0, .ro (a0.map cSStep)), (2, .pown 0 1 0 0), (3, .pown 1 1 0 0), (4, .int .i64 s1.2), (11, .bool (decide (s1.2 < (a0.length : Int))))]⟩, [.live .norm 2 [[.int .i64 0, .ro (([] : List SStep).map cSStep)]], .live .norm 2 [[.int .i64 s1.1, .ro (a0.map cSStep)]]]⟩) _ (by kernel_rfl) ?_
    refine W_gh ?_
    refine W_cond (c := (decide (s1.2 < (a0.length : Int)))) (by kernel_rfl) (fun c3 => ?_) (fun c3 => ?_)
    · replace h := fork_t c3 h
      refine W_skip ?_
      refine Gh_end (s1 := ⟨⟨39, [(0, .ro (a0.map cSStep)), (2, .pown 0 1 0 0), (3, .pown 1 1 0 0), (4, .int .i64 s1.2)]⟩, [.live .norm 2 [[.int .i64 0, .ro (([] : List SStep).map cSStep)]], .live .norm 2 [[.int .i64 s1.1, .ro (a0.map cSStep)]]]⟩) _ (by kernel_rfl) ?_
      refine W_seq ?_
      refine W_gh ?_
      refine W_block ?_
      refine W_seq ?_
      refine W_reg ?_
      refine O_ps 1 (by kernel_rfl) ?_
      refine O_nil ?_
      refine W_loopS (fun s4 : Int × Int => ⟨⟨39, [(0, .ro (a0.map cSStep)), (2, .pown 0 1 0 0), (3, .pown 1 1 0 0), (4, .int .i64 s1.2), (5, .int .i64 s4.2)]⟩, [.live .norm 2 [[.int .i64 0, .ro (([] : List SStep).map cSStep)]], .live .norm 2 [[.int .i64 s4.1, .ro (a0.map cSStep)]]]⟩) (fun w5 : Int => ⟨⟨39, [(0, .ro (a0.map cSStep)), (2, .pown 0 1 0 0), (3, .pown 1 1 0 0), (4, .int .i64 s1.2)]⟩, [.live .norm 2 [[.int .i64 0, .ro (([] : List SStep).map cSStep)]], .live .norm 2 [[.int .i64 w5, .ro (a0.map cSStep)]]]⟩) h (by kernel_rfl) (fun s4 c h => ?_) (fun w5 e_w5 h => ?_)
      · refine W_gh ?_
        refine W_seq ?_
        refine W_seq ?_
        refine W_gh ?_
        refine W_reg ?_
        refine O_ps 3 (by kernel_rfl) ?_
        refine O_idx (kd := .i64) cSStep h (fun _ => rfl) (by kernel_rfl) (by kernel_rfl) (by kernel_rfl) (fun v6 e_v6 h => ?_)
        refine O_ps 2 (by kernel_rfl) ?_
        refine O_len (l := v6.Strokes) cSStroke (by kernel_rfl) (by kernel_rfl) ?_
        refine O_ps 1 (by kernel_rfl) ?_
        refine O_nil ?_
        refine Gh_end (s1 := ⟨⟨39, [(0, .ro (a0.map cSStep)), (2, .pown 0 1 0 0), (3, .pown 1 1 0 0), (4, .int .i64 s1.2), (5, .int .i64 s4.2), (21, .bool (decide (s4.2 < (v6.Strokes.length : Int))))]⟩, [.live .norm 2 [[.int .i64 0, .ro (([] : List SStep).map cSStep)]], .live .norm 2 [[.int .i64 s4.1, .ro (a0.map cSStep)]]]⟩) _ (by kernel_rfl) ?_
        refine W_gh ?_
        refine W_cond (c := (decide (s4.2 < (v6.Strokes.length : Int)))) (by kernel_rfl) (fun c7 => ?_) (fun c7 => ?_)
        · replace h := fork_t c7 h
          refine W_skip ?_
          refine Gh_end (s1 := ⟨⟨39, [(0, .ro (a0.map cSStep)), (2, .pown 0 1 0 0), (3, .pown 1 1 0 0), (4, .int .i64 s1.2), (5, .int .i64 s4.2)]⟩, [.live .norm 2 [[.int .i64 0, .ro (([] : List SStep).map cSStep)]], .live .norm 2 [[.int .i64 s4.1, .ro (a0.map cSStep)]]]⟩) _ (by kernel_rfl) ?_
          refine W_seq ?_
          refine W_block ?_
          refine W_gh ?_
          refine W_draw ?_
          refine O_ps 4 (by kernel_rfl) ?_
          refine O_idx (kd := .i64) cSStep h (fun _ => rfl) (by kernel_rfl) (by kernel_rfl) (by kernel_rfl) (fun v8 e_v8 h => ?_)
          refine O_ps 3 (by kernel_rfl) ?_
          refine O_idx (kd := .i64) cSStroke h (fun _ => rfl) (by kernel_rfl) (by kernel_rfl) (by kernel_rfl) (fun v9 e_v9 h => ?_)
          refine O_ps 6 (by kernel_rfl) ?_
          refine O_nil ?_
          refine Gh_end (s1 := ⟨⟨39, [(0, .ro (a0.map cSStep)), (2, .pown 0 1 0 0), (3, .pown 1 1 0 0), (4, .int .i64 s1.2), (5, .int .i64 s4.2)]⟩, [.live .norm 2 [[.int .i64 0, .ro (([] : List SStep).map cSStep)]], .live .norm 2 [[.int .i64 (maxI s4.1 (addI .i64 v9.Actuator 1)), .ro (a0.map cSStep)]]]⟩) _ (by kernel_rfl) ?_
          refine W_gh ?_
          refine W_reg ?_
          refine O_ps 3 (by kernel_rfl) ?_
          refine O_nil ?_
          refine Gh_end (s1 := ⟨⟨39, [(0, .ro (a0.map cSStep)), (2, .pown 0 1 0 0), (3, .pown 1 1 0 0), (4, .int .i64 s1.2), (5, .int .i64 (addI .i64 s4.2 1))]⟩, [.live .norm 2 [[.int .i64 0, .ro (([] : List SStep).map cSStep)]], .live .norm 2 [[.int .i64 (maxI s4.1 (addI .i64 v9.Actuator 1)), .ro (a0.map cSStep)]]]⟩) _ (by kernel_rfl) ?_
          refine Gh_end (s1 := ⟨⟨39, [(0, .ro (a0.map cSStep)), (2, .pown 0 1 0 0), (3, .pown 1 1 0 0), (4, .int .i64 s1.2), (5, .int .i64 (addI .i64 s4.2 1))]⟩, [.live .norm 2 [[.int .i64 0, .ro (([] : List SStep).map cSStep)]], .live .norm 2 [[.int .i64 (maxI s4.1 (addI .i64 v9.Actuator 1)), .ro (a0.map cSStep)]]]⟩) _ (by kernel_rfl) ?_
          replace h := Option.some.inj h; subst h
          exact ⟨_, rfl, by kernel_rfl⟩
        · replace h := fork_f c7 h
          refine W_exit ?_
          refine X_hit ?_
          refine Gh_end (s1 := ⟨⟨39, [(0, .ro (a0.map cSStep)), (2, .pown 0 1 0 0), (3, .pown 1 1 0 0), (4, .int .i64 s1.2)]⟩, [.live .norm 2 [[.int .i64 0, .ro (([] : List SStep).map cSStep)]], .live .norm 2 [[.int .i64 s4.1, .ro (a0.map cSStep)]]]⟩) _ (by kernel_rfl) ?_
          replace h := Option.some.inj h; subst h
          exact ⟨_, rfl, by kernel_rfl⟩
      · refine Gh_end (s1 := ⟨⟨39, [(0, .ro (a0.map cSStep)), (2, .pown 0 1 0 0), (3, .pown 1 1 0 0), (4, .int .i64 s1.2)]⟩, [.live .norm 2 [[.int .i64 0, .ro (([] : List SStep).map cSStep)]], .live .norm 2 [[.int .i64 w5, .ro (a0.map cSStep)]]]⟩) _ (by kernel_rfl) ?_
        refine W_gh ?_
        refine W_reg ?_
        refine O_ps 3 (by kernel_rfl) ?_
        refine O_nil ?_
        refine Gh_end (s1 := ⟨⟨39, [(0, .ro (a0.map cSStep)), (2, .pown 0 1 0 0), (3, .pown 1 1 0 0), (4, .int .i64 (addI .i64 s1.2 1))]⟩, [.live .norm 2 [[.int .i64 0, .ro (([] : List SStep).map cSStep)]], .live .norm 2 [[.int .i64 w5, .ro (a0.map cSStep)]]]⟩) _ (by kernel_rfl) ?_
        refine Gh_end (s1 := ⟨⟨39, [(0, .ro (a0.map cSStep)), (2, .pown 0 1 0 0), (3, .pown 1 1 0 0), (4, .int .i64 (addI .i64 s1.2 1))]⟩, [.live .norm 2 [[.int .i64 0, .ro (([] : List SStep).map cSStep)]], .live .norm 2 [[.int .i64 w5, .ro (a0.map cSStep)]]]⟩) _ (by kernel_rfl) ?_
        replace h := Option.some.inj h; subst h
        exact ⟨_, rfl, by kernel_rfl⟩
    · replace h := fork_f c3 h
      refine W_exit ?_
      refine X_hit ?_
      refine Gh_end (s1 := ⟨⟨39, [(0, .ro (a0.map cSStep)), (2, .pown 0 1 0 0), (3, .pown 1 1 0 0)]⟩, [.live .norm 2 [[.int .i64 0, .ro (([] : List SStep).map cSStep)]], .live .norm 2 [[.int .i64 s1.1, .ro (a0.map cSStep)]]]⟩) _ (by kernel_rfl) ?_
      replace h := Option.some.inj h; subst h
      exact ⟨_, rfl, by kernel_rfl⟩
  · refine W_seq ?_
    refine W_gh ?_
    refine W_reg ?_
    refine O_ps 2 (by kernel_rfl) ?_
    refine O_nil ?_
    refine Gh_end (s1 := ⟨⟨39, [(0, .ro (a0.map cSStep)), (2, .pown 0 1 0 0)]⟩, [.live .norm 2 [[.int .i64 w2, .ro (a0.map cSStep)]], .live .norm 2 [[.int .i64 w2, .ro (a0.map cSStep)]]]⟩) _ (by kernel_rfl) ?_
    refine W_ret ?_
    replace h := Option.some.inj h; subst h
    exact Fin_free (l := [.agg [.int .i64 w2, .ro (a0.map cSStep)]]) (by kernel_rfl) (by kernel_rfl) (bels_cons rfl (bels_cons (ro_bel okSStep.bel _) rfl))

theorem p76 (a0 : SStep) (a1 : (List Bool)) (r : Bool) (h : m76 a0 a1 = some r) : Pt E0 hp 76 [.agg (cSStep a0), .ro (a1.map cB)] (.bool r) := by
  unfold m76 at h
  refine Pt_W (fn76) rfl (by decide) ?_
  refine W_seq ?_
  refine W_gh ?_
  refine W_reg ?_
  refine O_ps 2 (by kernel_rfl) ?_
  refine O_nil ?_
  refine Gh_end (s1 := ⟨⟨34, [(1, .ro (a1.map cB)), (2, .pown 0 1 0 0)]⟩, [.live .norm 2 [[.ro (a0.Strokes.map cSStroke), .int .i64 a0.Wait]]]⟩) _ (by kernel_rfl) ?_
  refine W_seq ?_
  refine W_seq ?_
  refine W_reg ?_
  refine O_ps 1 (by kernel_rfl) ?_
  refine O_nil ?_
  refine W_loop (fun s1 : Int => ⟨⟨34, [(1, .ro (a1.map cB)), (2, .pown 0 1 0 0), (5, .int .i64 s1)]⟩, [.live .norm 2 [[.ro (a0.Strokes.map cSStroke), .int .i64 a0.Wait]]]⟩) (fun w2 : Unit => ⟨⟨34, [(1, .ro (a1.map cB))]⟩, [.live .norm 2 [[.ro (a0.Strokes.map cSStroke), .int .i64 a0.Wait]]]⟩) h (by kernel_rfl) (fun s1 c h => ?_) (fun w2 h => ?_)
  · refine W_gh ?_
    refine W_seq ?_
    refine W_seq ?_
    refine W_gh ?_
    refine W_reg ?_
    refine O_ps 3 (by kernel_rfl) ?_
    refine O_len (l := a0.Strokes) cSStroke (by kernel_rfl) (by kernel_rfl) ?_
    refine O_ps 1 (by kernel_rfl) ?_
    refine O_nil ?_
    refine Gh_end (s1 := ⟨⟨34, [(1, .ro (a1.map cB)), (2, .pown 0 1 0 0), (5, .int .i64 s1), (11, .bool (decide (s1 < (a0.Strokes.length : Int))))]⟩, [.live .norm 2 [[.ro (a0.Strokes.map cSStroke), .int .i64 a0.Wait]]]⟩) _ (by kernel_rfl) ?_
    refine W_gh ?_
    refine W_cond (c := (decide (s1 < (a0.Strokes.length : Int)))) (by kernel_rfl) (fun c3 => ?_) (fun c3 => ?_)
    · replace h := fork_t c3 h
      refine W_skip ?_
      refine Gh_end (s1 := ⟨⟨34, [(1, .ro (a1.map cB)), (2, .pown 0 1 0 0), (5, .int .i64 s1)]⟩, [.live .norm 2 [[.ro (a0.Strokes.map cSStroke), .int .i64 a0.Wait]]]⟩) _ (by kernel_rfl) ?_
      refine W_seq ?_
      refine W_gh ?_
      refine W_block ?_
      refine W_seq ?_
      refine W_gh ?_
      refine W_reg ?_
      refine O_ps 3 (by kernel_rfl) ?_
      refine O_idx (kd := .i64) cSStroke h (fun _ => rfl) (by kernel_rfl) (by kernel_rfl) (by kernel_rfl) (fun v4 e_v4 h => ?_)
      refine O_ps 3 (by kernel_rfl) ?_
      refine O_nil ?_
      refine Gh_end (s1 := ⟨⟨34, [(1, .ro (a1.map cB)), (2, .pown 0 1 0 0), (5, .int .i64 s1), (6, .pown 1 1 0 0)]⟩, [.live .norm 2 [[.ro (a0.Strokes.map cSStroke), .int .i64 a0.Wait]], .live .norm 2 [[.int .i64 v4.Actuator, .bool v4.Out]]]⟩) _ (by kernel_rfl) ?_
      refine W_seq ?_
      refine W_joinS (fun v : Bool => ⟨⟨34, [(1, .ro (a1.map cB)), (2, .pown 0 1 0 0), (5, .int .i64 s1), (33, .bool v)]⟩, [.live .norm 2 [[.ro (a0.Strokes.map cSStroke), .int .i64 a0.Wait]], .live .norm 2 [[.int .i64 v4.Actuator, .bool v4.Out]]]⟩) h (fun w h => ?_) (fun w5 e_w5 h => ?_)
      · refine W_gh ?_
        refine W_draw ?_
        refine O_ps 3 (by kernel_rfl) ?_
        refine O_len (l := a1) cB (by kernel_rfl) (by kernel_rfl) ?_
        refine O_ps 2 (by kernel_rfl) ?_
        refine O_fork (n := 24) (decide (v4.Actuator ≥ (a1.length : Int))) (by kernel_rfl) (fun c6 => ?_) (fun c6 => ?_)
        · replace h := fork_t c6 h
          refine O_ps 9 (by kernel_rfl) ?_
          refine O_nil ?_
          refine Gh_end (s1 := ⟨⟨34, [(1, .ro (a1.map cB)), (2, .pown 0 1 0 0), (5, .int .i64 s1), (33, .bool true)]⟩, [.live .norm 2 [[.ro (a0.Strokes.map cSStroke), .int .i64 a0.Wait]], .live .norm 2 [[.int .i64 v4.Actuator, .bool v4.Out]]]⟩) _ (by kernel_rfl) ?_
          replace h := Option.some.inj h; subst h
          show _ = _
          kernel_rfl
        · replace h := fork_f c6 h
          refine O_ps 3 (by kernel_rfl) ?_
          refine O_idx (kd := .i64) cB h (fun _ => rfl) (by kernel_rfl) (by kernel_rfl) (by kernel_rfl) (fun v7 e_v7 h => ?_)
          refine O_ps 5 (by kernel_rfl) ?_
          refine O_nil ?_
          refine Gh_end (s1 := ⟨⟨34, [(1, .ro (a1.map cB)), (2, .pown 0 1 0 0), (5, .int .i64 s1), (33, .bool ((v7 == v4.Out) != false))]⟩, [.live .norm 2 [[.ro (a0.Strokes.map cSStroke), .int .i64 a0.Wait]], .live .norm 2 [[.int .i64 v4.Actuator, .bool v4.Out]]]⟩) _ (by kernel_rfl) ?_
          replace h := Option.some.inj h; subst h
          show _ = _
          kernel_rfl
      · refine W_gh ?_
        refine W_cond (c := w5) (by kernel_rfl) (fun c8 => ?_) (fun c8 => ?_)
        · replace h := fork_t c8 h
          refine W_seq ?_
          refine W_reg ?_
          refine O_ps 1 (by kernel_rfl) ?_
          refine O_nil ?_
          refine W_ret ?_
          replace h := Option.some.inj h; subst h
          refine ⟨_, rfl, fun h => ?_⟩
          replace h := Option.some.inj h; subst h
          exact Fin_free (l := [.bool false]) (by kernel_rfl) (by kernel_rfl) rfl
        · replace h := fork_f c8 h
          refine W_skip ?_
          refine Gh_end (s1 := ⟨⟨34, [(1, .ro (a1.map cB)), (2, .pown 0 1 0 0), (5, .int .i64 s1)]⟩, [.live .norm 2 [[.ro (a0.Strokes.map cSStroke), .int .i64 a0.Wait]], .live .norm 2 [[.int .i64 v4.Actuator, .bool v4.Out]]]⟩) _ (by kernel_rfl) ?_
          refine Gh_one (s1 := ⟨⟨34, [(1, .ro (a1.map cB)), (2, .pown 0 1 0 0), (5, .int .i64 s1)]⟩, [.live .norm 2 [[.ro (a0.Strokes.map cSStroke), .int .i64 a0.Wait]], .live .norm 2 [[.int .i64 v4.Actuator, .bool v4.Out]]]⟩) (by kernel_rfl) ?_
          refine Gh_at (s1 := ⟨⟨34, [(1, .ro (a1.map cB)), (2, .pown 0 1 0 0), (5, .int .i64 s1)]⟩, [.live .norm 2 [[.ro (a0.Strokes.map cSStroke), .int .i64 a0.Wait]], .live .norm 2 [[.int .i64 v4.Actuator, .bool v4.Out]]]⟩) (by kernel_rfl) ?_
          refine Gh_trunc (s1 := ⟨⟨34, [(1, .ro (a1.map cB)), (2, .pown 0 1 0 0), (5, .int .i64 s1)]⟩, [.live .norm 2 [[.ro (a0.Strokes.map cSStroke), .int .i64 a0.Wait]]]⟩) (by kernel_rfl) (tb_free (ro_bel okB.bel _) (tb_ref rfl (tb_free rfl rfl))) (H1 := [.live .norm 2 [[.ro (a0.Strokes.map cSStroke), .int .i64 a0.Wait]]]) (by kernel_rfl) (ob_boxn (bn_free (ro_bel okSStroke.bel _) (bn_free rfl rfl)) rfl) (by kernel_rfl) ?_
          refine Gh_nil ?_
          refine W_gh ?_
          refine W_reg ?_
          refine O_ps 3 (by kernel_rfl) ?_
          refine O_nil ?_
          refine Gh_end (s1 := ⟨⟨34, [(1, .ro (a1.map cB)), (2, .pown 0 1 0 0), (5, .int .i64 (addI .i64 s1 1))]⟩, [.live .norm 2 [[.ro (a0.Strokes.map cSStroke), .int .i64 a0.Wait]]]⟩) _ (by kernel_rfl) ?_
          refine Gh_one (s1 := ⟨⟨34, [(1, .ro (a1.map cB)), (2, .pown 0 1 0 0), (5, .int .i64 (addI .i64 s1 1))]⟩, [.live .norm 2 [[.ro (a0.Strokes.map cSStroke), .int .i64 a0.Wait]]]⟩) (by kernel_rfl) ?_
          refine Gh_trunc0 (by kernel_rfl) ?_
          refine Gh_nil ?_
          replace h := Option.some.inj h; subst h
          exact ⟨_, rfl, by kernel_rfl⟩
    · replace h := fork_f c3 h
      refine W_exit ?_
      refine X_hit ?_
      refine Gh_one (s1 := ⟨⟨34, [(1, .ro (a1.map cB))]⟩, [.live .norm 2 [[.ro (a0.Strokes.map cSStroke), .int .i64 a0.Wait]]]⟩) (by kernel_rfl) ?_
      refine Gh_trunc0 (by kernel_rfl) ?_
      refine Gh_nil ?_
      replace h := Option.some.inj h; subst h
      exact ⟨_, rfl, by kernel_rfl⟩
  · refine W_seq ?_
    refine W_reg ?_
    refine O_ps 1 (by kernel_rfl) ?_
    refine O_nil ?_
    refine W_ret ?_
    replace h := Option.some.inj h; subst h
    exact Fin_free (l := [.bool true]) (by kernel_rfl) (by kernel_rfl) rfl

theorem p77 (a0 : SStep) (a1 : (List Bool)) (r : (List Bool)) (h : m77 a0 a1 = some r) : Pt E0 hp 77 [.agg (cSStep a0), .ro (a1.map cB)] (.ro (r.map cB)) := by
  unfold m77 at h
  refine Pt_W (fn77) rfl (by decide) ?_
  refine W_seq ?_
  refine W_gh ?_
  refine W_reg ?_
  refine O_ps 2 (by kernel_rfl) ?_
  refine O_nil ?_
  refine Gh_end (s1 := ⟨⟨32, [(1, .ro (a1.map cB)), (2, .pown 0 1 0 0)]⟩, [.live .norm 2 [[.ro (a0.Strokes.map cSStroke), .int .i64 a0.Wait]]]⟩) _ (by kernel_rfl) ?_
  refine W_seq ?_
  refine W_gh ?_
  refine W_reg ?_
  refine O_ps 2 (by kernel_rfl) ?_
  refine O_app (C := cB) (id := 1) (nl := .norm) okB h rfl (by kernel_rfl) (by kernel_rfl) (by kernel_rfl) (by kernel_rfl) rfl (fun l1 e_l1 h => ?_)
  refine O_ps 1 (by kernel_rfl) ?_
  refine O_nil ?_
  refine Gh_one (s1 := ⟨⟨32, [(2, .pown 0 1 0 0), (5, .own 1 l1.length 0 l1.length)]⟩, [.live .norm 2 [[.ro (a0.Strokes.map cSStroke), .int .i64 a0.Wait]], .live .norm 1 (l1.map cB)]⟩) (by kernel_rfl) ?_
  refine Gh_trunc0 (by kernel_rfl) ?_
  refine Gh_nil ?_
  refine W_seq ?_
  refine W_seq ?_
  refine W_reg ?_
  refine O_ps 1 (by kernel_rfl) ?_
  refine O_nil ?_
  refine W_loopS (fun s2 : (List Bool) × Int => ⟨⟨32, [(2, .pown 0 1 0 0), (5, .own 1 s2.1.length 0 s2.1.length), (6, .int .i64 s2.2)]⟩, [.live .norm 2 [[.ro (a0.Strokes.map cSStroke), .int .i64 a0.Wait]], .live .norm 1 (s2.1.map cB)]⟩) (fun w3 : (List Bool) => ⟨⟨32, [(5, .own 1 w3.length 0 w3.length)]⟩, [.live .norm 2 [[.ro (a0.Strokes.map cSStroke), .int .i64 a0.Wait]], .live .norm 1 (w3.map cB)]⟩) h (by kernel_rfl) (fun s2 c h => ?_) (fun w3 e_w3 h => ?_)
  · refine W_gh ?_
    refine W_seq ?_
    refine W_seq ?_
    refine W_gh ?_
    refine W_reg ?_
    refine O_ps 3 (by kernel_rfl) ?_
    refine O_len (l := a0.Strokes) cSStroke (by kernel_rfl) (by kernel_rfl) ?_
    refine O_ps 1 (by kernel_rfl) ?_
    refine O_nil ?_
    refine Gh_end (s1 := ⟨⟨32, [(2, .pown 0 1 0 0), (5, .own 1 s2.1.length 0 s2.1.length), (6, .int .i64 s2.2), (14, .bool (decide (s2.2 < (a0.Strokes.length : Int))))]⟩, [.live .norm 2 [[.ro (a0.Strokes.map cSStroke), .int .i64 a0.Wait]], .live .norm 1 (s2.1.map cB)]⟩) _ (by kernel_rfl) ?_
    refine W_gh ?_
    refine W_cond (c := (decide (s2.2 < (a0.Strokes.length : Int)))) (by kernel_rfl) (fun c4 => ?_) (fun c4 => ?_)
    · replace h := fork_t c4 h
      refine W_skip ?_
      refine Gh_end (s1 := ⟨⟨32, [(2, .pown 0 1 0 0), (5, .own 1 s2.1.length 0 s2.1.length), (6, .int .i64 s2.2)]⟩, [.live .norm 2 [[.ro (a0.Strokes.map cSStroke), .int .i64 a0.Wait]], .live .norm 1 (s2.1.map cB)]⟩) _ (by kernel_rfl) ?_
      refine W_seq ?_
      refine W_block ?_
      refine W_gh ?_
      refine W_draw ?_
      refine O_ps 4 (by kernel_rfl) ?_
      refine O_idx (kd := .i64) cSStroke h (fun _ => rfl) (by kernel_rfl) (by kernel_rfl) (by kernel_rfl) (fun v5 e_v5 h => ?_)
      refine O_ps 5 (by kernel_rfl) ?_
      refine O_idx (kd := .i64) cSStroke h (fun _ => rfl) (by kernel_rfl) (by kernel_rfl) (by kernel_rfl) (fun v6 e_v6 h => ?_)
      refine O_ps 2 (by kernel_rfl) ?_
      refine O_iadO (kd := .i64) (id := 1) (nl := .norm) cB h rfl (by kernel_rfl) (by kernel_rfl) (by kernel_rfl) (by kernel_rfl) (fun v7 e_v7 h => ?_)
      refine O_stW (id := 1) (nl := .norm) (v' := v6.Out) cB e_v7 rfl rfl (fun _ => rfl) (by kernel_rfl) (by kernel_rfl) (by kernel_rfl) (cs := [.bool v6.Out]) (by kernel_rfl) (by kernel_rfl) rfl rfl rfl ?_
      refine O_nil ?_
      refine Gh_endn (s1 := ⟨⟨32, [(2, .pown 0 1 0 0), (5, .own 1 s2.1.length 0 s2.1.length), (6, .int .i64 s2.2)]⟩, [.live .norm 2 [[.ro (a0.Strokes.map cSStroke), .int .i64 a0.Wait]], .live .norm 1 ((s2.1.set v5.Actuator.toNat v6.Out).map cB)]⟩) (s2 := ⟨⟨32, [(2, .pown 0 1 0 0), (5, .own 1 ((s2.1.set v5.Actuator.toNat v6.Out).length) 0 ((s2.1.set v5.Actuator.toNat v6.Out).length)), (6, .int .i64 s2.2)]⟩, [.live .norm 2 [[.ro (a0.Strokes.map cSStroke), .int .i64 a0.Wait]], .live .norm 1 ((s2.1.set v5.Actuator.toNat v6.Out).map cB)]⟩) _ (by kernel_rfl) (by simp only [List.length_set]) ?_
      refine W_gh ?_
      refine W_reg ?_
      refine O_ps 3 (by kernel_rfl) ?_
      refine O_nil ?_
      refine Gh_end (s1 := ⟨⟨32, [(2, .pown 0 1 0 0), (5, .own 1 ((s2.1.set v5.Actuator.toNat v6.Out).length) 0 ((s2.1.set v5.Actuator.toNat v6.Out).length)), (6, .int .i64 (addI .i64 s2.2 1))]⟩, [.live .norm 2 [[.ro (a0.Strokes.map cSStroke), .int .i64 a0.Wait]], .live .norm 1 ((s2.1.set v5.Actuator.toNat v6.Out).map cB)]⟩) _ (by kernel_rfl) ?_
      refine Gh_end (s1 := ⟨⟨32, [(2, .pown 0 1 0 0), (5, .own 1 ((s2.1.set v5.Actuator.toNat v6.Out).length) 0 ((s2.1.set v5.Actuator.toNat v6.Out).length)), (6, .int .i64 (addI .i64 s2.2 1))]⟩, [.live .norm 2 [[.ro (a0.Strokes.map cSStroke), .int .i64 a0.Wait]], .live .norm 1 ((s2.1.set v5.Actuator.toNat v6.Out).map cB)]⟩) _ (by kernel_rfl) ?_
      replace h := Option.some.inj h; subst h
      exact ⟨_, rfl, by kernel_rfl⟩
    · replace h := fork_f c4 h
      refine W_exit ?_
      refine X_hit ?_
      refine Gh_end (s1 := ⟨⟨32, [(5, .own 1 s2.1.length 0 s2.1.length)]⟩, [.live .norm 2 [[.ro (a0.Strokes.map cSStroke), .int .i64 a0.Wait]], .live .norm 1 (s2.1.map cB)]⟩) _ (by kernel_rfl) ?_
      replace h := Option.some.inj h; subst h
      exact ⟨_, rfl, by kernel_rfl⟩
  · refine W_seq ?_
    refine W_gh ?_
    refine W_reg ?_
    refine O_ps 2 (by kernel_rfl) ?_
    refine O_nil ?_
    refine Gh_end (s1 := ⟨⟨32, [(4, .own 1 w3.length 0 w3.length)]⟩, [.live .norm 2 [[.ro (a0.Strokes.map cSStroke), .int .i64 a0.Wait]], .live .norm 1 (w3.map cB)]⟩) _ (by kernel_rfl) ?_
    refine W_ret ?_
    replace h := Option.some.inj h; subst h
    exact Fin_pk (l := [.own 1 w3.length 0 w3.length]) (by kernel_rfl) (pk_own (d := 5) (id := 1) (nl := .norm) (sz := 1) (l := w3) okB.bel (by kernel_rfl) rfl)
end G18
