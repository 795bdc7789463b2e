/- The code computes the models, printed by a program of mine (dec.py). No condition. -/
import Derived.Test.YtoobbcmofleljaaDoorG18p1
import Derived.Test.YtoobbcmofleljaaDoorG18x
namespace G18
open Go Go.Pl Go.Am Go.Am.As
set_option linter.unusedVariables false
set_option linter.unusedSimpArgs false
set_option maxHeartbeats 1000000

theorem p12  (r : Bool) (h : m12  = some r) : Pt E0 hp 12 [] (.bool r) := by
  unfold m12 at h
  refine Pt_W (fn12) rfl (by decide) ?_
  refine W_seq ?_
  refine W_gh ?_
  refine W_reg ?_
  refine O_p 1 ?_
  refine O_nil ?_
  refine Gh_e ⟨⟨90, []⟩, []⟩ ?_
  refine W_seq ?_
  refine W_gh ?_
  refine W_reg ?_
  refine O_call (fun v => .agg [.i v.Actuators, .ro (v.Steps.map cSStep)]) h (.inr rfl) (ys := [.str [65, 43, 59, 32, 66, 43, 59, 32, 66, 45, 59, 32, 65, 45]]) (fun _ e => p34 _ _ e) (by kernel_rfl) (by kernel_rfl) (bels_cons rfl rfl) (fun v1 e_v1 h => ?_)
  refine O_call (fun v => .tup [.ro (v.1.map cI_i64), .i v.2]) h (.inr rfl) (ys := [.agg (cSSequence v1)]) (fun _ e => p16 _ _ e) (by kernel_rfl) (by kernel_rfl) (bels_cons (okSSequence.bel _) rfl) (fun v2 e_v2 h => ?_)
  refine O_p 5 ?_
  refine O_nil ?_
  refine Gh_e ⟨⟨90, [(1, .ro (v2.1.map cI_i64)), (2, .i v2.2)]⟩, []⟩ ?_
  refine W_seq ?_
  refine W_gh ?_
  refine W_reg ?_
  refine O_call (fun v => .agg [.i v.Actuators, .ro (v.Steps.map cSStep)]) h (.inr rfl) (ys := [.str [65, 43, 59, 32, 65, 45, 59, 32, 66, 43, 59, 32, 66, 45]]) (fun _ e => p34 _ _ e) (by kernel_rfl) (by kernel_rfl) (bels_cons rfl rfl) (fun v3 e_v3 h => ?_)
  refine O_call (fun v => .tup [.ro (v.1.map cI_i64), .i v.2]) h (.inr rfl) (ys := [.agg (cSSequence v3)]) (fun _ e => p16 _ _ e) (by kernel_rfl) (by kernel_rfl) (bels_cons (okSSequence.bel _) rfl) (fun v4 e_v4 h => ?_)
  refine O_p 5 ?_
  refine O_nil ?_
  refine Gh_e ⟨⟨90, [(1, .ro (v2.1.map cI_i64)), (2, .i v2.2), (3, .ro (v4.1.map cI_i64)), (4, .i v4.2)]⟩, []⟩ ?_
  refine W_seq ?_
  refine W_gh ?_
  refine W_reg ?_
  refine O_call (fun v => .agg [.i v.Actuators, .ro (v.Steps.map cSStep)]) h (.inr rfl) (ys := [.str [65, 43, 59, 32, 65, 45, 59, 32, 66, 43, 59, 32, 66, 45]]) (fun _ e => p34 _ _ e) (by kernel_rfl) (by kernel_rfl) (bels_cons rfl rfl) (fun v5 e_v5 h => ?_)
  refine O_call (fun v => .tup [.ro (v.1.map cI_i64), .i v.2]) h (.inr rfl) (ys := [.agg (cSSequence v5)]) (fun _ e => p19 _ _ e) (by kernel_rfl) (by kernel_rfl) (bels_cons (okSSequence.bel _) rfl) (fun v6 e_v6 h => ?_)
  refine O_p 5 ?_
  refine O_nil ?_
  refine Gh_e ⟨⟨90, [(1, .ro (v2.1.map cI_i64)), (2, .i v2.2), (3, .ro (v4.1.map cI_i64)), (4, .i v4.2), (5, .ro (v6.1.map cI_i64)), (6, .i v6.2)]⟩, []⟩ ?_
  refine W_seq ?_
  refine W_gh ?_
  refine W_reg ?_
  refine O_call (fun v => .agg [.i v.Actuators, .ro (v.Steps.map cSStep)]) h (.inr rfl) (ys := [.str [65, 43, 59, 32, 66, 43, 59, 32, 65, 45, 59, 32, 67, 43, 59, 32, 66, 45, 59, 32, 67, 45]]) (fun _ e => p34 _ _ e) (by kernel_rfl) (by kernel_rfl) (bels_cons rfl rfl) (fun v7 e_v7 h => ?_)
  refine O_call (fun v => .tup [.ro (v.1.map cI_i64), .i v.2]) h (.inr rfl) (ys := [.agg (cSSequence v7)]) (fun _ e => p16 _ _ e) (by kernel_rfl) (by kernel_rfl) (bels_cons (okSSequence.bel _) rfl) (fun v8 e_v8 h => ?_)
  refine O_p 5 ?_
  refine O_nil ?_
  refine Gh_e ⟨⟨90, [(1, .ro (v2.1.map cI_i64)), (2, .i v2.2), (3, .ro (v4.1.map cI_i64)), (4, .i v4.2), (5, .ro (v6.1.map cI_i64)), (6, .i v6.2), (7, .ro (v8.1.map cI_i64)), (8, .i v8.2)]⟩, []⟩ ?_
  refine W_seq ?_
  refine W_seq ?_
  refine W_joinS (fun v : Bool => ⟨⟨90, [(62, .bool v)]⟩, []⟩) h (fun w h => ?_) (fun w9 e_w9 h => ?_)
  · refine W_gh ?_
    refine W_reg ?_
    refine O_p 9 ?_
    refine O_fork (n := 39) ((addI .i64 (addI .i64 (addI .i64 v2.2 v4.2) v6.2) v8.2) != 0) (by kernel_rfl) (fun c10 => ?_) (fun c10 => ?_)
    · replace h := fork_t c10 h
      refine O_p 23 ?_
      refine O_nil ?_
      refine Gh_one (s1 := ⟨⟨90, [(62, .bool true)]⟩, []⟩) (by kernel_rfl) ?_
      refine Gh_trunc0 (by kernel_rfl) ?_
      refine Gh_nil ?_
      replace h := Option.some.inj h; subst h
      show _ = _
      kernel_rfl
    · replace h := fork_f c10 h
      refine O_p 2 ?_
      refine O_lent (fun v => .bool v) h (.inr rfl) (ys := [.ro (v2.1.map cI_i64), .ro (([0, 2] : List Int).map cI_i64)]) (fun _ e => p18 _ _ _ e) (by kernel_rfl) (snaps_of (xs := [.ro (v2.1.map cI_i64), .own 0 2 0 2]) (by kernel_rfl) (mapO_cons (pk_free (ro_bel okI_i64.bel _)) (mapO_cons (pk_own (d := 5) (id := 0) (nl := .norm) (sz := 1) (l := ([0, 2] : List Int)) okI_i64.bel (by kernel_rfl) rfl) rfl))) (fun _ => rfl) (fun v11 e_v11 h => ?_)
      refine O_p 3 ?_
      refine O_fork (n := 45) (!v11) (by kernel_rfl) (fun c12 => ?_) (fun c12 => ?_)
      · replace h := fork_t c12 h
        refine O_p 17 ?_
        refine O_nil ?_
        refine Gh_one (s1 := ⟨⟨90, [(62, .bool true)]⟩, [.live .norm 1 (([0, 2] : List Int).map cI_i64)]⟩) (by kernel_rfl) ?_
        refine Gh_at (s1 := ⟨⟨90, [(62, .bool true)]⟩, [.live .norm 1 (([0, 2] : List Int).map cI_i64)]⟩) (by kernel_rfl) ?_
        refine Gh_trunc (s1 := ⟨⟨90, [(62, .bool true)]⟩, []⟩) (by kernel_rfl) (tb_free rfl rfl) (H1 := []) (by kernel_rfl) rfl (by kernel_rfl) ?_
        refine Gh_nil ?_
        replace h := Option.some.inj h; subst h
        show _ = _
        kernel_rfl
      · replace h := fork_f c12 h
        refine O_p 2 ?_
        refine O_lent (fun v => .bool v) h (.inr rfl) (ys := [.ro (v4.1.map cI_i64), .ro (([0, 1, 3] : List Int).map cI_i64)]) (fun _ e => p18 _ _ _ e) (by kernel_rfl) (snaps_of (xs := [.ro (v4.1.map cI_i64), .own 1 3 0 3]) (by kernel_rfl) (mapO_cons (pk_free (ro_bel okI_i64.bel _)) (mapO_cons (pk_own (d := 5) (id := 1) (nl := .norm) (sz := 1) (l := ([0, 1, 3] : List Int)) okI_i64.bel (by kernel_rfl) rfl) rfl))) (fun _ => rfl) (fun v13 e_v13 h => ?_)
        refine O_p 3 ?_
        refine O_fork (n := 51) (!v13) (by kernel_rfl) (fun c14 => ?_) (fun c14 => ?_)
        · replace h := fork_t c14 h
          refine O_p 11 ?_
          refine O_nil ?_
          refine Gh_one (s1 := ⟨⟨90, [(62, .bool true)]⟩, [.live .norm 1 (([0, 2] : List Int).map cI_i64), .live .norm 1 (([0, 1, 3] : List Int).map cI_i64)]⟩) (by kernel_rfl) ?_
          refine Gh_at (s1 := ⟨⟨90, [(62, .bool true)]⟩, [.live .norm 1 (([0, 2] : List Int).map cI_i64), .live .norm 1 (([0, 1, 3] : List Int).map cI_i64)]⟩) (by kernel_rfl) ?_
          refine Gh_trunc (s1 := ⟨⟨90, [(62, .bool true)]⟩, []⟩) (by kernel_rfl) (tb_free rfl rfl) (H1 := []) (by kernel_rfl) rfl (by kernel_rfl) ?_
          refine Gh_nil ?_
          replace h := Option.some.inj h; subst h
          show _ = _
          kernel_rfl
        · replace h := fork_f c14 h
          refine O_p 2 ?_
          refine O_lent (fun v => .bool v) h (.inr rfl) (ys := [.ro (v6.1.map cI_i64), .ro (([1, 3] : List Int).map cI_i64)]) (fun _ e => p18 _ _ _ e) (by kernel_rfl) (snaps_of (xs := [.ro (v6.1.map cI_i64), .own 2 2 0 2]) (by kernel_rfl) (mapO_cons (pk_free (ro_bel okI_i64.bel _)) (mapO_cons (pk_own (d := 5) (id := 2) (nl := .norm) (sz := 1) (l := ([1, 3] : List Int)) okI_i64.bel (by kernel_rfl) rfl) rfl))) (fun _ => rfl) (fun v15 e_v15 h => ?_)
          refine O_p 3 ?_
          refine O_fork (n := 57) (!v15) (by kernel_rfl) (fun c16 => ?_) (fun c16 => ?_)
          · replace h := fork_t c16 h
            refine O_p 5 ?_
            refine O_nil ?_
            refine Gh_one (s1 := ⟨⟨90, [(62, .bool true)]⟩, [.live .norm 1 (([0, 2] : List Int).map cI_i64), .live .norm 1 (([0, 1, 3] : List Int).map cI_i64), .live .norm 1 (([1, 3] : List Int).map cI_i64)]⟩) (by kernel_rfl) ?_
            refine Gh_at (s1 := ⟨⟨90, [(62, .bool true)]⟩, [.live .norm 1 (([0, 2] : List Int).map cI_i64), .live .norm 1 (([0, 1, 3] : List Int).map cI_i64), .live .norm 1 (([1, 3] : List Int).map cI_i64)]⟩) (by kernel_rfl) ?_
            refine Gh_trunc (s1 := ⟨⟨90, [(62, .bool true)]⟩, []⟩) (by kernel_rfl) (tb_free rfl rfl) (H1 := []) (by kernel_rfl) rfl (by kernel_rfl) ?_
            refine Gh_nil ?_
            replace h := Option.some.inj h; subst h
            show _ = _
            kernel_rfl
          · replace h := fork_f c16 h
            refine O_p 2 ?_
            refine O_lent (fun v => .bool v) h (.inr rfl) (ys := [.ro (v8.1.map cI_i64), .ro (([0, 2, 5] : List Int).map cI_i64)]) (fun _ e => p18 _ _ _ e) (by kernel_rfl) (snaps_of (xs := [.ro (v8.1.map cI_i64), .own 3 3 0 3]) (by kernel_rfl) (mapO_cons (pk_free (ro_bel okI_i64.bel _)) (mapO_cons (pk_own (d := 5) (id := 3) (nl := .norm) (sz := 1) (l := ([0, 2, 5] : List Int)) okI_i64.bel (by kernel_rfl) rfl) rfl))) (fun _ => rfl) (fun v17 e_v17 h => ?_)
            refine O_p 2 ?_
            refine O_nil ?_
            refine Gh_one (s1 := ⟨⟨90, [(62, .bool (!v17))]⟩, [.live .norm 1 (([0, 2] : List Int).map cI_i64), .live .norm 1 (([0, 1, 3] : List Int).map cI_i64), .live .norm 1 (([1, 3] : List Int).map cI_i64), .live .norm 1 (([0, 2, 5] : List Int).map cI_i64)]⟩) (by kernel_rfl) ?_
            refine Gh_at (s1 := ⟨⟨90, [(62, .bool (!v17))]⟩, [.live .norm 1 (([0, 2] : List Int).map cI_i64), .live .norm 1 (([0, 1, 3] : List Int).map cI_i64), .live .norm 1 (([1, 3] : List Int).map cI_i64), .live .norm 1 (([0, 2, 5] : List Int).map cI_i64)]⟩) (by kernel_rfl) ?_
            refine Gh_trunc (s1 := ⟨⟨90, [(62, .bool (!v17))]⟩, []⟩) (by kernel_rfl) (tb_free rfl rfl) (H1 := []) (by kernel_rfl) rfl (by kernel_rfl) ?_
            refine Gh_nil ?_
            replace h := Option.some.inj h; subst h
            show _ = _
            kernel_rfl
  · refine W_gh ?_
    refine W_cond (c := w9) (by kernel_rfl) (fun c18 => ?_) (fun c18 => ?_)
    · replace h := fork_t c18 h
      refine W_seq ?_
      refine W_reg ?_
      refine O_p 1 ?_
      refine O_nil ?_
      refine W_ret ?_
      replace h := Option.some.inj h; subst h
      exact Fin_free (l := [.bool false]) (by kernel_rfl) (by kernel_rfl) rfl
    · replace h := fork_f c18 h
      refine W_skip ?_
      refine Gh_e ⟨⟨90, []⟩, []⟩ ?_
      refine W_seq ?_
      refine W_gh ?_
      refine W_reg ?_
      refine O_call (fun v => .agg [.i v.Actuators, .ro (v.Steps.map cSStep)]) h (.inr rfl) (ys := [.str [65, 43, 59, 32, 66, 43, 59, 32, 66, 45, 59, 32, 65, 45]]) (fun _ e => p34 _ _ e) (by kernel_rfl) (by kernel_rfl) (bels_cons rfl rfl) (fun v19 e_v19 h => ?_)
      refine O_p 2 ?_
      refine O_lent (fun v => .tup [.i v.1, .i v.2]) h (.inr rfl) (ys := [.agg (cSSequence v19), .ro (([(1, 2)] : List (Int × Int)).map (cP2 cI_i64))]) (fun _ e => p13 _ _ _ e) (by kernel_rfl) (snaps_of (xs := [.agg [.i v19.Actuators, .ro (v19.Steps.map cSStep)], .own 0 1 0 1]) (by kernel_rfl) (mapO_cons (pk_free (okSSequence.bel _)) (mapO_cons (pk_own (d := 5) (id := 0) (nl := .norm) (sz := 2) (l := ([(1, 2)] : List (Int × Int))) (okP2 okI_i64).bel (by kernel_rfl) rfl) rfl))) (fun _ => rfl) (fun v20 e_v20 h => ?_)
      refine O_p 5 ?_
      refine O_nil ?_
      refine Gh_one (s1 := ⟨⟨90, [(2, .i v20.2), (9, .i v20.1)]⟩, [.live .norm 2 (([(1, 2)] : List (Int × Int)).map (cP2 cI_i64))]⟩) (by kernel_rfl) ?_
      refine Gh_at (s1 := ⟨⟨90, [(2, .i v20.2), (9, .i v20.1)]⟩, [.live .norm 2 (([(1, 2)] : List (Int × Int)).map (cP2 cI_i64))]⟩) (by kernel_rfl) ?_
      refine Gh_trunc (s1 := ⟨⟨90, [(2, .i v20.2), (9, .i v20.1)]⟩, []⟩) (by kernel_rfl) (tb_free rfl (tb_free rfl rfl)) (H1 := []) (by kernel_rfl) rfl (by kernel_rfl) ?_
      refine Gh_nil ?_
      refine W_seq ?_
      refine W_gh ?_
      refine W_reg ?_
      refine O_call (fun v => .agg [.i v.Actuators, .ro (v.Steps.map cSStep)]) h (.inr rfl) (ys := [.str [65, 43, 59, 32, 66, 43, 59, 32, 65, 45, 59, 32, 67, 43, 59, 32, 66, 45, 59, 32, 67, 45]]) (fun _ e => p34 _ _ e) (by kernel_rfl) (by kernel_rfl) (bels_cons rfl rfl) (fun v21 e_v21 h => ?_)
      refine O_p 3 ?_
      refine O_lent (fun v => .tup [.i v.1, .i v.2]) h (.inr rfl) (ys := [.agg (cSSequence v21), .ro (([(0, 2), (3, 5)] : List (Int × Int)).map (cP2 cI_i64))]) (fun _ e => p13 _ _ _ e) (by kernel_rfl) (snaps_of (xs := [.agg [.i v21.Actuators, .ro (v21.Steps.map cSStep)], .own 0 2 0 2]) (by kernel_rfl) (mapO_cons (pk_free (okSSequence.bel _)) (mapO_cons (pk_own (d := 5) (id := 0) (nl := .norm) (sz := 2) (l := ([(0, 2), (3, 5)] : List (Int × Int))) (okP2 okI_i64).bel (by kernel_rfl) rfl) rfl))) (fun _ => rfl) (fun v22 e_v22 h => ?_)
      refine O_p 5 ?_
      refine O_nil ?_
      refine Gh_one (s1 := ⟨⟨90, [(2, .i v20.2), (4, .i v22.2), (9, .i v20.1), (10, .i v22.1)]⟩, [.live .norm 2 (([(0, 2), (3, 5)] : List (Int × Int)).map (cP2 cI_i64))]⟩) (by kernel_rfl) ?_
      refine Gh_at (s1 := ⟨⟨90, [(2, .i v20.2), (4, .i v22.2), (9, .i v20.1), (10, .i v22.1)]⟩, [.live .norm 2 (([(0, 2), (3, 5)] : List (Int × Int)).map (cP2 cI_i64))]⟩) (by kernel_rfl) ?_
      refine Gh_trunc (s1 := ⟨⟨90, [(2, .i v20.2), (4, .i v22.2), (9, .i v20.1), (10, .i v22.1)]⟩, []⟩) (by kernel_rfl) (tb_free rfl (tb_free rfl (tb_free rfl (tb_free rfl rfl)))) (H1 := []) (by kernel_rfl) rfl (by kernel_rfl) ?_
      refine Gh_nil ?_
      refine W_seq ?_
      refine W_cut ⟨⟨90, [(0, .bool (((addI .i64 v20.2 v22.2) == 0) && ((v20.1 == 2) && (v22.1 == 3))))]⟩, []⟩ ?_ ?_
      · generalize e_g23 : (((addI .i64 v20.2 v22.2) == 0) && ((v20.1 == 2) && (v22.1 == 3))) = g23
        refine W_gh ?_
        refine W_reg ?_
        refine O_p 5 ?_
        refine O_fork (n := 82) ((addI .i64 v20.2 v22.2) == 0) (by kernel_rfl) (fun c24 => ?_) (fun c24 => ?_)
        · skip
          refine O_p 4 ?_
          refine O_fork (n := 86) (v20.1 == 2) (by kernel_rfl) (fun c25 => ?_) (fun c25 => ?_)
          · skip
            refine O_p 4 ?_
            refine O_nil ?_
            refine Gh_e ⟨⟨90, [(0, .bool (v22.1 == 3))]⟩, []⟩ ?_
            have q := e_g23; simp only [c18, c24, c25, cond_true, cond_false, Bool.true_and, Bool.false_and, Bool.true_or, Bool.false_or] at q; subst q
            show _ = _
            kernel_rfl
          · skip
            refine O_p 4 ?_
            refine O_nil ?_
            refine Gh_e ⟨⟨90, [(0, .bool false)]⟩, []⟩ ?_
            have q := e_g23; simp only [c18, c24, c25, cond_true, cond_false, Bool.true_and, Bool.false_and, Bool.true_or, Bool.false_or] at q; subst q
            show _ = _
            kernel_rfl
        · skip
          refine O_p 8 ?_
          refine O_nil ?_
          refine Gh_e ⟨⟨90, [(0, .bool false)]⟩, []⟩ ?_
          have q := e_g23; simp only [c18, c24, cond_true, cond_false, Bool.true_and, Bool.false_and, Bool.true_or, Bool.false_or] at q; subst q
          show _ = _
          kernel_rfl
      · refine W_ret ?_
        replace h := Option.some.inj h; subst h
        exact Fin_free (l := [.bool (((addI .i64 v20.2 v22.2) == 0) && ((v20.1 == 2) && (v22.1 == 3)))]) (by kernel_rfl) (by kernel_rfl) rfl

theorem p65 (a0 : SSequence) (a1 : (List Int)) (a2 : Bool) (r : Int) (h : m65 a0 a1 a2 = some r) : Pt E0 hp 65 [.agg (cSSequence a0), .ro (a1.map cI_i64), .bool a2] (.i r) := by
  unfold m65 at h
  refine Pt_W (fn65) rfl (by decide) ?_
  refine W_seq ?_
  refine W_gh ?_
  refine W_reg ?_
  refine O_p 2 ?_
  refine O_nil ?_
  refine Gh_e ⟨⟨59, [(1, .ro (a1.map cI_i64)), (2, .bool a2), (3, .po 0 0)]⟩, [.lv 2 [.i a0.Actuators, .ro (a0.Steps.map cSStep)]]⟩ ?_
  refine W_seq ?_
  refine W_seq ?_
  refine W_gh ?_
  refine W_reg ?_
  refine O_p 1 ?_
  refine O_len (l := a1) cI_i64 (by kernel_rfl) (by kernel_rfl) ?_
  refine O_p 1 ?_
  refine O_nil ?_
  refine Gh_e ⟨⟨59, [(1, .ro (a1.map cI_i64)), (2, .bool a2), (3, .po 0 0), (10, .bool ((a1.length : Int) == 0))]⟩, [.lv 2 [.i a0.Actuators, .ro (a0.Steps.map cSStep)]]⟩ ?_
  refine W_gh ?_
  refine W_cond (c := ((a1.length : Int) == 0)) (by kernel_rfl) (fun c1 => ?_) (fun c1 => ?_)
  · replace h := fork_t c1 h
    refine W_seq ?_
    refine W_reg ?_
    refine O_p 1 ?_
    refine O_nil ?_
    refine W_ret ?_
    replace h := Option.some.inj h; subst h
    exact Fin_free (l := [.i 13]) (by kernel_rfl) (by kernel_rfl) rfl
  · replace h := fork_f c1 h
    refine W_skip ?_
    refine Gh_e ⟨⟨59, [(1, .ro (a1.map cI_i64)), (2, .bool a2), (3, .po 0 0)]⟩, [.lv 2 [.i a0.Actuators, .ro (a0.Steps.map cSStep)]]⟩ ?_
    refine W_seq ?_
    refine W_seq ?_
    refine W_gh ?_
    refine W_reg ?_
    refine O_p 1 ?_
    refine O_len (l := a1) cI_i64 (by kernel_rfl) (by kernel_rfl) ?_
    refine O_p 2 ?_
    refine O_len (l := a0.Steps) cSStep (by kernel_rfl) (by kernel_rfl) ?_
    refine O_p 1 ?_
    refine O_nil ?_
    refine Gh_e ⟨⟨59, [(1, .ro (a1.map cI_i64)), (2, .bool a2), (3, .po 0 0), (16, .bool (decide ((a1.length : Int) > (a0.Steps.length : Int))))]⟩, [.lv 2 [.i a0.Actuators, .ro (a0.Steps.map cSStep)]]⟩ ?_
    refine W_gh ?_
    refine W_cond (c := (decide ((a1.length : Int) > (a0.Steps.length : Int)))) (by kernel_rfl) (fun c2 => ?_) (fun c2 => ?_)
    · replace h := fork_t c2 h
      refine W_seq ?_
      refine W_reg ?_
      refine O_p 1 ?_
      refine O_nil ?_
      refine W_ret ?_
      replace h := Option.some.inj h; subst h
      exact Fin_free (l := [.i 5]) (by kernel_rfl) (by kernel_rfl) rfl
    · replace h := fork_f c2 h
      refine W_skip ?_
      refine Gh_e ⟨⟨59, [(1, .ro (a1.map cI_i64)), (2, .bool a2), (3, .po 0 0)]⟩, [.lv 2 [.i a0.Actuators, .ro (a0.Steps.map cSStep)]]⟩ ?_
      refine W_seq ?_
      refine W_seq ?_
      refine W_joinS (fun v : Bool => ⟨⟨59, [(1, .ro (a1.map cI_i64)), (3, .po 0 0), (23, .bool v)]⟩, [.lv 2 [.i a0.Actuators, .ro (a0.Steps.map cSStep)]]⟩) h (fun w h => ?_) (fun w3 e_w3 h => ?_)
      · refine W_gh ?_
        refine W_reg ?_
        refine O_p 2 ?_
        refine O_fork (n := 18) a2 (by kernel_rfl) (fun c4 => ?_) (fun c4 => ?_)
        · replace h := fork_t c4 h
          refine O_p 1 ?_
          refine O_idx (kd := .i64) cI_i64 h (fun _ => rfl) (by kernel_rfl) (by kernel_rfl) (by kernel_rfl) (fun v5 e_v5 h => ?_)
          refine O_p 3 ?_
          refine O_nil ?_
          refine Gh_e ⟨⟨59, [(1, .ro (a1.map cI_i64)), (3, .po 0 0), (23, .bool (v5 != 0))]⟩, [.lv 2 [.i a0.Actuators, .ro (a0.Steps.map cSStep)]]⟩ ?_
          replace h := Option.some.inj h; subst h
          show _ = _
          kernel_rfl
        · replace h := fork_f c4 h
          refine O_p 5 ?_
          refine O_nil ?_
          refine Gh_e ⟨⟨59, [(1, .ro (a1.map cI_i64)), (3, .po 0 0), (23, .bool false)]⟩, [.lv 2 [.i a0.Actuators, .ro (a0.Steps.map cSStep)]]⟩ ?_
          replace h := Option.some.inj h; subst h
          show _ = _
          kernel_rfl
      · refine W_gh ?_
        refine W_cond (c := w3) (by kernel_rfl) (fun c6 => ?_) (fun c6 => ?_)
        · replace h := fork_t c6 h
          refine W_seq ?_
          refine W_reg ?_
          refine O_p 1 ?_
          refine O_nil ?_
          refine W_ret ?_
          replace h := Option.some.inj h; subst h
          exact Fin_free (l := [.i 3]) (by kernel_rfl) (by kernel_rfl) rfl
        · replace h := fork_f c6 h
          refine W_skip ?_
          refine Gh_e ⟨⟨59, [(1, .ro (a1.map cI_i64)), (3, .po 0 0)]⟩, [.lv 2 [.i a0.Actuators, .ro (a0.Steps.map cSStep)]]⟩ ?_
          refine W_seq ?_
          refine W_seq ?_
          refine W_reg ?_
          refine O_p 1 ?_
          refine O_nil ?_
          refine W_loop (fun s7 : Int => ⟨⟨59, [(1, .ro (a1.map cI_i64)), (3, .po 0 0), (7, .i s7)]⟩, [.lv 2 [.i a0.Actuators, .ro (a0.Steps.map cSStep)]]⟩) (fun w8 : Unit => ⟨⟨59, []⟩, [.lv 2 [.i a0.Actuators, .ro (a0.Steps.map cSStep)]]⟩) h (by kernel_rfl) (fun s7 c h => ?_) (fun w8 h => ?_)
          · refine W_gh ?_
            refine W_seq ?_
            refine W_seq ?_
            refine W_gh ?_
            refine W_reg ?_
            refine O_p 2 ?_
            refine O_len (l := a1) cI_i64 (by kernel_rfl) (by kernel_rfl) ?_
            refine O_p 1 ?_
            refine O_nil ?_
            refine Gh_e ⟨⟨59, [(1, .ro (a1.map cI_i64)), (3, .po 0 0), (7, .i s7), (27, .bool (decide (s7 < (a1.length : Int))))]⟩, [.lv 2 [.i a0.Actuators, .ro (a0.Steps.map cSStep)]]⟩ ?_
            refine W_gh ?_
            refine W_cond (c := (decide (s7 < (a1.length : Int)))) (by kernel_rfl) (fun c9 => ?_) (fun c9 => ?_)
            · replace h := fork_t c9 h
              refine W_skip ?_
              refine Gh_e ⟨⟨59, [(1, .ro (a1.map cI_i64)), (3, .po 0 0), (7, .i s7)]⟩, [.lv 2 [.i a0.Actuators, .ro (a0.Steps.map cSStep)]]⟩ ?_
              refine W_seq ?_
              refine W_gh ?_
              refine W_block ?_
              refine W_seq ?_
              refine W_seq ?_
              refine W_joinS (fun v : Bool => ⟨⟨59, [(1, .ro (a1.map cI_i64)), (3, .po 0 0), (7, .i s7), (44, .bool v)]⟩, [.lv 2 [.i a0.Actuators, .ro (a0.Steps.map cSStep)]]⟩) h (fun w h => ?_) (fun w10 e_w10 h => ?_)
              · refine W_gh ?_
                refine W_draw ?_
                refine O_p 2 ?_
                refine O_idx (kd := .i64) cI_i64 h (fun _ => rfl) (by kernel_rfl) (by kernel_rfl) (by kernel_rfl) (fun v11 e_v11 h => ?_)
                refine O_p 3 ?_
                refine O_fork (n := 35) (decide (v11 < 0)) (by kernel_rfl) (fun c12 => ?_) (fun c12 => ?_)
                · replace h := fork_t c12 h
                  refine O_p 9 ?_
                  refine O_nil ?_
                  refine Gh_e ⟨⟨59, [(1, .ro (a1.map cI_i64)), (3, .po 0 0), (7, .i s7), (44, .bool true)]⟩, [.lv 2 [.i a0.Actuators, .ro (a0.Steps.map cSStep)]]⟩ ?_
                  replace h := Option.some.inj h; subst h
                  show _ = _
                  kernel_rfl
                · replace h := fork_f c12 h
                  refine O_p 2 ?_
                  refine O_idx (kd := .i64) cI_i64 h (fun _ => rfl) (by kernel_rfl) (by kernel_rfl) (by kernel_rfl) (fun v13 e_v13 h => ?_)
                  refine O_p 3 ?_
                  refine O_len (l := a0.Steps) cSStep (by kernel_rfl) (by kernel_rfl) ?_
                  refine O_p 2 ?_
                  refine O_nil ?_
                  refine Gh_e ⟨⟨59, [(1, .ro (a1.map cI_i64)), (3, .po 0 0), (7, .i s7), (44, .bool (decide (v13 ≥ (a0.Steps.length : Int))))]⟩, [.lv 2 [.i a0.Actuators, .ro (a0.Steps.map cSStep)]]⟩ ?_
                  replace h := Option.some.inj h; subst h
                  show _ = _
                  kernel_rfl
              · refine W_gh ?_
                refine W_cond (c := w10) (by kernel_rfl) (fun c14 => ?_) (fun c14 => ?_)
                · replace h := fork_t c14 h
                  refine W_seq ?_
                  refine W_reg ?_
                  refine O_p 1 ?_
                  refine O_nil ?_
                  refine W_ret ?_
                  replace h := Option.some.inj h; subst h
                  refine ⟨_, rfl, fun h => ?_⟩
                  replace h := Option.some.inj h; subst h
                  exact Fin_free (l := [.i 2]) (by kernel_rfl) (by kernel_rfl) rfl
                · replace h := fork_f c14 h
                  refine W_skip ?_
                  refine Gh_e ⟨⟨59, [(1, .ro (a1.map cI_i64)), (3, .po 0 0), (7, .i s7)]⟩, [.lv 2 [.i a0.Actuators, .ro (a0.Steps.map cSStep)]]⟩ ?_
                  refine W_seq ?_
                  refine W_joinS (fun v : Bool => ⟨⟨59, [(1, .ro (a1.map cI_i64)), (3, .po 0 0), (7, .i s7), (58, .bool v)]⟩, [.lv 2 [.i a0.Actuators, .ro (a0.Steps.map cSStep)]]⟩) h (fun w h => ?_) (fun w15 e_w15 h => ?_)
                  · refine W_gh ?_
                    refine W_draw ?_
                    refine O_p 3 ?_
                    refine O_fork (n := 47) (decide (s7 > 0)) (by kernel_rfl) (fun c16 => ?_) (fun c16 => ?_)
                    · replace h := fork_t c16 h
                      refine O_p 2 ?_
                      refine O_idx (kd := .i64) cI_i64 h (fun _ => rfl) (by kernel_rfl) (by kernel_rfl) (by kernel_rfl) (fun v17 e_v17 h => ?_)
                      refine O_p 4 ?_
                      refine O_idx (kd := .i64) cI_i64 h (fun _ => rfl) (by kernel_rfl) (by kernel_rfl) (by kernel_rfl) (fun v18 e_v18 h => ?_)
                      refine O_p 3 ?_
                      refine O_nil ?_
                      refine Gh_e ⟨⟨59, [(1, .ro (a1.map cI_i64)), (3, .po 0 0), (7, .i s7), (58, .bool (decide (v17 ≤ v18)))]⟩, [.lv 2 [.i a0.Actuators, .ro (a0.Steps.map cSStep)]]⟩ ?_
                      replace h := Option.some.inj h; subst h
                      show _ = _
                      kernel_rfl
                    · replace h := fork_f c16 h
                      refine O_p 11 ?_
                      refine O_nil ?_
                      refine Gh_e ⟨⟨59, [(1, .ro (a1.map cI_i64)), (3, .po 0 0), (7, .i s7), (58, .bool false)]⟩, [.lv 2 [.i a0.Actuators, .ro (a0.Steps.map cSStep)]]⟩ ?_
                      replace h := Option.some.inj h; subst h
                      show _ = _
                      kernel_rfl
                  · refine W_gh ?_
                    refine W_cond (c := w15) (by kernel_rfl) (fun c19 => ?_) (fun c19 => ?_)
                    · replace h := fork_t c19 h
                      refine W_seq ?_
                      refine W_reg ?_
                      refine O_p 1 ?_
                      refine O_nil ?_
                      refine W_ret ?_
                      replace h := Option.some.inj h; subst h
                      refine ⟨_, rfl, fun h => ?_⟩
                      replace h := Option.some.inj h; subst h
                      exact Fin_free (l := [.i 9]) (by kernel_rfl) (by kernel_rfl) rfl
                    · replace h := fork_f c19 h
                      refine W_skip ?_
                      refine Gh_e ⟨⟨59, [(1, .ro (a1.map cI_i64)), (3, .po 0 0), (7, .i s7)]⟩, [.lv 2 [.i a0.Actuators, .ro (a0.Steps.map cSStep)]]⟩ ?_
                      refine Gh_e ⟨⟨59, [(1, .ro (a1.map cI_i64)), (3, .po 0 0), (7, .i s7)]⟩, [.lv 2 [.i a0.Actuators, .ro (a0.Steps.map cSStep)]]⟩ ?_
                      refine W_gh ?_
                      refine W_reg ?_
                      refine O_p 3 ?_
                      refine O_nil ?_
                      refine Gh_e ⟨⟨59, [(1, .ro (a1.map cI_i64)), (3, .po 0 0), (7, .i (addI .i64 s7 1))]⟩, [.lv 2 [.i a0.Actuators, .ro (a0.Steps.map cSStep)]]⟩ ?_
                      refine Gh_e ⟨⟨59, [(1, .ro (a1.map cI_i64)), (3, .po 0 0), (7, .i (addI .i64 s7 1))]⟩, [.lv 2 [.i a0.Actuators, .ro (a0.Steps.map cSStep)]]⟩ ?_
                      replace h := Option.some.inj h; subst h
                      exact ⟨_, rfl, by kernel_rfl⟩
            · replace h := fork_f c9 h
              refine W_exit ?_
              refine X_hit ?_
              refine Gh_e ⟨⟨59, []⟩, [.lv 2 [.i a0.Actuators, .ro (a0.Steps.map cSStep)]]⟩ ?_
              replace h := Option.some.inj h; subst h
              exact ⟨_, rfl, by kernel_rfl⟩
          · refine W_seq ?_
            refine W_reg ?_
            refine O_p 1 ?_
            refine O_nil ?_
            refine W_ret ?_
            replace h := Option.some.inj h; subst h
            exact Fin_free (l := [.i 0]) (by kernel_rfl) (by kernel_rfl) rfl

theorem p52 (a0 : SSequence) (a1 : (List Int)) (a2 : Int) (r : Int) (h : m52 a0 a1 a2 = some r) : Pt E0 hp 52 [.agg (cSSequence a0), .ro (a1.map cI_i64), .i a2] (.i r) := by
  unfold m52 at h
  refine Pt_W (fn52) rfl (by decide) ?_
  refine W_seq ?_
  refine W_gh ?_
  refine W_reg ?_
  refine O_p 2 ?_
  refine O_nil ?_
  refine Gh_e ⟨⟨24, [(1, .ro (a1.map cI_i64)), (2, .i a2), (3, .po 0 0)]⟩, [.lv 2 [.i a0.Actuators, .ro (a0.Steps.map cSStep)]]⟩ ?_
  refine W_seq ?_
  refine W_seq ?_
  refine W_gh ?_
  refine W_reg ?_
  refine O_p 3 ?_
  refine O_len (l := a1) cI_i64 (by kernel_rfl) (by kernel_rfl) ?_
  refine O_p 1 ?_
  refine O_nil ?_
  refine Gh_e ⟨⟨24, [(1, .ro (a1.map cI_i64)), (2, .i a2), (3, .po 0 0), (11, .bool (decide ((addI .i64 a2 1) < (a1.length : Int))))]⟩, [.lv 2 [.i a0.Actuators, .ro (a0.Steps.map cSStep)]]⟩ ?_
  refine W_gh ?_
  refine W_cond (c := (decide ((addI .i64 a2 1) < (a1.length : Int)))) (by kernel_rfl) (fun c1 => ?_) (fun c1 => ?_)
  · replace h := fork_t c1 h
    refine W_seq ?_
    refine W_gh ?_
    refine W_reg ?_
    refine O_p 3 ?_
    refine O_idx (kd := .i64) cI_i64 h (fun _ => rfl) (by kernel_rfl) (by kernel_rfl) (by kernel_rfl) (fun v2 e_v2 h => ?_)
    refine O_p 2 ?_
    refine O_nil ?_
    refine Gh_e ⟨⟨24, [(3, .po 0 0), (6, .i v2), (11, .bool (decide ((addI .i64 a2 1) < (a1.length : Int))))]⟩, [.lv 2 [.i a0.Actuators, .ro (a0.Steps.map cSStep)]]⟩ ?_
    refine W_ret ?_
    replace h := Option.some.inj h; subst h
    exact Fin_free (l := [.i v2]) (by kernel_rfl) (by kernel_rfl) rfl
  · replace h := fork_f c1 h
    refine W_skip ?_
    refine Gh_e ⟨⟨24, [(1, .ro (a1.map cI_i64)), (3, .po 0 0)]⟩, [.lv 2 [.i a0.Actuators, .ro (a0.Steps.map cSStep)]]⟩ ?_
    refine W_seq ?_
    refine W_gh ?_
    refine W_draw ?_
    refine O_p 2 ?_
    refine O_len (l := a0.Steps) cSStep (by kernel_rfl) (by kernel_rfl) ?_
    refine O_p 1 ?_
    refine O_idx (kd := .i64) cI_i64 h (fun _ => rfl) (by kernel_rfl) (by kernel_rfl) (by kernel_rfl) (fun v3 e_v3 h => ?_)
    refine O_p 3 ?_
    refine O_nil ?_
    refine Gh_e ⟨⟨24, [(6, .i (addI .i64 (a0.Steps.length : Int) v3))]⟩, [.lv 2 [.i a0.Actuators, .ro (a0.Steps.map cSStep)]]⟩ ?_
    refine W_ret ?_
    replace h := Option.some.inj h; subst h
    exact Fin_free (l := [.i (addI .i64 (a0.Steps.length : Int) v3)]) (by kernel_rfl) (by kernel_rfl) rfl

theorem p38 (a0 : SSequence) (a1 : Int) (a2 : Int) (r : Bool) (h : m38 a0 a1 a2 = some r) : Pt E0 hp 38 [.agg (cSSequence a0), .i a1, .i a2] (.bool r) := by
  unfold m38 at h
  refine Pt_W (fn38) rfl (by decide) ?_
  refine W_seq ?_
  refine W_gh ?_
  refine W_reg ?_
  refine O_p 2 ?_
  refine O_nil ?_
  refine Gh_e ⟨⟨32, [(1, .i a1), (2, .i a2), (3, .po 0 0)]⟩, [.lv 2 [.i a0.Actuators, .ro (a0.Steps.map cSStep)]]⟩ ?_
  refine W_seq ?_
  refine W_seq ?_
  refine W_reg ?_
  refine O_p 1 ?_
  refine O_nil ?_
  refine W_loop (fun s1 : Int => ⟨⟨32, [(1, .i a1), (2, .i a2), (3, .po 0 0), (7, .i s1)]⟩, [.lv 2 [.i a0.Actuators, .ro (a0.Steps.map cSStep)]]⟩) (fun w2 : Unit => ⟨⟨32, []⟩, [.lv 2 [.i a0.Actuators, .ro (a0.Steps.map cSStep)]]⟩) h (by kernel_rfl) (fun s1 c h => ?_) (fun w2 h => ?_)
  · refine W_gh ?_
    refine W_seq ?_
    refine W_seq ?_
    refine W_gh ?_
    refine W_reg ?_
    refine O_p 4 ?_
    refine O_nil ?_
    refine Gh_e ⟨⟨32, [(1, .i a1), (2, .i a2), (3, .po 0 0), (7, .i s1), (11, .bool (decide (s1 < a0.Actuators)))]⟩, [.lv 2 [.i a0.Actuators, .ro (a0.Steps.map cSStep)]]⟩ ?_
    refine W_gh ?_
    refine W_cond (c := (decide (s1 < a0.Actuators))) (by kernel_rfl) (fun c3 => ?_) (fun c3 => ?_)
    · replace h := fork_t c3 h
      refine W_skip ?_
      refine Gh_e ⟨⟨32, [(1, .i a1), (2, .i a2), (3, .po 0 0), (7, .i s1)]⟩, [.lv 2 [.i a0.Actuators, .ro (a0.Steps.map cSStep)]]⟩ ?_
      refine W_seq ?_
      refine W_gh ?_
      refine W_block ?_
      refine W_seq ?_
      refine W_joinS (fun v : Bool => ⟨⟨32, [(1, .i a1), (2, .i a2), (3, .po 0 0), (7, .i s1), (31, .bool v)]⟩, [.lv 2 [.i a0.Actuators, .ro (a0.Steps.map cSStep)]]⟩) h (fun w h => ?_) (fun w4 e_w4 h => ?_)
      · refine W_gh ?_
        refine W_reg ?_
        refine O_p 3 ?_
        refine O_idx (kd := .i64) cSStep h (fun _ => rfl) (by kernel_rfl) (by kernel_rfl) (by kernel_rfl) (fun v5 e_v5 h => ?_)
        refine O_p 2 ?_
        refine O_call (fun v => .i v) h (.inr rfl) (ys := [.agg (cSStep v5), .i s1]) (fun _ e => p53 _ _ _ e) (by kernel_rfl) (by kernel_rfl) (bels_cons (okSStep.bel _) (bels_cons rfl rfl)) (fun v6 e_v6 h => ?_)
        refine O_p 2 ?_
        refine O_fork (n := 22) (v6 != 0) (by kernel_rfl) (fun c7 => ?_) (fun c7 => ?_)
        · replace h := fork_t c7 h
          refine O_p 3 ?_
          refine O_idx (kd := .i64) cSStep h (fun _ => rfl) (by kernel_rfl) (by kernel_rfl) (by kernel_rfl) (fun v8 e_v8 h => ?_)
          refine O_p 2 ?_
          refine O_call (fun v => .i v) h (.inr rfl) (ys := [.agg (cSStep v8), .i s1]) (fun _ e => p53 _ _ _ e) (by kernel_rfl) (by kernel_rfl) (bels_cons (okSStep.bel _) (bels_cons rfl rfl)) (fun v9 e_v9 h => ?_)
          refine O_p 2 ?_
          refine O_nil ?_
          refine Gh_e ⟨⟨32, [(1, .i a1), (2, .i a2), (3, .po 0 0), (7, .i s1), (31, .bool (v9 != 0))]⟩, [.lv 2 [.i a0.Actuators, .ro (a0.Steps.map cSStep)]]⟩ ?_
          replace h := Option.some.inj h; subst h
          show _ = _
          kernel_rfl
        · replace h := fork_f c7 h
          refine O_p 9 ?_
          refine O_nil ?_
          refine Gh_e ⟨⟨32, [(1, .i a1), (2, .i a2), (3, .po 0 0), (7, .i s1), (31, .bool false)]⟩, [.lv 2 [.i a0.Actuators, .ro (a0.Steps.map cSStep)]]⟩ ?_
          replace h := Option.some.inj h; subst h
          show _ = _
          kernel_rfl
      · refine W_gh ?_
        refine W_cond (c := w4) (by kernel_rfl) (fun c10 => ?_) (fun c10 => ?_)
        · replace h := fork_t c10 h
          refine W_seq ?_
          refine W_reg ?_
          refine O_p 1 ?_
          refine O_nil ?_
          refine W_ret ?_
          replace h := Option.some.inj h; subst h
          refine ⟨_, rfl, fun h => ?_⟩
          replace h := Option.some.inj h; subst h
          exact Fin_free (l := [.bool true]) (by kernel_rfl) (by kernel_rfl) rfl
        · replace h := fork_f c10 h
          refine W_skip ?_
          refine Gh_e ⟨⟨32, [(1, .i a1), (2, .i a2), (3, .po 0 0), (7, .i s1)]⟩, [.lv 2 [.i a0.Actuators, .ro (a0.Steps.map cSStep)]]⟩ ?_
          refine Gh_e ⟨⟨32, [(1, .i a1), (2, .i a2), (3, .po 0 0), (7, .i s1)]⟩, [.lv 2 [.i a0.Actuators, .ro (a0.Steps.map cSStep)]]⟩ ?_
          refine W_gh ?_
          refine W_reg ?_
          refine O_p 3 ?_
          refine O_nil ?_
          refine Gh_e ⟨⟨32, [(1, .i a1), (2, .i a2), (3, .po 0 0), (7, .i (addI .i64 s1 1))]⟩, [.lv 2 [.i a0.Actuators, .ro (a0.Steps.map cSStep)]]⟩ ?_
          refine Gh_e ⟨⟨32, [(1, .i a1), (2, .i a2), (3, .po 0 0), (7, .i (addI .i64 s1 1))]⟩, [.lv 2 [.i a0.Actuators, .ro (a0.Steps.map cSStep)]]⟩ ?_
          replace h := Option.some.inj h; subst h
          exact ⟨_, rfl, by kernel_rfl⟩
    · replace h := fork_f c3 h
      refine W_exit ?_
      refine X_hit ?_
      refine Gh_e ⟨⟨32, []⟩, [.lv 2 [.i a0.Actuators, .ro (a0.Steps.map cSStep)]]⟩ ?_
      replace h := Option.some.inj h; subst h
      exact ⟨_, rfl, by kernel_rfl⟩
  · refine W_seq ?_
    refine W_reg ?_
    refine O_p 1 ?_
    refine O_nil ?_
    refine W_ret ?_
    replace h := Option.some.inj h; subst h
    exact Fin_free (l := [.bool false]) (by kernel_rfl) (by kernel_rfl) rfl

theorem p78 (a0 : SSequence) (a1 : Int) (a2 : Int) (r : Bool) (h : m78 a0 a1 a2 = some r) : Pt E0 hp 78 [.agg (cSSequence a0), .i a1, .i a2] (.bool r) := by
  unfold m78 at h
  refine Pt_W (fn78) rfl (by decide) ?_
  refine W_seq ?_
  refine W_gh ?_
  refine W_reg ?_
  refine O_p 2 ?_
  refine O_nil ?_
  refine Gh_e ⟨⟨35, [(1, .i a1), (2, .i a2), (3, .po 0 0)]⟩, [.lv 2 [.i a0.Actuators, .ro (a0.Steps.map cSStep)]]⟩ ?_
  refine W_seq ?_
  refine W_seq ?_
  refine W_reg ?_
  refine O_p 1 ?_
  refine O_nil ?_
  refine W_loop (fun s1 : Int => ⟨⟨35, [(1, .i a1), (2, .i a2), (3, .po 0 0), (7, .i s1)]⟩, [.lv 2 [.i a0.Actuators, .ro (a0.Steps.map cSStep)]]⟩) (fun w2 : Unit => ⟨⟨35, []⟩, [.lv 2 [.i a0.Actuators, .ro (a0.Steps.map cSStep)]]⟩) h (by kernel_rfl) (fun s1 c h => ?_) (fun w2 h => ?_)
  · refine W_gh ?_
    refine W_seq ?_
    refine W_seq ?_
    refine W_gh ?_
    refine W_reg ?_
    refine O_p 3 ?_
    refine O_nil ?_
    refine Gh_e ⟨⟨35, [(1, .i a1), (2, .i a2), (3, .po 0 0), (7, .i s1), (11, .bool (decide (s1 < a2)))]⟩, [.lv 2 [.i a0.Actuators, .ro (a0.Steps.map cSStep)]]⟩ ?_
    refine W_gh ?_
    refine W_cond (c := (decide (s1 < a2))) (by kernel_rfl) (fun c3 => ?_) (fun c3 => ?_)
    · replace h := fork_t c3 h
      refine W_skip ?_
      refine Gh_e ⟨⟨35, [(1, .i a1), (2, .i a2), (3, .po 0 0), (7, .i s1)]⟩, [.lv 2 [.i a0.Actuators, .ro (a0.Steps.map cSStep)]]⟩ ?_
      refine W_seq ?_
      refine W_gh ?_
      refine W_block ?_
      refine W_seq ?_
      refine W_reg ?_
      refine O_p 1 ?_
      refine O_nil ?_
      refine W_loop (fun s4 : Int => ⟨⟨35, [(1, .i a1), (2, .i a2), (3, .po 0 0), (7, .i s1), (8, .i s4)]⟩, [.lv 2 [.i a0.Actuators, .ro (a0.Steps.map cSStep)]]⟩) (fun w5 : Unit => ⟨⟨35, [(1, .i a1), (2, .i a2), (3, .po 0 0), (7, .i s1)]⟩, [.lv 2 [.i a0.Actuators, .ro (a0.Steps.map cSStep)]]⟩) h (by kernel_rfl) (fun s4 c h => ?_) (fun w5 h => ?_)
      · refine W_gh ?_
        refine W_seq ?_
        refine W_seq ?_
        refine W_gh ?_
        refine W_reg ?_
        refine O_p 3 ?_
        refine O_nil ?_
        refine Gh_e ⟨⟨35, [(1, .i a1), (2, .i a2), (3, .po 0 0), (7, .i s1), (8, .i s4), (16, .bool (decide (s4 < s1)))]⟩, [.lv 2 [.i a0.Actuators, .ro (a0.Steps.map cSStep)]]⟩ ?_
        refine W_gh ?_
        refine W_cond (c := (decide (s4 < s1))) (by kernel_rfl) (fun c6 => ?_) (fun c6 => ?_)
        · replace h := fork_t c6 h
          refine W_skip ?_
          refine Gh_e ⟨⟨35, [(1, .i a1), (2, .i a2), (3, .po 0 0), (7, .i s1), (8, .i s4)]⟩, [.lv 2 [.i a0.Actuators, .ro (a0.Steps.map cSStep)]]⟩ ?_
          refine W_seq ?_
          refine W_gh ?_
          refine W_block ?_
          refine W_seq ?_
          refine W_gh ?_
          refine W_draw ?_
          refine O_p 6 ?_
          refine O_len (l := a0.Steps) cSStep (by kernel_rfl) (by kernel_rfl) ?_
          refine O_rem (kd := .i64) h (by kernel_rfl) (by kernel_rfl) (by kernel_rfl) (fun v7 e_v7 h => ?_)
          refine O_p 5 ?_
          refine O_len (l := a0.Steps) cSStep (by kernel_rfl) (by kernel_rfl) ?_
          refine O_rem (kd := .i64) h (by kernel_rfl) (by kernel_rfl) (by kernel_rfl) (fun v8 e_v8 h => ?_)
          refine O_call (fun v => .bool v) h (.inr rfl) (ys := [.agg (cSSequence a0), .i v7, .i v8]) (fun _ e => p38 _ _ _ _ e) (by kernel_rfl) (by kernel_rfl) (bels_cons (okSSequence.bel _) (bels_cons rfl (bels_cons rfl rfl))) (fun v9 e_v9 h => ?_)
          refine O_nil ?_
          refine Gh_e ⟨⟨35, [(1, .i a1), (2, .i a2), (3, .po 0 0), (7, .i s1), (8, .i s4), (34, .bool v9)]⟩, [.lv 2 [.i a0.Actuators, .ro (a0.Steps.map cSStep)]]⟩ ?_
          refine W_gh ?_
          refine W_cond (c := v9) (by kernel_rfl) (fun c10 => ?_) (fun c10 => ?_)
          · replace h := fork_t c10 h
            refine W_seq ?_
            refine W_reg ?_
            refine O_p 1 ?_
            refine O_nil ?_
            refine W_ret ?_
            replace h := Option.some.inj h; subst h
            refine ⟨_, rfl, fun h => ?_⟩
            replace h := Option.some.inj h; subst h
            refine ⟨_, rfl, fun h => ?_⟩
            replace h := Option.some.inj h; subst h
            exact Fin_free (l := [.bool false]) (by kernel_rfl) (by kernel_rfl) rfl
          · replace h := fork_f c10 h
            refine W_skip ?_
            refine Gh_e ⟨⟨35, [(1, .i a1), (2, .i a2), (3, .po 0 0), (7, .i s1), (8, .i s4)]⟩, [.lv 2 [.i a0.Actuators, .ro (a0.Steps.map cSStep)]]⟩ ?_
            refine Gh_e ⟨⟨35, [(1, .i a1), (2, .i a2), (3, .po 0 0), (7, .i s1), (8, .i s4)]⟩, [.lv 2 [.i a0.Actuators, .ro (a0.Steps.map cSStep)]]⟩ ?_
            refine W_gh ?_
            refine W_reg ?_
            refine O_p 3 ?_
            refine O_nil ?_
            refine Gh_e ⟨⟨35, [(1, .i a1), (2, .i a2), (3, .po 0 0), (7, .i s1), (8, .i (addI .i64 s4 1))]⟩, [.lv 2 [.i a0.Actuators, .ro (a0.Steps.map cSStep)]]⟩ ?_
            refine Gh_e ⟨⟨35, [(1, .i a1), (2, .i a2), (3, .po 0 0), (7, .i s1), (8, .i (addI .i64 s4 1))]⟩, [.lv 2 [.i a0.Actuators, .ro (a0.Steps.map cSStep)]]⟩ ?_
            replace h := Option.some.inj h; subst h
            exact ⟨_, rfl, by kernel_rfl⟩
        · replace h := fork_f c6 h
          refine W_exit ?_
          refine X_hit ?_
          refine Gh_e ⟨⟨35, [(1, .i a1), (2, .i a2), (3, .po 0 0), (7, .i s1)]⟩, [.lv 2 [.i a0.Actuators, .ro (a0.Steps.map cSStep)]]⟩ ?_
          replace h := Option.some.inj h; subst h
          exact ⟨_, rfl, by kernel_rfl⟩
      · refine Gh_e ⟨⟨35, [(1, .i a1), (2, .i a2), (3, .po 0 0), (7, .i s1)]⟩, [.lv 2 [.i a0.Actuators, .ro (a0.Steps.map cSStep)]]⟩ ?_
        refine W_gh ?_
        refine W_reg ?_
        refine O_p 3 ?_
        refine O_nil ?_
        refine Gh_e ⟨⟨35, [(1, .i a1), (2, .i a2), (3, .po 0 0), (7, .i (addI .i64 s1 1))]⟩, [.lv 2 [.i a0.Actuators, .ro (a0.Steps.map cSStep)]]⟩ ?_
        refine Gh_e ⟨⟨35, [(1, .i a1), (2, .i a2), (3, .po 0 0), (7, .i (addI .i64 s1 1))]⟩, [.lv 2 [.i a0.Actuators, .ro (a0.Steps.map cSStep)]]⟩ ?_
        replace h := Option.some.inj h; subst h
        exact ⟨_, rfl, by kernel_rfl⟩
    · replace h := fork_f c3 h
      refine W_exit ?_
      refine X_hit ?_
      refine Gh_e ⟨⟨35, []⟩, [.lv 2 [.i a0.Actuators, .ro (a0.Steps.map cSStep)]]⟩ ?_
      replace h := Option.some.inj h; subst h
      exact ⟨_, rfl, by kernel_rfl⟩
  · refine W_seq ?_
    refine W_reg ?_
    refine O_p 1 ?_
    refine O_nil ?_
    refine W_ret ?_
    replace h := Option.some.inj h; subst h
    exact Fin_free (l := [.bool true]) (by kernel_rfl) (by kernel_rfl) rfl

theorem p66 (a0 : SSequence) (a1 : (List Int)) (r : Bool) (h : m66 a0 a1 = some r) : Pt E0 hp 66 [.agg (cSSequence a0), .ro (a1.map cI_i64)] (.bool r) := by
  unfold m66 at h
  refine Pt_W (fn66) rfl (by decide) ?_
  refine W_seq ?_
  refine W_gh ?_
  refine W_reg ?_
  refine O_p 2 ?_
  refine O_nil ?_
  refine Gh_e ⟨⟨28, [(1, .ro (a1.map cI_i64)), (2, .po 0 0)]⟩, [.lv 2 [.i a0.Actuators, .ro (a0.Steps.map cSStep)]]⟩ ?_
  refine W_seq ?_
  refine W_seq ?_
  refine W_reg ?_
  refine O_p 1 ?_
  refine O_nil ?_
  refine W_loop (fun s1 : Int => ⟨⟨28, [(1, .ro (a1.map cI_i64)), (2, .po 0 0), (5, .i s1)]⟩, [.lv 2 [.i a0.Actuators, .ro (a0.Steps.map cSStep)]]⟩) (fun w2 : Unit => ⟨⟨28, []⟩, [.lv 2 [.i a0.Actuators, .ro (a0.Steps.map cSStep)]]⟩) h (by kernel_rfl) (fun s1 c h => ?_) (fun w2 h => ?_)
  · refine W_gh ?_
    refine W_seq ?_
    refine W_seq ?_
    refine W_gh ?_
    refine W_reg ?_
    refine O_p 2 ?_
    refine O_len (l := a1) cI_i64 (by kernel_rfl) (by kernel_rfl) ?_
    refine O_p 1 ?_
    refine O_nil ?_
    refine Gh_e ⟨⟨28, [(1, .ro (a1.map cI_i64)), (2, .po 0 0), (5, .i s1), (9, .bool (decide (s1 < (a1.length : Int))))]⟩, [.lv 2 [.i a0.Actuators, .ro (a0.Steps.map cSStep)]]⟩ ?_
    refine W_gh ?_
    refine W_cond (c := (decide (s1 < (a1.length : Int)))) (by kernel_rfl) (fun c3 => ?_) (fun c3 => ?_)
    · replace h := fork_t c3 h
      refine W_skip ?_
      refine Gh_e ⟨⟨28, [(1, .ro (a1.map cI_i64)), (2, .po 0 0), (5, .i s1)]⟩, [.lv 2 [.i a0.Actuators, .ro (a0.Steps.map cSStep)]]⟩ ?_
      refine W_seq ?_
      refine W_gh ?_
      refine W_block ?_
      refine W_seq ?_
      refine W_gh ?_
      refine W_draw ?_
      refine O_p 3 ?_
      refine O_idx (kd := .i64) cI_i64 h (fun _ => rfl) (by kernel_rfl) (by kernel_rfl) (by kernel_rfl) (fun v4 e_v4 h => ?_)
      refine O_p 4 ?_
      refine O_call (fun v => .i v) h (.inr rfl) (ys := [.agg (cSSequence a0), .ro (a1.map cI_i64), .i s1]) (fun _ e => p52 _ _ _ _ e) (by kernel_rfl) (by kernel_rfl) (bels_cons (okSSequence.bel _) (bels_cons (ro_bel okI_i64.bel _) (bels_cons rfl rfl))) (fun v5 e_v5 h => ?_)
      refine O_p 2 ?_
      refine O_idx (kd := .i64) cI_i64 h (fun _ => rfl) (by kernel_rfl) (by kernel_rfl) (by kernel_rfl) (fun v6 e_v6 h => ?_)
      refine O_p 2 ?_
      refine O_call (fun v => .bool v) h (.inr rfl) (ys := [.agg (cSSequence a0), .i v4, .i (subI .i64 v5 v6)]) (fun _ e => p78 _ _ _ _ e) (by kernel_rfl) (by kernel_rfl) (bels_cons (okSSequence.bel _) (bels_cons rfl (bels_cons rfl rfl))) (fun v7 e_v7 h => ?_)
      refine O_p 1 ?_
      refine O_nil ?_
      refine Gh_e ⟨⟨28, [(1, .ro (a1.map cI_i64)), (2, .po 0 0), (5, .i s1), (27, .bool (!v7))]⟩, [.lv 2 [.i a0.Actuators, .ro (a0.Steps.map cSStep)]]⟩ ?_
      refine W_gh ?_
      refine W_cond (c := (!v7)) (by kernel_rfl) (fun c8 => ?_) (fun c8 => ?_)
      · replace h := fork_t c8 h
        refine W_seq ?_
        refine W_reg ?_
        refine O_p 1 ?_
        refine O_nil ?_
        refine W_ret ?_
        replace h := Option.some.inj h; subst h
        refine ⟨_, rfl, fun h => ?_⟩
        replace h := Option.some.inj h; subst h
        exact Fin_free (l := [.bool false]) (by kernel_rfl) (by kernel_rfl) rfl
      · replace h := fork_f c8 h
        refine W_skip ?_
        refine Gh_e ⟨⟨28, [(1, .ro (a1.map cI_i64)), (2, .po 0 0), (5, .i s1)]⟩, [.lv 2 [.i a0.Actuators, .ro (a0.Steps.map cSStep)]]⟩ ?_
        refine Gh_e ⟨⟨28, [(1, .ro (a1.map cI_i64)), (2, .po 0 0), (5, .i s1)]⟩, [.lv 2 [.i a0.Actuators, .ro (a0.Steps.map cSStep)]]⟩ ?_
        refine W_gh ?_
        refine W_reg ?_
        refine O_p 3 ?_
        refine O_nil ?_
        refine Gh_e ⟨⟨28, [(1, .ro (a1.map cI_i64)), (2, .po 0 0), (5, .i (addI .i64 s1 1))]⟩, [.lv 2 [.i a0.Actuators, .ro (a0.Steps.map cSStep)]]⟩ ?_
        refine Gh_e ⟨⟨28, [(1, .ro (a1.map cI_i64)), (2, .po 0 0), (5, .i (addI .i64 s1 1))]⟩, [.lv 2 [.i a0.Actuators, .ro (a0.Steps.map cSStep)]]⟩ ?_
        replace h := Option.some.inj h; subst h
        exact ⟨_, rfl, by kernel_rfl⟩
    · replace h := fork_f c3 h
      refine W_exit ?_
      refine X_hit ?_
      refine Gh_e ⟨⟨28, []⟩, [.lv 2 [.i a0.Actuators, .ro (a0.Steps.map cSStep)]]⟩ ?_
      replace h := Option.some.inj h; subst h
      exact ⟨_, rfl, by kernel_rfl⟩
  · refine W_seq ?_
    refine W_reg ?_
    refine O_p 1 ?_
    refine O_nil ?_
    refine W_ret ?_
    replace h := Option.some.inj h; subst h
    exact Fin_free (l := [.bool true]) (by kernel_rfl) (by kernel_rfl) rfl

theorem p46 (a0 : SSequence) (a1 : (List Int)) (a2 : Bool) (r : Int) (h : m46 a0 a1 a2 = some r) : Pt E0 hp 46 [.agg (cSSequence a0), .ro (a1.map cI_i64), .bool a2] (.i r) := by
  unfold m46 at h
  refine Pt_W (fn46) rfl (by decide) ?_
  refine W_seq ?_
  refine W_gh ?_
  refine W_reg ?_
  refine O_p 2 ?_
  refine O_nil ?_
  refine Gh_e ⟨⟨25, [(1, .ro (a1.map cI_i64)), (2, .bool a2), (3, .po 0 0)]⟩, [.lv 2 [.i a0.Actuators, .ro (a0.Steps.map cSStep)]]⟩ ?_
  refine W_seq ?_
  refine W_seq ?_
  refine W_gh ?_
  refine W_reg ?_
  refine O_p 1 ?_
  refine O_call (fun v => .i v) h (.inr rfl) (ys := [.agg (cSSequence a0)]) (fun _ e => p37 _ _ e) (by kernel_rfl) (by kernel_rfl) (bels_cons (okSSequence.bel _) rfl) (fun v1 e_v1 h => ?_)
  refine O_p 1 ?_
  refine O_nil ?_
  refine Gh_e ⟨⟨25, [(1, .ro (a1.map cI_i64)), (2, .bool a2), (3, .po 0 0), (7, .i v1)]⟩, [.lv 2 [.i a0.Actuators, .ro (a0.Steps.map cSStep)]]⟩ ?_
  refine W_seq ?_
  refine W_gh ?_
  refine W_reg ?_
  refine O_p 2 ?_
  refine O_nil ?_
  refine Gh_e ⟨⟨25, [(1, .ro (a1.map cI_i64)), (2, .bool a2), (3, .po 0 0), (7, .i v1), (12, .bool (v1 != 0))]⟩, [.lv 2 [.i a0.Actuators, .ro (a0.Steps.map cSStep)]]⟩ ?_
  refine W_gh ?_
  refine W_cond (c := (v1 != 0)) (by kernel_rfl) (fun c2 => ?_) (fun c2 => ?_)
  · replace h := fork_t c2 h
    refine W_seq ?_
    refine W_gh ?_
    refine W_reg ?_
    refine O_p 2 ?_
    refine O_nil ?_
    refine Gh_e ⟨⟨25, [(1, .ro (a1.map cI_i64)), (2, .bool a2), (3, .po 0 0), (6, .i v1), (12, .bool (v1 != 0))]⟩, [.lv 2 [.i a0.Actuators, .ro (a0.Steps.map cSStep)]]⟩ ?_
    refine W_ret ?_
    replace h := Option.some.inj h; subst h
    exact Fin_free (l := [.i v1]) (by kernel_rfl) (by kernel_rfl) rfl
  · replace h := fork_f c2 h
    refine W_skip ?_
    refine Gh_e ⟨⟨25, [(1, .ro (a1.map cI_i64)), (2, .bool a2), (3, .po 0 0)]⟩, [.lv 2 [.i a0.Actuators, .ro (a0.Steps.map cSStep)]]⟩ ?_
    refine W_seq ?_
    refine W_seq ?_
    refine W_gh ?_
    refine W_reg ?_
    refine O_p 3 ?_
    refine O_call (fun v => .i v) h (.inr rfl) (ys := [.agg (cSSequence a0), .ro (a1.map cI_i64), .bool a2]) (fun _ e => p65 _ _ _ _ e) (by kernel_rfl) (by kernel_rfl) (bels_cons (okSSequence.bel _) (bels_cons (ro_bel okI_i64.bel _) (bels_cons rfl rfl))) (fun v3 e_v3 h => ?_)
    refine O_p 1 ?_
    refine O_nil ?_
    refine Gh_e ⟨⟨25, [(1, .ro (a1.map cI_i64)), (3, .po 0 0), (8, .i v3)]⟩, [.lv 2 [.i a0.Actuators, .ro (a0.Steps.map cSStep)]]⟩ ?_
    refine W_seq ?_
    refine W_gh ?_
    refine W_reg ?_
    refine O_p 2 ?_
    refine O_nil ?_
    refine Gh_e ⟨⟨25, [(1, .ro (a1.map cI_i64)), (3, .po 0 0), (8, .i v3), (19, .bool (v3 != 0))]⟩, [.lv 2 [.i a0.Actuators, .ro (a0.Steps.map cSStep)]]⟩ ?_
    refine W_gh ?_
    refine W_cond (c := (v3 != 0)) (by kernel_rfl) (fun c4 => ?_) (fun c4 => ?_)
    · replace h := fork_t c4 h
      refine W_seq ?_
      refine W_gh ?_
      refine W_reg ?_
      refine O_p 2 ?_
      refine O_nil ?_
      refine Gh_e ⟨⟨25, [(1, .ro (a1.map cI_i64)), (3, .po 0 0), (6, .i v3), (19, .bool (v3 != 0))]⟩, [.lv 2 [.i a0.Actuators, .ro (a0.Steps.map cSStep)]]⟩ ?_
      refine W_ret ?_
      replace h := Option.some.inj h; subst h
      exact Fin_free (l := [.i v3]) (by kernel_rfl) (by kernel_rfl) rfl
    · replace h := fork_f c4 h
      refine W_skip ?_
      refine Gh_e ⟨⟨25, [(1, .ro (a1.map cI_i64)), (3, .po 0 0)]⟩, [.lv 2 [.i a0.Actuators, .ro (a0.Steps.map cSStep)]]⟩ ?_
      refine W_seq ?_
      refine W_seq ?_
      refine W_gh ?_
      refine W_reg ?_
      refine O_p 2 ?_
      refine O_call (fun v => .bool v) h (.inr rfl) (ys := [.agg (cSSequence a0), .ro (a1.map cI_i64)]) (fun _ e => p66 _ _ _ e) (by kernel_rfl) (by kernel_rfl) (bels_cons (okSSequence.bel _) (bels_cons (ro_bel okI_i64.bel _) rfl)) (fun v5 e_v5 h => ?_)
      refine O_p 1 ?_
      refine O_nil ?_
      refine Gh_e ⟨⟨25, [(24, .bool (!v5))]⟩, [.lv 2 [.i a0.Actuators, .ro (a0.Steps.map cSStep)]]⟩ ?_
      refine W_gh ?_
      refine W_cond (c := (!v5)) (by kernel_rfl) (fun c6 => ?_) (fun c6 => ?_)
      · replace h := fork_t c6 h
        refine W_seq ?_
        refine W_reg ?_
        refine O_p 1 ?_
        refine O_nil ?_
        refine W_ret ?_
        replace h := Option.some.inj h; subst h
        exact Fin_free (l := [.i 7]) (by kernel_rfl) (by kernel_rfl) rfl
      · replace h := fork_f c6 h
        refine W_skip ?_
        refine Gh_e ⟨⟨25, []⟩, [.lv 2 [.i a0.Actuators, .ro (a0.Steps.map cSStep)]]⟩ ?_
        refine W_seq ?_
        refine W_reg ?_
        refine O_p 1 ?_
        refine O_nil ?_
        refine W_ret ?_
        replace h := Option.some.inj h; subst h
        exact Fin_free (l := [.i 0]) (by kernel_rfl) (by kernel_rfl) rfl

theorem p22 (a0 : SSequence) (a1 : (List Int)) (r : Int) (h : m22 a0 a1 = some r) : Pt E0 hp 22 [.agg (cSSequence a0), .ro (a1.map cI_i64)] (.i r) := by
  unfold m22 at h
  refine Pt_W (fn22) rfl (by decide) ?_
  refine W_seq ?_
  refine W_gh ?_
  refine W_reg ?_
  refine O_p 2 ?_
  refine O_nil ?_
  refine Gh_e ⟨⟨8, [(1, .ro (a1.map cI_i64)), (2, .po 0 0)]⟩, [.lv 2 [.i a0.Actuators, .ro (a0.Steps.map cSStep)]]⟩ ?_
  refine W_seq ?_
  refine W_gh ?_
  refine W_reg ?_
  refine O_p 2 ?_
  refine O_call (fun v => .i v) h (.inr rfl) (ys := [.agg (cSSequence a0), .ro (a1.map cI_i64), .bool false]) (fun _ e => p46 _ _ _ _ e) (by kernel_rfl) (by kernel_rfl) (bels_cons (okSSequence.bel _) (bels_cons (ro_bel okI_i64.bel _) (bels_cons rfl rfl))) (fun v1 e_v1 h => ?_)
  refine O_p 1 ?_
  refine O_nil ?_
  refine Gh_e ⟨⟨8, [(4, .i v1)]⟩, [.lv 2 [.i a0.Actuators, .ro (a0.Steps.map cSStep)]]⟩ ?_
  refine W_ret ?_
  replace h := Option.some.inj h; subst h
  exact Fin_free (l := [.i v1]) (by kernel_rfl) (by kernel_rfl) rfl

theorem p68 (a0 : SSequence) (a1 : (List Int)) (a2 : Bool) (r : Int) (h : m68 a0 a1 a2 = some r) : Pt E0 hp 68 [.agg (cSSequence a0), .ro (a1.map cI_i64), .bool a2] (.i r) := by
  unfold m68 at h
  refine Pt_W (fn68) rfl (by decide) ?_
  refine W_seq ?_
  refine W_gh ?_
  refine W_reg ?_
  refine O_p 2 ?_
  refine O_nil ?_
  refine Gh_e ⟨⟨58, [(1, .ro (a1.map cI_i64)), (2, .bool a2), (3, .po 0 0)]⟩, [.lv 2 [.i a0.Actuators, .ro (a0.Steps.map cSStep)]]⟩ ?_
  refine W_seq ?_
  refine W_gh ?_
  refine W_block ?_
  refine W_seq ?_
  refine W_gh ?_
  refine W_reg ?_
  refine O_p 1 ?_
  refine O_len (l := a1) cI_i64 (by kernel_rfl) (by kernel_rfl) ?_
  refine O_p 2 ?_
  refine O_nil ?_
  refine Gh_e ⟨⟨58, [(1, .ro (a1.map cI_i64)), (2, .bool a2), (3, .po 0 0), (9, .bool ((a1.length : Int) == 0))]⟩, [.lv 2 [.i a0.Actuators, .ro (a0.Steps.map cSStep)]]⟩ ?_
  refine W_gh ?_
  refine W_cond (c := ((a1.length : Int) == 0)) (by kernel_rfl) (fun c1 => ?_) (fun c1 => ?_)
  · replace h := fork_t c1 h
    refine W_seq ?_
    refine W_reg ?_
    refine O_p 1 ?_
    refine O_nil ?_
    refine W_ret ?_
    replace h := Option.some.inj h; subst h
    exact Fin_free (l := [.i 13]) (by kernel_rfl) (by kernel_rfl) rfl
  · replace h := fork_f c1 h
    refine W_seq ?_
    refine W_gh ?_
    refine W_reg ?_
    refine O_p 1 ?_
    refine O_len (l := a1) cI_i64 (by kernel_rfl) (by kernel_rfl) ?_
    refine O_p 2 ?_
    refine O_len (l := a0.Steps) cSStep (by kernel_rfl) (by kernel_rfl) ?_
    refine O_p 2 ?_
    refine O_nil ?_
    refine Gh_e ⟨⟨58, [(1, .ro (a1.map cI_i64)), (2, .bool a2), (3, .po 0 0), (9, .bool ((a1.length : Int) == 0)), (13, .bool (decide ((a1.length : Int) > (a0.Steps.length : Int))))]⟩, [.lv 2 [.i a0.Actuators, .ro (a0.Steps.map cSStep)]]⟩ ?_
    refine W_gh ?_
    refine W_cond (c := (decide ((a1.length : Int) > (a0.Steps.length : Int)))) (by kernel_rfl) (fun c2 => ?_) (fun c2 => ?_)
    · replace h := fork_t c2 h
      refine W_seq ?_
      refine W_reg ?_
      refine O_p 1 ?_
      refine O_nil ?_
      refine W_ret ?_
      replace h := Option.some.inj h; subst h
      exact Fin_free (l := [.i 5]) (by kernel_rfl) (by kernel_rfl) rfl
    · replace h := fork_f c2 h
      refine W_seq ?_
      refine W_joinS (fun v : Bool => ⟨⟨58, [(1, .ro (a1.map cI_i64)), (3, .po 0 0), (9, .bool ((a1.length : Int) == 0)), (13, .bool (decide ((a1.length : Int) > (a0.Steps.length : Int)))), (20, .bool v)]⟩, [.lv 2 [.i a0.Actuators, .ro (a0.Steps.map cSStep)]]⟩) h (fun w h => ?_) (fun w3 e_w3 h => ?_)
      · refine W_gh ?_
        refine W_reg ?_
        refine O_p 2 ?_
        refine O_fork (n := 22) a2 (by kernel_rfl) (fun c4 => ?_) (fun c4 => ?_)
        · replace h := fork_t c4 h
          refine O_p 1 ?_
          refine O_idx (kd := .i64) cI_i64 h (fun _ => rfl) (by kernel_rfl) (by kernel_rfl) (by kernel_rfl) (fun v5 e_v5 h => ?_)
          refine O_p 4 ?_
          refine O_nil ?_
          refine Gh_e ⟨⟨58, [(1, .ro (a1.map cI_i64)), (3, .po 0 0), (9, .bool ((a1.length : Int) == 0)), (13, .bool (decide ((a1.length : Int) > (a0.Steps.length : Int)))), (20, .bool (v5 != 0))]⟩, [.lv 2 [.i a0.Actuators, .ro (a0.Steps.map cSStep)]]⟩ ?_
          replace h := Option.some.inj h; subst h
          show _ = _
          kernel_rfl
        · replace h := fork_f c4 h
          refine O_p 6 ?_
          refine O_nil ?_
          refine Gh_e ⟨⟨58, [(1, .ro (a1.map cI_i64)), (3, .po 0 0), (9, .bool ((a1.length : Int) == 0)), (13, .bool (decide ((a1.length : Int) > (a0.Steps.length : Int)))), (20, .bool false)]⟩, [.lv 2 [.i a0.Actuators, .ro (a0.Steps.map cSStep)]]⟩ ?_
          replace h := Option.some.inj h; subst h
          show _ = _
          kernel_rfl
      · refine W_gh ?_
        refine W_cond (c := w3) (by kernel_rfl) (fun c6 => ?_) (fun c6 => ?_)
        · replace h := fork_t c6 h
          refine W_seq ?_
          refine W_reg ?_
          refine O_p 1 ?_
          refine O_nil ?_
          refine W_ret ?_
          replace h := Option.some.inj h; subst h
          exact Fin_free (l := [.i 3]) (by kernel_rfl) (by kernel_rfl) rfl
        · replace h := fork_f c6 h
          refine W_skip ?_
          refine Gh_e ⟨⟨58, [(1, .ro (a1.map cI_i64)), (3, .po 0 0), (9, .bool ((a1.length : Int) == 0)), (13, .bool (decide ((a1.length : Int) > (a0.Steps.length : Int))))]⟩, [.lv 2 [.i a0.Actuators, .ro (a0.Steps.map cSStep)]]⟩ ?_
          refine Gh_e ⟨⟨58, [(1, .ro (a1.map cI_i64)), (3, .po 0 0), (9, .bool ((a1.length : Int) == 0))]⟩, [.lv 2 [.i a0.Actuators, .ro (a0.Steps.map cSStep)]]⟩ ?_
          refine Gh_e ⟨⟨58, [(1, .ro (a1.map cI_i64)), (3, .po 0 0)]⟩, [.lv 2 [.i a0.Actuators, .ro (a0.Steps.map cSStep)]]⟩ ?_
          refine Gh_e ⟨⟨58, [(1, .ro (a1.map cI_i64)), (3, .po 0 0)]⟩, [.lv 2 [.i a0.Actuators, .ro (a0.Steps.map cSStep)]]⟩ ?_
          refine W_seq ?_
          refine W_seq ?_
          refine W_reg ?_
          refine O_p 1 ?_
          refine O_len (l := a1) cI_i64 (by kernel_rfl) (by kernel_rfl) ?_
          refine O_p 1 ?_
          refine O_nil ?_
          refine W_loop (fun s7 : Int => ⟨⟨58, [(1, .ro (a1.map cI_i64)), (3, .po 0 0), (28, .ro (a1.map cI_i64)), (29, .i (a1.length : Int)), (30, .i s7)]⟩, [.lv 2 [.i a0.Actuators, .ro (a0.Steps.map cSStep)]]⟩) (fun w8 : Unit => ⟨⟨58, []⟩, [.lv 2 [.i a0.Actuators, .ro (a0.Steps.map cSStep)]]⟩) h (by kernel_rfl) (fun s7 c h => ?_) (fun w8 h => ?_)
          · refine W_gh ?_
            refine W_seq ?_
            refine W_reg ?_
            refine O_p 1 ?_
            refine O_nil ?_
            refine W_seq ?_
            refine W_gh ?_
            refine W_cond (c := (decide (s7 < (a1.length : Int)))) (by kernel_rfl) (fun c9 => ?_) (fun c9 => ?_)
            · replace h := fork_t c9 h
              refine W_skip ?_
              refine Gh_e ⟨⟨58, [(1, .ro (a1.map cI_i64)), (3, .po 0 0), (28, .ro (a1.map cI_i64)), (29, .i (a1.length : Int)), (30, .i s7)]⟩, [.lv 2 [.i a0.Actuators, .ro (a0.Steps.map cSStep)]]⟩ ?_
              refine W_seq ?_
              refine W_gh ?_
              refine W_block ?_
              refine W_seq ?_
              refine W_gh ?_
              refine W_reg ?_
              refine O_p 1 ?_
              refine O_idx (kd := .i64) cI_i64 h (fun _ => rfl) (by kernel_rfl) (by kernel_rfl) (by kernel_rfl) (fun v10 e_v10 h => ?_)
              refine O_p 3 ?_
              refine O_nil ?_
              refine Gh_e ⟨⟨58, [(1, .ro (a1.map cI_i64)), (3, .po 0 0), (7, .i s7), (8, .i v10), (28, .ro (a1.map cI_i64)), (29, .i (a1.length : Int)), (30, .i s7)]⟩, [.lv 2 [.i a0.Actuators, .ro (a0.Steps.map cSStep)]]⟩ ?_
              refine W_gh ?_
              refine W_block ?_
              refine W_seq ?_
              refine W_cut ⟨⟨58, [(1, .ro (a1.map cI_i64)), (3, .po 0 0), (7, .i s7), (8, .i v10), (28, .ro (a1.map cI_i64)), (29, .i (a1.length : Int)), (30, .i s7), (35, .bool ((decide (v10 < 0)) || (decide (v10 ≥ (a0.Steps.length : Int)))))]⟩, [.lv 2 [.i a0.Actuators, .ro (a0.Steps.map cSStep)]]⟩ ?_ ?_
              · generalize e_g11 : ((decide (v10 < 0)) || (decide (v10 ≥ (a0.Steps.length : Int)))) = g11
                refine W_gh ?_
                refine W_reg ?_
                refine O_p 3 ?_
                refine O_fork (n := 38) (decide (v10 < 0)) (by kernel_rfl) (fun c12 => ?_) (fun c12 => ?_)
                · skip
                  refine O_p 7 ?_
                  refine O_nil ?_
                  refine Gh_e ⟨⟨58, [(1, .ro (a1.map cI_i64)), (3, .po 0 0), (7, .i s7), (8, .i v10), (28, .ro (a1.map cI_i64)), (29, .i (a1.length : Int)), (30, .i s7), (35, .bool true)]⟩, [.lv 2 [.i a0.Actuators, .ro (a0.Steps.map cSStep)]]⟩ ?_
                  have q := e_g11; simp only [c1, c2, c6, c9, c12, cond_true, cond_false, Bool.true_and, Bool.false_and, Bool.true_or, Bool.false_or] at q; subst q
                  show _ = _
                  kernel_rfl
                · skip
                  refine O_p 3 ?_
                  refine O_len (l := a0.Steps) cSStep (by kernel_rfl) (by kernel_rfl) ?_
                  refine O_p 3 ?_
                  refine O_nil ?_
                  refine Gh_e ⟨⟨58, [(1, .ro (a1.map cI_i64)), (3, .po 0 0), (7, .i s7), (8, .i v10), (28, .ro (a1.map cI_i64)), (29, .i (a1.length : Int)), (30, .i s7), (35, .bool (decide (v10 ≥ (a0.Steps.length : Int))))]⟩, [.lv 2 [.i a0.Actuators, .ro (a0.Steps.map cSStep)]]⟩ ?_
                  have q := e_g11; simp only [c1, c2, c6, c9, c12, cond_true, cond_false, Bool.true_and, Bool.false_and, Bool.true_or, Bool.false_or] at q; subst q
                  show _ = _
                  kernel_rfl
              · refine W_gh ?_
                refine W_cond (c := ((decide (v10 < 0)) || (decide (v10 ≥ (a0.Steps.length : Int))))) (by kernel_rfl) (fun c13 => ?_) (fun c13 => ?_)
                · replace h := fork_t c13 h
                  refine W_seq ?_
                  refine W_reg ?_
                  refine O_p 1 ?_
                  refine O_nil ?_
                  refine W_ret ?_
                  replace h := Option.some.inj h; subst h
                  refine ⟨_, rfl, fun h => ?_⟩
                  replace h := Option.some.inj h; subst h
                  exact Fin_free (l := [.i 2]) (by kernel_rfl) (by kernel_rfl) rfl
                · replace h := fork_f c13 h
                  refine W_seq ?_
                  refine W_joinS (fun v : Bool => ⟨⟨58, [(1, .ro (a1.map cI_i64)), (3, .po 0 0), (28, .ro (a1.map cI_i64)), (29, .i (a1.length : Int)), (30, .i s7), (35, .bool ((decide (v10 < 0)) || (decide (v10 ≥ (a0.Steps.length : Int))))), (45, .bool v)]⟩, [.lv 2 [.i a0.Actuators, .ro (a0.Steps.map cSStep)]]⟩) h (fun w h => ?_) (fun w14 e_w14 h => ?_)
                  · refine W_gh ?_
                    refine W_reg ?_
                    refine O_p 3 ?_
                    refine O_fork (n := 48) (decide (s7 > 0)) (by kernel_rfl) (fun c15 => ?_) (fun c15 => ?_)
                    · replace h := fork_t c15 h
                      refine O_p 4 ?_
                      refine O_idx (kd := .i64) cI_i64 h (fun _ => rfl) (by kernel_rfl) (by kernel_rfl) (by kernel_rfl) (fun v16 e_v16 h => ?_)
                      refine O_p 4 ?_
                      refine O_nil ?_
                      refine Gh_e ⟨⟨58, [(1, .ro (a1.map cI_i64)), (3, .po 0 0), (28, .ro (a1.map cI_i64)), (29, .i (a1.length : Int)), (30, .i s7), (35, .bool ((decide (v10 < 0)) || (decide (v10 ≥ (a0.Steps.length : Int))))), (45, .bool (decide (v10 ≤ v16)))]⟩, [.lv 2 [.i a0.Actuators, .ro (a0.Steps.map cSStep)]]⟩ ?_
                      replace h := Option.some.inj h; subst h
                      show _ = _
                      kernel_rfl
                    · replace h := fork_f c15 h
                      refine O_p 9 ?_
                      refine O_nil ?_
                      refine Gh_e ⟨⟨58, [(1, .ro (a1.map cI_i64)), (3, .po 0 0), (28, .ro (a1.map cI_i64)), (29, .i (a1.length : Int)), (30, .i s7), (35, .bool ((decide (v10 < 0)) || (decide (v10 ≥ (a0.Steps.length : Int))))), (45, .bool false)]⟩, [.lv 2 [.i a0.Actuators, .ro (a0.Steps.map cSStep)]]⟩ ?_
                      replace h := Option.some.inj h; subst h
                      show _ = _
                      kernel_rfl
                  · refine W_gh ?_
                    refine W_cond (c := w14) (by kernel_rfl) (fun c17 => ?_) (fun c17 => ?_)
                    · replace h := fork_t c17 h
                      refine W_seq ?_
                      refine W_reg ?_
                      refine O_p 1 ?_
                      refine O_nil ?_
                      refine W_ret ?_
                      replace h := Option.some.inj h; subst h
                      refine ⟨_, rfl, fun h => ?_⟩
                      replace h := Option.some.inj h; subst h
                      exact Fin_free (l := [.i 9]) (by kernel_rfl) (by kernel_rfl) rfl
                    · replace h := fork_f c17 h
                      refine W_skip ?_
                      refine Gh_e ⟨⟨58, [(1, .ro (a1.map cI_i64)), (3, .po 0 0), (28, .ro (a1.map cI_i64)), (29, .i (a1.length : Int)), (30, .i s7), (35, .bool ((decide (v10 < 0)) || (decide (v10 ≥ (a0.Steps.length : Int)))))]⟩, [.lv 2 [.i a0.Actuators, .ro (a0.Steps.map cSStep)]]⟩ ?_
                      refine Gh_e ⟨⟨58, [(1, .ro (a1.map cI_i64)), (3, .po 0 0), (28, .ro (a1.map cI_i64)), (29, .i (a1.length : Int)), (30, .i s7)]⟩, [.lv 2 [.i a0.Actuators, .ro (a0.Steps.map cSStep)]]⟩ ?_
                      refine Gh_e ⟨⟨58, [(1, .ro (a1.map cI_i64)), (3, .po 0 0), (28, .ro (a1.map cI_i64)), (29, .i (a1.length : Int)), (30, .i s7)]⟩, [.lv 2 [.i a0.Actuators, .ro (a0.Steps.map cSStep)]]⟩ ?_
                      refine Gh_e ⟨⟨58, [(1, .ro (a1.map cI_i64)), (3, .po 0 0), (28, .ro (a1.map cI_i64)), (29, .i (a1.length : Int)), (30, .i s7)]⟩, [.lv 2 [.i a0.Actuators, .ro (a0.Steps.map cSStep)]]⟩ ?_
                      refine W_gh ?_
                      refine W_reg ?_
                      refine O_p 2 ?_
                      refine O_nil ?_
                      refine Gh_e ⟨⟨58, [(1, .ro (a1.map cI_i64)), (3, .po 0 0), (28, .ro (a1.map cI_i64)), (29, .i (a1.length : Int)), (30, .i (addI .i64 s7 1))]⟩, [.lv 2 [.i a0.Actuators, .ro (a0.Steps.map cSStep)]]⟩ ?_
                      refine Gh_e ⟨⟨58, [(1, .ro (a1.map cI_i64)), (3, .po 0 0), (28, .ro (a1.map cI_i64)), (29, .i (a1.length : Int)), (30, .i (addI .i64 s7 1))]⟩, [.lv 2 [.i a0.Actuators, .ro (a0.Steps.map cSStep)]]⟩ ?_
                      replace h := Option.some.inj h; subst h
                      exact ⟨_, rfl, by kernel_rfl⟩
            · replace h := fork_f c9 h
              refine W_exit ?_
              refine X_hit ?_
              refine Gh_e ⟨⟨58, []⟩, [.lv 2 [.i a0.Actuators, .ro (a0.Steps.map cSStep)]]⟩ ?_
              replace h := Option.some.inj h; subst h
              exact ⟨_, rfl, by kernel_rfl⟩
          · refine W_seq ?_
            refine W_reg ?_
            refine O_p 1 ?_
            refine O_nil ?_
            refine W_ret ?_
            replace h := Option.some.inj h; subst h
            exact Fin_free (l := [.i 0]) (by kernel_rfl) (by kernel_rfl) rfl

theorem p48 (a0 : SSequence) (a1 : (List Int)) (r : (List Int)) (h : m48 a0 a1 = some r) : Pt E0 hp 48 [.agg (cSSequence a0), .ro (a1.map cI_i64)] (.ro (r.map cI_i64)) := by
  unfold m48 at h
  refine Pt_W (fn48) rfl (by decide) ?_
  refine W_seq ?_
  refine W_gh ?_
  refine W_reg ?_
  refine O_p 2 ?_
  refine O_nil ?_
  refine Gh_e ⟨⟨41, [(1, .ro (a1.map cI_i64)), (2, .po 0 0)]⟩, [.lv 2 [.i a0.Actuators, .ro (a0.Steps.map cSStep)]]⟩ ?_
  refine W_seq ?_
  refine W_gh ?_
  refine W_reg ?_
  refine O_p 1 ?_
  refine O_nil ?_
  refine Gh_e ⟨⟨41, [(1, .ro (a1.map cI_i64)), (2, .po 0 0), (5, .own 1 0 0 0)]⟩, [.lv 2 [.i a0.Actuators, .ro (a0.Steps.map cSStep)], .live .nil 1 (([] : List Int).map cI_i64)]⟩ ?_
  refine W_seq ?_
  refine W_seq ?_
  refine W_reg ?_
  refine O_p 1 ?_
  refine O_len (l := a1) cI_i64 (by kernel_rfl) (by kernel_rfl) ?_
  refine O_p 1 ?_
  refine O_nil ?_
  refine W_loopS (fun s1 : (List Int) × Int => ⟨⟨41, [(1, .ro (a1.map cI_i64)), (2, .po 0 0), (5, .own 1 s1.1.length 0 s1.1.length), (9, .ro (a1.map cI_i64)), (10, .i (a1.length : Int)), (11, .i s1.2)]⟩, [.lv 2 [.i a0.Actuators, .ro (a0.Steps.map cSStep)], .live .nil 1 (s1.1.map cI_i64)]⟩) (fun w2 : (List Int) => ⟨⟨41, [(5, .own 1 w2.length 0 w2.length)]⟩, [.lv 2 [.i a0.Actuators, .ro (a0.Steps.map cSStep)], .live .nil 1 (w2.map cI_i64)]⟩) h (by kernel_rfl) (fun s1 c h => ?_) (fun w2 e_w2 h => ?_)
  · refine W_gh ?_
    refine W_seq ?_
    refine W_reg ?_
    refine O_p 1 ?_
    refine O_nil ?_
    refine W_seq ?_
    refine W_gh ?_
    refine W_cond (c := (decide (s1.2 < (a1.length : Int)))) (by kernel_rfl) (fun c3 => ?_) (fun c3 => ?_)
    · replace h := fork_t c3 h
      refine W_skip ?_
      refine Gh_e ⟨⟨41, [(1, .ro (a1.map cI_i64)), (2, .po 0 0), (5, .own 1 s1.1.length 0 s1.1.length), (9, .ro (a1.map cI_i64)), (10, .i (a1.length : Int)), (11, .i s1.2)]⟩, [.lv 2 [.i a0.Actuators, .ro (a0.Steps.map cSStep)], .live .nil 1 (s1.1.map cI_i64)]⟩ ?_
      refine W_seq ?_
      refine W_gh ?_
      refine W_block ?_
      refine W_seq ?_
      refine W_gh ?_
      refine W_reg ?_
      refine O_p 1 ?_
      refine O_idx (kd := .i64) cI_i64 h (fun _ => rfl) (by kernel_rfl) (by kernel_rfl) (by kernel_rfl) (fun v4 e_v4 h => ?_)
      refine O_p 3 ?_
      refine O_nil ?_
      refine Gh_e ⟨⟨41, [(1, .ro (a1.map cI_i64)), (2, .po 0 0), (5, .own 1 s1.1.length 0 s1.1.length), (6, .i s1.2), (7, .i v4), (9, .ro (a1.map cI_i64)), (10, .i (a1.length : Int)), (11, .i s1.2)]⟩, [.lv 2 [.i a0.Actuators, .ro (a0.Steps.map cSStep)], .live .nil 1 (s1.1.map cI_i64)]⟩ ?_
      refine W_seq ?_
      refine W_gh ?_
      refine W_draw ?_
      refine O_p 1 ?_
      refine O_idx (kd := .i64) cI_i64 h (fun _ => rfl) (by kernel_rfl) (by kernel_rfl) (by kernel_rfl) (fun v5 e_v5 h => ?_)
      refine O_p 3 ?_
      refine O_len (l := a0.Steps) cSStep (by kernel_rfl) (by kernel_rfl) ?_
      refine O_p 2 ?_
      refine O_nil ?_
      refine Gh_e ⟨⟨41, [(1, .ro (a1.map cI_i64)), (2, .po 0 0), (5, .own 1 s1.1.length 0 s1.1.length), (6, .i s1.2), (7, .i v4), (8, .i (addI .i64 v5 (a0.Steps.length : Int))), (9, .ro (a1.map cI_i64)), (10, .i (a1.length : Int)), (11, .i s1.2)]⟩, [.lv 2 [.i a0.Actuators, .ro (a0.Steps.map cSStep)], .live .nil 1 (s1.1.map cI_i64)]⟩ ?_
      refine W_seq ?_
      refine W_seq ?_
      refine W_gh ?_
      refine W_reg ?_
      refine O_p 3 ?_
      refine O_len (l := a1) cI_i64 (by kernel_rfl) (by kernel_rfl) ?_
      refine O_p 1 ?_
      refine O_nil ?_
      refine Gh_e ⟨⟨41, [(1, .ro (a1.map cI_i64)), (2, .po 0 0), (5, .own 1 s1.1.length 0 s1.1.length), (6, .i s1.2), (7, .i v4), (8, .i (addI .i64 v5 (a0.Steps.length : Int))), (9, .ro (a1.map cI_i64)), (10, .i (a1.length : Int)), (11, .i s1.2), (27, .bool (decide ((addI .i64 s1.2 1) < (a1.length : Int))))]⟩, [.lv 2 [.i a0.Actuators, .ro (a0.Steps.map cSStep)], .live .nil 1 (s1.1.map cI_i64)]⟩ ?_
      refine W_joinS (fun v : Int => ⟨⟨41, [(1, .ro (a1.map cI_i64)), (2, .po 0 0), (5, .own 1 s1.1.length 0 s1.1.length), (7, .i v4), (8, .i v), (9, .ro (a1.map cI_i64)), (10, .i (a1.length : Int)), (11, .i s1.2)]⟩, [.lv 2 [.i a0.Actuators, .ro (a0.Steps.map cSStep)], .live .nil 1 (s1.1.map cI_i64)]⟩) h (fun w h => ?_) (fun w6 e_w6 h => ?_)
      · refine W_gh ?_
        refine W_cond (c := (decide ((addI .i64 s1.2 1) < (a1.length : Int)))) (by kernel_rfl) (fun c7 => ?_) (fun c7 => ?_)
        · replace h := fork_t c7 h
          refine W_gh ?_
          refine W_reg ?_
          refine O_p 3 ?_
          refine O_idx (kd := .i64) cI_i64 h (fun _ => rfl) (by kernel_rfl) (by kernel_rfl) (by kernel_rfl) (fun v8 e_v8 h => ?_)
          refine O_p 2 ?_
          refine O_nil ?_
          refine Gh_e ⟨⟨41, [(1, .ro (a1.map cI_i64)), (2, .po 0 0), (5, .own 1 s1.1.length 0 s1.1.length), (7, .i v4), (8, .i v8), (9, .ro (a1.map cI_i64)), (10, .i (a1.length : Int)), (11, .i s1.2), (27, .bool (decide ((addI .i64 s1.2 1) < (a1.length : Int))))]⟩, [.lv 2 [.i a0.Actuators, .ro (a0.Steps.map cSStep)], .live .nil 1 (s1.1.map cI_i64)]⟩ ?_
          refine Gh_e ⟨⟨41, [(1, .ro (a1.map cI_i64)), (2, .po 0 0), (5, .own 1 s1.1.length 0 s1.1.length), (7, .i v4), (8, .i v8), (9, .ro (a1.map cI_i64)), (10, .i (a1.length : Int)), (11, .i s1.2)]⟩, [.lv 2 [.i a0.Actuators, .ro (a0.Steps.map cSStep)], .live .nil 1 (s1.1.map cI_i64)]⟩ ?_
          replace h := Option.some.inj h; subst h
          show _ = _
          kernel_rfl
        · replace h := fork_f c7 h
          refine W_skip ?_
          refine Gh_e ⟨⟨41, [(1, .ro (a1.map cI_i64)), (2, .po 0 0), (5, .own 1 s1.1.length 0 s1.1.length), (7, .i v4), (8, .i (addI .i64 v5 (a0.Steps.length : Int))), (9, .ro (a1.map cI_i64)), (10, .i (a1.length : Int)), (11, .i s1.2)]⟩, [.lv 2 [.i a0.Actuators, .ro (a0.Steps.map cSStep)], .live .nil 1 (s1.1.map cI_i64)]⟩ ?_
          replace h := Option.some.inj h; subst h
          show _ = _
          kernel_rfl
      · refine W_gh ?_
        refine W_reg ?_
        refine O_p 5 ?_
        refine O_app (C := cI_i64) (id := 1) (nl := .nil) okI_i64 h rfl (by kernel_rfl) (by kernel_rfl) (by kernel_rfl) (by kernel_rfl) rfl (fun l9 e_l9 h => ?_)
        refine O_p 1 ?_
        refine O_nil ?_
        refine Gh_one (s1 := ⟨⟨41, [(1, .ro (a1.map cI_i64)), (2, .po 0 0), (5, .own 1 l9.length 0 l9.length), (9, .ro (a1.map cI_i64)), (10, .i (a1.length : Int)), (11, .i s1.2)]⟩, [.lv 2 [.i a0.Actuators, .ro (a0.Steps.map cSStep)], .live .nil 1 (l9.map cI_i64), .live .norm 1 (([(subI .i64 w6 v4)] : List Int).map cI_i64)]⟩) (by kernel_rfl) ?_
        refine Gh_at (s1 := ⟨⟨41, [(1, .ro (a1.map cI_i64)), (2, .po 0 0), (5, .own 1 l9.length 0 l9.length), (9, .ro (a1.map cI_i64)), (10, .i (a1.length : Int)), (11, .i s1.2)]⟩, [.lv 2 [.i a0.Actuators, .ro (a0.Steps.map cSStep)], .live .nil 1 (l9.map cI_i64), .live .norm 1 (([(subI .i64 w6 v4)] : List Int).map cI_i64)]⟩) (by kernel_rfl) ?_
        refine Gh_trunc (s1 := ⟨⟨41, [(1, .ro (a1.map cI_i64)), (2, .po 0 0), (5, .own 1 l9.length 0 l9.length), (9, .ro (a1.map cI_i64)), (10, .i (a1.length : Int)), (11, .i s1.2)]⟩, [.lv 2 [.i a0.Actuators, .ro (a0.Steps.map cSStep)], .live .nil 1 (l9.map cI_i64)]⟩) (by kernel_rfl) (tb_free (ro_bel okI_i64.bel _) (tb_ref rfl (tb_ref rfl (tb_free (ro_bel okI_i64.bel _) (tb_free rfl (tb_free rfl rfl)))))) (H1 := [.lv 2 [.i a0.Actuators, .ro (a0.Steps.map cSStep)], .live .nil 1 (l9.map cI_i64)]) (by kernel_rfl) (ob_boxn (bn_free rfl (bn_free (ro_bel okSStep.bel _) rfl)) (ob_list okI_i64.bel rfl)) (by kernel_rfl) ?_
        refine Gh_nil ?_
        refine Gh_one (s1 := ⟨⟨41, [(1, .ro (a1.map cI_i64)), (2, .po 0 0), (5, .own 1 l9.length 0 l9.length), (9, .ro (a1.map cI_i64)), (10, .i (a1.length : Int)), (11, .i s1.2)]⟩, [.lv 2 [.i a0.Actuators, .ro (a0.Steps.map cSStep)], .live .nil 1 (l9.map cI_i64)]⟩) (by kernel_rfl) ?_
        refine Gh_trunc0 (by kernel_rfl) ?_
        refine Gh_nil ?_
        refine W_gh ?_
        refine W_reg ?_
        refine O_p 2 ?_
        refine O_nil ?_
        refine Gh_e ⟨⟨41, [(1, .ro (a1.map cI_i64)), (2, .po 0 0), (5, .own 1 l9.length 0 l9.length), (9, .ro (a1.map cI_i64)), (10, .i (a1.length : Int)), (11, .i (addI .i64 s1.2 1))]⟩, [.lv 2 [.i a0.Actuators, .ro (a0.Steps.map cSStep)], .live .nil 1 (l9.map cI_i64)]⟩ ?_
        refine Gh_one (s1 := ⟨⟨41, [(1, .ro (a1.map cI_i64)), (2, .po 0 0), (5, .own 1 l9.length 0 l9.length), (9, .ro (a1.map cI_i64)), (10, .i (a1.length : Int)), (11, .i (addI .i64 s1.2 1))]⟩, [.lv 2 [.i a0.Actuators, .ro (a0.Steps.map cSStep)], .live .nil 1 (l9.map cI_i64)]⟩) (by kernel_rfl) ?_
        refine Gh_trunc0 (by kernel_rfl) ?_
        refine Gh_nil ?_
        replace h := Option.some.inj h; subst h
        exact ⟨_, rfl, by kernel_rfl⟩
    · replace h := fork_f c3 h
      refine W_exit ?_
      refine X_hit ?_
      refine Gh_one (s1 := ⟨⟨41, [(5, .own 1 s1.1.length 0 s1.1.length)]⟩, [.lv 2 [.i a0.Actuators, .ro (a0.Steps.map cSStep)], .live .nil 1 (s1.1.map cI_i64)]⟩) (by kernel_rfl) ?_
      refine Gh_trunc0 (by kernel_rfl) ?_
      refine Gh_nil ?_
      replace h := Option.some.inj h; subst h
      exact ⟨_, rfl, by kernel_rfl⟩
  · refine W_seq ?_
    refine W_gh ?_
    refine W_reg ?_
    refine O_p 2 ?_
    refine O_nil ?_
    refine Gh_e ⟨⟨41, [(4, .own 1 w2.length 0 w2.length)]⟩, [.lv 2 [.i a0.Actuators, .ro (a0.Steps.map cSStep)], .live .nil 1 (w2.map cI_i64)]⟩ ?_
    refine W_ret ?_
    replace h := Option.some.inj h; subst h
    exact Fin_pk (l := [.own 1 w2.length 0 w2.length]) (by kernel_rfl) (pk_own (d := 5) (id := 1) (nl := .nil) (sz := 1) (l := w2) okI_i64.bel (by kernel_rfl) rfl)

theorem p47 (a0 : SSequence) (a1 : (List Int)) (a2 : Bool) (r : Int) (h : m47 a0 a1 a2 = some r) : Pt E0 hp 47 [.agg (cSSequence a0), .ro (a1.map cI_i64), .bool a2] (.i r) := by
  unfold m47 at h
  refine Pt_W (fn47) rfl (by decide) ?_
  refine W_seq ?_
  refine W_gh ?_
  refine W_reg ?_
  refine O_p 2 ?_
  refine O_nil ?_
  refine Gh_e ⟨⟨47, [(1, .ro (a1.map cI_i64)), (2, .bool a2), (3, .po 0 0)]⟩, [.lv 2 [.i a0.Actuators, .ro (a0.Steps.map cSStep)]]⟩ ?_
  refine W_seq ?_
  refine W_seq ?_
  refine W_gh ?_
  refine W_reg ?_
  refine O_p 1 ?_
  refine O_call (fun v => .i v) h (.inr rfl) (ys := [.agg (cSSequence a0)]) (fun _ e => p35 _ _ e) (by kernel_rfl) (by kernel_rfl) (bels_cons (okSSequence.bel _) rfl) (fun v1 e_v1 h => ?_)
  refine O_p 1 ?_
  refine O_nil ?_
  refine Gh_e ⟨⟨47, [(1, .ro (a1.map cI_i64)), (2, .bool a2), (3, .po 0 0), (7, .i v1)]⟩, [.lv 2 [.i a0.Actuators, .ro (a0.Steps.map cSStep)]]⟩ ?_
  refine W_seq ?_
  refine W_gh ?_
  refine W_reg ?_
  refine O_p 2 ?_
  refine O_nil ?_
  refine Gh_e ⟨⟨47, [(1, .ro (a1.map cI_i64)), (2, .bool a2), (3, .po 0 0), (7, .i v1), (16, .bool (v1 != 0))]⟩, [.lv 2 [.i a0.Actuators, .ro (a0.Steps.map cSStep)]]⟩ ?_
  refine W_gh ?_
  refine W_cond (c := (v1 != 0)) (by kernel_rfl) (fun c2 => ?_) (fun c2 => ?_)
  · replace h := fork_t c2 h
    refine W_seq ?_
    refine W_gh ?_
    refine W_reg ?_
    refine O_p 2 ?_
    refine O_nil ?_
    refine Gh_e ⟨⟨47, [(1, .ro (a1.map cI_i64)), (2, .bool a2), (3, .po 0 0), (6, .i v1), (16, .bool (v1 != 0))]⟩, [.lv 2 [.i a0.Actuators, .ro (a0.Steps.map cSStep)]]⟩ ?_
    refine W_ret ?_
    replace h := Option.some.inj h; subst h
    exact Fin_free (l := [.i v1]) (by kernel_rfl) (by kernel_rfl) rfl
  · replace h := fork_f c2 h
    refine W_skip ?_
    refine Gh_e ⟨⟨47, [(1, .ro (a1.map cI_i64)), (2, .bool a2), (3, .po 0 0)]⟩, [.lv 2 [.i a0.Actuators, .ro (a0.Steps.map cSStep)]]⟩ ?_
    refine W_seq ?_
    refine W_seq ?_
    refine W_gh ?_
    refine W_reg ?_
    refine O_p 3 ?_
    refine O_call (fun v => .i v) h (.inr rfl) (ys := [.agg (cSSequence a0), .ro (a1.map cI_i64), .bool a2]) (fun _ e => p68 _ _ _ _ e) (by kernel_rfl) (by kernel_rfl) (bels_cons (okSSequence.bel _) (bels_cons (ro_bel okI_i64.bel _) (bels_cons rfl rfl))) (fun v3 e_v3 h => ?_)
    refine O_p 1 ?_
    refine O_nil ?_
    refine Gh_e ⟨⟨47, [(1, .ro (a1.map cI_i64)), (3, .po 0 0), (8, .i v3)]⟩, [.lv 2 [.i a0.Actuators, .ro (a0.Steps.map cSStep)]]⟩ ?_
    refine W_seq ?_
    refine W_gh ?_
    refine W_reg ?_
    refine O_p 2 ?_
    refine O_nil ?_
    refine Gh_e ⟨⟨47, [(1, .ro (a1.map cI_i64)), (3, .po 0 0), (8, .i v3), (23, .bool (v3 != 0))]⟩, [.lv 2 [.i a0.Actuators, .ro (a0.Steps.map cSStep)]]⟩ ?_
    refine W_gh ?_
    refine W_cond (c := (v3 != 0)) (by kernel_rfl) (fun c4 => ?_) (fun c4 => ?_)
    · replace h := fork_t c4 h
      refine W_seq ?_
      refine W_gh ?_
      refine W_reg ?_
      refine O_p 2 ?_
      refine O_nil ?_
      refine Gh_e ⟨⟨47, [(1, .ro (a1.map cI_i64)), (3, .po 0 0), (6, .i v3), (23, .bool (v3 != 0))]⟩, [.lv 2 [.i a0.Actuators, .ro (a0.Steps.map cSStep)]]⟩ ?_
      refine W_ret ?_
      replace h := Option.some.inj h; subst h
      exact Fin_free (l := [.i v3]) (by kernel_rfl) (by kernel_rfl) rfl
    · replace h := fork_f c4 h
      refine W_skip ?_
      refine Gh_e ⟨⟨47, [(1, .ro (a1.map cI_i64)), (3, .po 0 0)]⟩, [.lv 2 [.i a0.Actuators, .ro (a0.Steps.map cSStep)]]⟩ ?_
      refine W_seq ?_
      refine W_seq ?_
      refine W_gh ?_
      refine W_reg ?_
      refine O_p 2 ?_
      refine O_call (fun v => .ro (v.map cI_i64)) h (.inr rfl) (ys := [.agg (cSSequence a0), .ro (a1.map cI_i64)]) (fun _ e => p48 _ _ _ e) (by kernel_rfl) (by kernel_rfl) (bels_cons (okSSequence.bel _) (bels_cons (ro_bel okI_i64.bel _) rfl)) (fun v5 e_v5 h => ?_)
      refine O_len (l := v5) cI_i64 (by kernel_rfl) (by kernel_rfl) ?_
      refine O_p 1 ?_
      refine O_nil ?_
      refine Gh_e ⟨⟨47, [(1, .ro (a1.map cI_i64)), (3, .po 0 0), (27, .ro (v5.map cI_i64)), (28, .i (v5.length : Int)), (29, .i 0)]⟩, [.lv 2 [.i a0.Actuators, .ro (a0.Steps.map cSStep)]]⟩ ?_
      refine W_loop (fun s6 : Int => ⟨⟨47, [(1, .ro (a1.map cI_i64)), (3, .po 0 0), (27, .ro (v5.map cI_i64)), (28, .i (v5.length : Int)), (29, .i s6)]⟩, [.lv 2 [.i a0.Actuators, .ro (a0.Steps.map cSStep)]]⟩) (fun w7 : Unit => ⟨⟨47, []⟩, [.lv 2 [.i a0.Actuators, .ro (a0.Steps.map cSStep)]]⟩) h (by kernel_rfl) (fun s6 c h => ?_) (fun w7 h => ?_)
      · refine W_gh ?_
        refine W_seq ?_
        refine W_reg ?_
        refine O_p 1 ?_
        refine O_nil ?_
        refine W_seq ?_
        refine W_gh ?_
        refine W_cond (c := (decide (s6 < (v5.length : Int)))) (by kernel_rfl) (fun c8 => ?_) (fun c8 => ?_)
        · replace h := fork_t c8 h
          refine W_skip ?_
          refine Gh_e ⟨⟨47, [(1, .ro (a1.map cI_i64)), (3, .po 0 0), (27, .ro (v5.map cI_i64)), (28, .i (v5.length : Int)), (29, .i s6)]⟩, [.lv 2 [.i a0.Actuators, .ro (a0.Steps.map cSStep)]]⟩ ?_
          refine W_seq ?_
          refine W_gh ?_
          refine W_block ?_
          refine W_seq ?_
          refine W_gh ?_
          refine W_reg ?_
          refine O_p 1 ?_
          refine O_idx (kd := .i64) cI_i64 h (fun _ => rfl) (by kernel_rfl) (by kernel_rfl) (by kernel_rfl) (fun v9 e_v9 h => ?_)
          refine O_p 3 ?_
          refine O_nil ?_
          refine Gh_e ⟨⟨47, [(1, .ro (a1.map cI_i64)), (3, .po 0 0), (9, .i s6), (10, .i v9), (27, .ro (v5.map cI_i64)), (28, .i (v5.length : Int)), (29, .i s6)]⟩, [.lv 2 [.i a0.Actuators, .ro (a0.Steps.map cSStep)]]⟩ ?_
          refine W_seq ?_
          refine W_gh ?_
          refine W_draw ?_
          refine O_p 3 ?_
          refine O_idx (kd := .i64) cI_i64 h (fun _ => rfl) (by kernel_rfl) (by kernel_rfl) (by kernel_rfl) (fun v10 e_v10 h => ?_)
          refine O_p 2 ?_
          refine O_call (fun v => .tup [.int .u64 v.1, .bool v.2]) h (.inr rfl) (ys := [.agg (cSSequence a0), .i v10, .i v9]) (fun _ e => p44 _ _ _ _ e) (by kernel_rfl) (by kernel_rfl) (bels_cons (okSSequence.bel _) (bels_cons rfl (bels_cons rfl rfl))) (fun v11 e_v11 h => ?_)
          refine O_p 5 ?_
          refine O_nil ?_
          refine Gh_e ⟨⟨47, [(1, .ro (a1.map cI_i64)), (3, .po 0 0), (12, .bool v11.2), (27, .ro (v5.map cI_i64)), (28, .i (v5.length : Int)), (29, .i s6)]⟩, [.lv 2 [.i a0.Actuators, .ro (a0.Steps.map cSStep)]]⟩ ?_
          refine W_seq ?_
          refine W_gh ?_
          refine W_reg ?_
          refine O_p 2 ?_
          refine O_nil ?_
          refine Gh_e ⟨⟨47, [(1, .ro (a1.map cI_i64)), (3, .po 0 0), (27, .ro (v5.map cI_i64)), (28, .i (v5.length : Int)), (29, .i s6), (45, .bool (!v11.2))]⟩, [.lv 2 [.i a0.Actuators, .ro (a0.Steps.map cSStep)]]⟩ ?_
          refine W_gh ?_
          refine W_cond (c := (!v11.2)) (by kernel_rfl) (fun c12 => ?_) (fun c12 => ?_)
          · replace h := fork_t c12 h
            refine W_seq ?_
            refine W_reg ?_
            refine O_p 1 ?_
            refine O_nil ?_
            refine W_ret ?_
            replace h := Option.some.inj h; subst h
            refine ⟨_, rfl, fun h => ?_⟩
            replace h := Option.some.inj h; subst h
            exact Fin_free (l := [.i 7]) (by kernel_rfl) (by kernel_rfl) rfl
          · replace h := fork_f c12 h
            refine W_skip ?_
            refine Gh_e ⟨⟨47, [(1, .ro (a1.map cI_i64)), (3, .po 0 0), (27, .ro (v5.map cI_i64)), (28, .i (v5.length : Int)), (29, .i s6)]⟩, [.lv 2 [.i a0.Actuators, .ro (a0.Steps.map cSStep)]]⟩ ?_
            refine Gh_e ⟨⟨47, [(1, .ro (a1.map cI_i64)), (3, .po 0 0), (27, .ro (v5.map cI_i64)), (28, .i (v5.length : Int)), (29, .i s6)]⟩, [.lv 2 [.i a0.Actuators, .ro (a0.Steps.map cSStep)]]⟩ ?_
            refine W_gh ?_
            refine W_reg ?_
            refine O_p 2 ?_
            refine O_nil ?_
            refine Gh_e ⟨⟨47, [(1, .ro (a1.map cI_i64)), (3, .po 0 0), (27, .ro (v5.map cI_i64)), (28, .i (v5.length : Int)), (29, .i (addI .i64 s6 1))]⟩, [.lv 2 [.i a0.Actuators, .ro (a0.Steps.map cSStep)]]⟩ ?_
            refine Gh_e ⟨⟨47, [(1, .ro (a1.map cI_i64)), (3, .po 0 0), (27, .ro (v5.map cI_i64)), (28, .i (v5.length : Int)), (29, .i (addI .i64 s6 1))]⟩, [.lv 2 [.i a0.Actuators, .ro (a0.Steps.map cSStep)]]⟩ ?_
            replace h := Option.some.inj h; subst h
            exact ⟨_, rfl, by kernel_rfl⟩
        · replace h := fork_f c8 h
          refine W_exit ?_
          refine X_hit ?_
          refine Gh_e ⟨⟨47, []⟩, [.lv 2 [.i a0.Actuators, .ro (a0.Steps.map cSStep)]]⟩ ?_
          replace h := Option.some.inj h; subst h
          exact ⟨_, rfl, by kernel_rfl⟩
      · refine W_seq ?_
        refine W_reg ?_
        refine O_p 1 ?_
        refine O_nil ?_
        refine W_ret ?_
        replace h := Option.some.inj h; subst h
        exact Fin_free (l := [.i 0]) (by kernel_rfl) (by kernel_rfl) rfl

theorem p23 (a0 : SSequence) (a1 : (List Int)) (r : Int) (h : m23 a0 a1 = some r) : Pt E0 hp 23 [.agg (cSSequence a0), .ro (a1.map cI_i64)] (.i r) := by
  unfold m23 at h
  refine Pt_W (fn23) rfl (by decide) ?_
  refine W_seq ?_
  refine W_gh ?_
  refine W_reg ?_
  refine O_p 2 ?_
  refine O_nil ?_
  refine Gh_e ⟨⟨8, [(1, .ro (a1.map cI_i64)), (2, .po 0 0)]⟩, [.lv 2 [.i a0.Actuators, .ro (a0.Steps.map cSStep)]]⟩ ?_
  refine W_seq ?_
  refine W_gh ?_
  refine W_reg ?_
  refine O_p 2 ?_
  refine O_call (fun v => .i v) h (.inr rfl) (ys := [.agg (cSSequence a0), .ro (a1.map cI_i64), .bool false]) (fun _ e => p47 _ _ _ _ e) (by kernel_rfl) (by kernel_rfl) (bels_cons (okSSequence.bel _) (bels_cons (ro_bel okI_i64.bel _) (bels_cons rfl rfl))) (fun v1 e_v1 h => ?_)
  refine O_p 1 ?_
  refine O_nil ?_
  refine Gh_e ⟨⟨8, [(4, .i v1)]⟩, [.lv 2 [.i a0.Actuators, .ro (a0.Steps.map cSStep)]]⟩ ?_
  refine W_ret ?_
  replace h := Option.some.inj h; subst h
  exact Fin_free (l := [.i v1]) (by kernel_rfl) (by kernel_rfl) rfl

theorem p6 (a0 : SSequence) (r : Bool) (h : m6 a0 = some r) : Pt E0 hp 6 [.agg (cSSequence a0)] (.bool r) := by
  unfold m6 at h
  refine Pt_W (fn6) rfl (by decide) ?_
  refine W_seq ?_
  refine W_gh ?_
  refine W_reg ?_
  refine O_p 2 ?_
  refine O_nil ?_
  refine Gh_e ⟨⟨65, [(1, .po 0 0)]⟩, [.lv 2 [.i a0.Actuators, .ro (a0.Steps.map cSStep)]]⟩ ?_
  refine W_seq ?_
  refine W_seq ?_
  refine W_joinS (fun v : Bool => ⟨⟨65, [(1, .po 0 0), (15, .bool v)]⟩, [.lv 2 [.i a0.Actuators, .ro (a0.Steps.map cSStep)]]⟩) h (fun w h => ?_) (fun w1 e_w1 h => ?_)
  · refine W_gh ?_
    refine W_reg ?_
    refine O_p 1 ?_
    refine O_call (fun v => .bool v) h (.inr rfl) (ys := [.agg (cSSequence a0)]) (fun _ e => p21 _ _ e) (by kernel_rfl) (by kernel_rfl) (bels_cons (okSSequence.bel _) rfl) (fun v2 e_v2 h => ?_)
    refine O_p 2 ?_
    refine O_fork (n := 10) (!v2) (by kernel_rfl) (fun c3 => ?_) (fun c3 => ?_)
    · replace h := fork_t c3 h
      refine O_p 5 ?_
      refine O_nil ?_
      refine Gh_e ⟨⟨65, [(1, .po 0 0), (15, .bool true)]⟩, [.lv 2 [.i a0.Actuators, .ro (a0.Steps.map cSStep)]]⟩ ?_
      replace h := Option.some.inj h; subst h
      show _ = _
      kernel_rfl
    · replace h := fork_f c3 h
      refine O_p 2 ?_
      refine O_len (l := a0.Steps) cSStep (by kernel_rfl) (by kernel_rfl) ?_
      refine O_p 2 ?_
      refine O_nil ?_
      refine Gh_e ⟨⟨65, [(1, .po 0 0), (15, .bool (decide ((a0.Steps.length : Int) > 12)))]⟩, [.lv 2 [.i a0.Actuators, .ro (a0.Steps.map cSStep)]]⟩ ?_
      replace h := Option.some.inj h; subst h
      show _ = _
      kernel_rfl
  · refine W_gh ?_
    refine W_cond (c := w1) (by kernel_rfl) (fun c4 => ?_) (fun c4 => ?_)
    · replace h := fork_t c4 h
      refine W_seq ?_
      refine W_gh ?_
      refine W_reg ?_
      refine O_call (fun v => .bool v) h (.inr rfl) (ys := []) (fun _ e => p12  _ e) (by kernel_rfl) (by kernel_rfl) rfl (fun v5 e_v5 h => ?_)
      refine O_p 1 ?_
      refine O_nil ?_
      refine Gh_e ⟨⟨65, [(1, .po 0 0), (2, .bool v5), (15, .bool w1)]⟩, [.lv 2 [.i a0.Actuators, .ro (a0.Steps.map cSStep)]]⟩ ?_
      refine W_ret ?_
      replace h := Option.some.inj h; subst h
      exact Fin_free (l := [.bool v5]) (by kernel_rfl) (by kernel_rfl) rfl
    · replace h := fork_f c4 h
      refine W_skip ?_
      refine Gh_e ⟨⟨65, [(1, .po 0 0)]⟩, [.lv 2 [.i a0.Actuators, .ro (a0.Steps.map cSStep)]]⟩ ?_
      refine W_seq ?_
      refine W_gh ?_
      refine W_reg ?_
      refine O_p 1 ?_
      refine O_call (fun v => .tup [.ro (v.1.map cI_i64), .i v.2]) h (.inr rfl) (ys := [.agg (cSSequence a0)]) (fun _ e => p16 _ _ e) (by kernel_rfl) (by kernel_rfl) (bels_cons (okSSequence.bel _) rfl) (fun v6 e_v6 h => ?_)
      refine O_p 5 ?_
      refine O_nil ?_
      refine Gh_e ⟨⟨65, [(1, .po 0 0), (3, .ro (v6.1.map cI_i64)), (4, .i v6.2)]⟩, [.lv 2 [.i a0.Actuators, .ro (a0.Steps.map cSStep)]]⟩ ?_
      refine W_seq ?_
      refine W_gh ?_
      refine W_reg ?_
      refine O_p 1 ?_
      refine O_call (fun v => .tup [.ro (v.1.map cI_i64), .i v.2]) h (.inr rfl) (ys := [.agg (cSSequence a0)]) (fun _ e => p19 _ _ e) (by kernel_rfl) (by kernel_rfl) (bels_cons (okSSequence.bel _) rfl) (fun v7 e_v7 h => ?_)
      refine O_p 5 ?_
      refine O_nil ?_
      refine Gh_e ⟨⟨65, [(1, .po 0 0), (3, .ro (v6.1.map cI_i64)), (4, .i v6.2), (5, .ro (v7.1.map cI_i64)), (6, .i v7.2)]⟩, [.lv 2 [.i a0.Actuators, .ro (a0.Steps.map cSStep)]]⟩ ?_
      refine W_seq ?_
      refine W_seq ?_
      refine W_joinS (fun v : Bool => ⟨⟨65, [(1, .po 0 0), (3, .ro (v6.1.map cI_i64)), (5, .ro (v7.1.map cI_i64)), (42, .bool v)]⟩, [.lv 2 [.i a0.Actuators, .ro (a0.Steps.map cSStep)]]⟩) h (fun w h => ?_) (fun w8 e_w8 h => ?_)
      · refine W_gh ?_
        refine W_reg ?_
        refine O_p 5 ?_
        refine O_fork (n := 31) ((addI .i64 v6.2 v7.2) != 0) (by kernel_rfl) (fun c9 => ?_) (fun c9 => ?_)
        · replace h := fork_t c9 h
          refine O_p 11 ?_
          refine O_nil ?_
          refine Gh_e ⟨⟨65, [(1, .po 0 0), (3, .ro (v6.1.map cI_i64)), (5, .ro (v7.1.map cI_i64)), (42, .bool true)]⟩, [.lv 2 [.i a0.Actuators, .ro (a0.Steps.map cSStep)]]⟩ ?_
          replace h := Option.some.inj h; subst h
          show _ = _
          kernel_rfl
        · replace h := fork_f c9 h
          refine O_p 2 ?_
          refine O_call (fun v => .i v) h (.inr rfl) (ys := [.agg (cSSequence a0), .ro (v7.1.map cI_i64)]) (fun _ e => p22 _ _ _ e) (by kernel_rfl) (by kernel_rfl) (bels_cons (okSSequence.bel _) (bels_cons (ro_bel okI_i64.bel _) rfl)) (fun v10 e_v10 h => ?_)
          refine O_p 3 ?_
          refine O_fork (n := 37) (v10 != 0) (by kernel_rfl) (fun c11 => ?_) (fun c11 => ?_)
          · replace h := fork_t c11 h
            refine O_p 5 ?_
            refine O_nil ?_
            refine Gh_e ⟨⟨65, [(1, .po 0 0), (3, .ro (v6.1.map cI_i64)), (5, .ro (v7.1.map cI_i64)), (42, .bool true)]⟩, [.lv 2 [.i a0.Actuators, .ro (a0.Steps.map cSStep)]]⟩ ?_
            replace h := Option.some.inj h; subst h
            show _ = _
            kernel_rfl
          · replace h := fork_f c11 h
            refine O_p 2 ?_
            refine O_call (fun v => .i v) h (.inr rfl) (ys := [.agg (cSSequence a0), .ro (v7.1.map cI_i64)]) (fun _ e => p23 _ _ _ e) (by kernel_rfl) (by kernel_rfl) (bels_cons (okSSequence.bel _) (bels_cons (ro_bel okI_i64.bel _) rfl)) (fun v12 e_v12 h => ?_)
            refine O_p 2 ?_
            refine O_nil ?_
            refine Gh_e ⟨⟨65, [(1, .po 0 0), (3, .ro (v6.1.map cI_i64)), (5, .ro (v7.1.map cI_i64)), (42, .bool (v12 != 0))]⟩, [.lv 2 [.i a0.Actuators, .ro (a0.Steps.map cSStep)]]⟩ ?_
            replace h := Option.some.inj h; subst h
            show _ = _
            kernel_rfl
      · refine W_gh ?_
        refine W_cond (c := w8) (by kernel_rfl) (fun c13 => ?_) (fun c13 => ?_)
        · replace h := fork_t c13 h
          refine W_seq ?_
          refine W_reg ?_
          refine O_p 1 ?_
          refine O_nil ?_
          refine W_ret ?_
          replace h := Option.some.inj h; subst h
          exact Fin_free (l := [.bool false]) (by kernel_rfl) (by kernel_rfl) rfl
        · replace h := fork_f c13 h
          refine W_skip ?_
          refine Gh_e ⟨⟨65, [(1, .po 0 0), (3, .ro (v6.1.map cI_i64)), (5, .ro (v7.1.map cI_i64))]⟩, [.lv 2 [.i a0.Actuators, .ro (a0.Steps.map cSStep)]]⟩ ?_
          refine W_seq ?_
          refine W_joinS (fun v : Bool => ⟨⟨65, [(2, .bool v)]⟩, [.lv 2 [.i a0.Actuators, .ro (a0.Steps.map cSStep)]]⟩) h (fun w h => ?_) (fun w14 e_w14 h => ?_)
          · refine W_gh ?_
            refine W_reg ?_
            refine O_p 1 ?_
            refine O_len (l := v7.1) cI_i64 (by kernel_rfl) (by kernel_rfl) ?_
            refine O_p 1 ?_
            refine O_len (l := v6.1) cI_i64 (by kernel_rfl) (by kernel_rfl) ?_
            refine O_p 2 ?_
            refine O_fork (n := 48) (decide ((v7.1.length : Int) ≤ (v6.1.length : Int))) (by kernel_rfl) (fun c15 => ?_) (fun c15 => ?_)
            · replace h := fork_t c15 h
              refine O_p 1 ?_
              refine O_len (l := v7.1) cI_i64 (by kernel_rfl) (by kernel_rfl) ?_
              refine O_p 1 ?_
              refine O_len (l := v6.1) cI_i64 (by kernel_rfl) (by kernel_rfl) ?_
              refine O_p 4 ?_
              refine O_fork (n := 56) (decide ((v7.1.length : Int) ≥ (subI .i64 (v6.1.length : Int) 1))) (by kernel_rfl) (fun c16 => ?_) (fun c16 => ?_)
              · replace h := fork_t c16 h
                refine O_p 2 ?_
                refine O_call (fun v => .i v) h (.inr rfl) (ys := [.agg (cSSequence a0), .ro (v6.1.map cI_i64)]) (fun _ e => p23 _ _ _ e) (by kernel_rfl) (by kernel_rfl) (bels_cons (okSSequence.bel _) (bels_cons (ro_bel okI_i64.bel _) rfl)) (fun v17 e_v17 h => ?_)
                refine O_p 3 ?_
                refine O_fork (n := 62) (v17 == 0) (by kernel_rfl) (fun c18 => ?_) (fun c18 => ?_)
                · replace h := fork_t c18 h
                  refine O_call (fun v => .bool v) h (.inr rfl) (ys := []) (fun _ e => p12  _ e) (by kernel_rfl) (by kernel_rfl) rfl (fun v19 e_v19 h => ?_)
                  refine O_p 2 ?_
                  refine O_nil ?_
                  refine Gh_e ⟨⟨65, [(2, .bool v19)]⟩, [.lv 2 [.i a0.Actuators, .ro (a0.Steps.map cSStep)]]⟩ ?_
                  replace h := Option.some.inj h; subst h
                  show _ = _
                  kernel_rfl
                · replace h := fork_f c18 h
                  refine O_p 3 ?_
                  refine O_nil ?_
                  refine Gh_e ⟨⟨65, [(2, .bool false)]⟩, [.lv 2 [.i a0.Actuators, .ro (a0.Steps.map cSStep)]]⟩ ?_
                  replace h := Option.some.inj h; subst h
                  show _ = _
                  kernel_rfl
              · replace h := fork_f c16 h
                refine O_p 9 ?_
                refine O_nil ?_
                refine Gh_e ⟨⟨65, [(2, .bool false)]⟩, [.lv 2 [.i a0.Actuators, .ro (a0.Steps.map cSStep)]]⟩ ?_
                replace h := Option.some.inj h; subst h
                show _ = _
                kernel_rfl
            · replace h := fork_f c15 h
              refine O_p 17 ?_
              refine O_nil ?_
              refine Gh_e ⟨⟨65, [(2, .bool false)]⟩, [.lv 2 [.i a0.Actuators, .ro (a0.Steps.map cSStep)]]⟩ ?_
              replace h := Option.some.inj h; subst h
              show _ = _
              kernel_rfl
          · refine W_ret ?_
            replace h := Option.some.inj h; subst h
            exact Fin_free (l := [.bool w14]) (by kernel_rfl) (by kernel_rfl) rfl
end G18
