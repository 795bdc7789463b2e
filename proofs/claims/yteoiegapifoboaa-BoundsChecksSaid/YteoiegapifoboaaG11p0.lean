/- The code computes the models, printed by a program of mine (dec.py). No condition. -/
import Derived.Test.YteoiegapifoboaaG11E
import Derived.Test.YteoiegapifoboaaG11a
namespace G11
open Go Go.Pl Go.Am Go.Am.As
set_option linter.unusedVariables false
set_option linter.unusedSimpArgs false
set_option maxHeartbeats 1000000

theorem p65 (a0 : Int) (r : Bool) (h : m65 a0 = some r) : Pt E0 hp 65 [.int .i64 a0] (.bool r) := by
  unfold m65 at h
  refine Pt_W (fn65) rfl (by decide) ?_
  refine W_seq ?_
  refine W_gh ?_
  refine W_reg ?_
  refine O_ps 1 (by kernel_rfl) ?_
  refine O_nil ?_
  refine Gh_end (s1 := ⟨⟨9, [(0, .int .i64 a0)]⟩, []⟩) _ (by kernel_rfl) ?_
  refine W_seq ?_
  refine W_cut ⟨⟨9, [(2, .bool ((decide (a0 ≥ (-64000000))) && (decide (a0 ≤ 64000000))))]⟩, []⟩ ?_ ?_
  · generalize e_g1 : ((decide (a0 ≥ (-64000000))) && (decide (a0 ≤ 64000000))) = g1
    refine W_gh ?_
    refine W_reg ?_
    refine O_ps 3 (by kernel_rfl) ?_
    refine O_fork (n := 5) (decide (a0 ≥ (-64000000))) (by kernel_rfl) (fun c2 => ?_) (fun c2 => ?_)
    · skip
      refine O_ps 4 (by kernel_rfl) ?_
      refine O_nil ?_
      refine Gh_end (s1 := ⟨⟨9, [(2, .bool (decide (a0 ≤ 64000000)))]⟩, []⟩) _ (by kernel_rfl) ?_
      have q := e_g1; simp only [c2, cond_true, cond_false, Bool.true_and, Bool.false_and, Bool.true_or, Bool.false_or] at q; subst q
      show _ = _
      kernel_rfl
    · skip
      refine O_ps 4 (by kernel_rfl) ?_
      refine O_nil ?_
      refine Gh_end (s1 := ⟨⟨9, [(2, .bool false)]⟩, []⟩) _ (by kernel_rfl) ?_
      have q := e_g1; simp only [c2, cond_true, cond_false, Bool.true_and, Bool.false_and, Bool.true_or, Bool.false_or] at q; subst q
      show _ = _
      kernel_rfl
  · refine W_ret ?_
    replace h := Option.some.inj h; subst h
    exact Fin_free (l := [.bool ((decide (a0 ≥ (-64000000))) && (decide (a0 ≤ 64000000)))]) (by kernel_rfl) (by kernel_rfl) rfl

theorem p28 (a0 : SBounds) (r : Int) (h : m28 a0 = some r) : Pt E0 hp 28 [.agg (cSBounds a0)] (.int .i64 r) := by
  unfold m28 at h
  refine Pt_W (fn28) rfl (by decide) ?_
  refine W_seq ?_
  refine W_gh ?_
  refine W_reg ?_
  refine O_ps 2 (by kernel_rfl) ?_
  refine O_nil ?_
  refine Gh_end (s1 := ⟨⟨80, [(1, .pown 0 1 0 0)]⟩, [.live false 2 [[.int .i64 a0.N, .ro (a0.Most.map (cL cI_i64))]]]⟩) _ (by kernel_rfl) ?_
  refine W_seq ?_
  refine W_seq ?_
  refine W_cut ⟨⟨80, [(1, .pown 0 1 0 0), (14, .bool ((decide (a0.N < 0)) || (decide (a0.N > 12))))]⟩, [.live false 2 [[.int .i64 a0.N, .ro (a0.Most.map (cL cI_i64))]]]⟩ ?_ ?_
  · generalize e_g1 : ((decide (a0.N < 0)) || (decide (a0.N > 12))) = g1
    refine W_gh ?_
    refine W_reg ?_
    refine O_ps 4 (by kernel_rfl) ?_
    refine O_fork (n := 10) (decide (a0.N < 0)) (by kernel_rfl) (fun c2 => ?_) (fun c2 => ?_)
    · skip
      refine O_ps 4 (by kernel_rfl) ?_
      refine O_nil ?_
      refine Gh_end (s1 := ⟨⟨80, [(1, .pown 0 1 0 0), (14, .bool true)]⟩, [.live false 2 [[.int .i64 a0.N, .ro (a0.Most.map (cL cI_i64))]]]⟩) _ (by kernel_rfl) ?_
      have q := e_g1; simp only [c2, cond_true, cond_false, Bool.true_and, Bool.false_and, Bool.true_or, Bool.false_or] at q; subst q
      show _ = _
      kernel_rfl
    · skip
      refine O_ps 4 (by kernel_rfl) ?_
      refine O_nil ?_
      refine Gh_end (s1 := ⟨⟨80, [(1, .pown 0 1 0 0), (14, .bool (decide (a0.N > 12)))]⟩, [.live false 2 [[.int .i64 a0.N, .ro (a0.Most.map (cL cI_i64))]]]⟩) _ (by kernel_rfl) ?_
      have q := e_g1; simp only [c2, cond_true, cond_false, Bool.true_and, Bool.false_and, Bool.true_or, Bool.false_or] at q; subst q
      show _ = _
      kernel_rfl
  · refine W_gh ?_
    refine W_cond (c := ((decide (a0.N < 0)) || (decide (a0.N > 12)))) (by kernel_rfl) (fun c3 => ?_) (fun c3 => ?_)
    · replace h := fork_t c3 h
      refine W_seq ?_
      refine W_reg ?_
      refine O_ps 1 (by kernel_rfl) ?_
      refine O_nil ?_
      refine W_ret ?_
      replace h := Option.some.inj h; subst h
      exact Fin_free (l := [.int .i64 2]) (by kernel_rfl) (by kernel_rfl) rfl
    · replace h := fork_f c3 h
      refine W_skip ?_
      refine Gh_end (s1 := ⟨⟨80, [(1, .pown 0 1 0 0)]⟩, [.live false 2 [[.int .i64 a0.N, .ro (a0.Most.map (cL cI_i64))]]]⟩) _ (by kernel_rfl) ?_
      refine W_seq ?_
      refine W_seq ?_
      refine W_gh ?_
      refine W_reg ?_
      refine O_ps 2 (by kernel_rfl) ?_
      refine O_len (l := a0.Most) (cL cI_i64) (by kernel_rfl) (by kernel_rfl) ?_
      refine O_ps 4 (by kernel_rfl) ?_
      refine O_nil ?_
      refine Gh_end (s1 := ⟨⟨80, [(1, .pown 0 1 0 0), (21, .bool ((a0.Most.length : Int) != (addI .i64 a0.N 1)))]⟩, [.live false 2 [[.int .i64 a0.N, .ro (a0.Most.map (cL cI_i64))]]]⟩) _ (by kernel_rfl) ?_
      refine W_gh ?_
      refine W_cond (c := ((a0.Most.length : Int) != (addI .i64 a0.N 1))) (by kernel_rfl) (fun c4 => ?_) (fun c4 => ?_)
      · replace h := fork_t c4 h
        refine W_seq ?_
        refine W_reg ?_
        refine O_ps 1 (by kernel_rfl) ?_
        refine O_nil ?_
        refine W_ret ?_
        replace h := Option.some.inj h; subst h
        exact Fin_free (l := [.int .i64 8]) (by kernel_rfl) (by kernel_rfl) rfl
      · replace h := fork_f c4 h
        refine W_skip ?_
        refine Gh_end (s1 := ⟨⟨80, [(1, .pown 0 1 0 0)]⟩, [.live false 2 [[.int .i64 a0.N, .ro (a0.Most.map (cL cI_i64))]]]⟩) _ (by kernel_rfl) ?_
        refine W_seq ?_
        refine W_seq ?_
        refine W_reg ?_
        refine O_ps 1 (by kernel_rfl) ?_
        refine O_nil ?_
        refine W_loop (fun s5 : Int => ⟨⟨80, [(1, .pown 0 1 0 0), (3, .int .i64 s5)]⟩, [.live false 2 [[.int .i64 a0.N, .ro (a0.Most.map (cL cI_i64))]]]⟩) (fun w6 : Unit => ⟨⟨80, [(1, .pown 0 1 0 0)]⟩, [.live false 2 [[.int .i64 a0.N, .ro (a0.Most.map (cL cI_i64))]]]⟩) h (by kernel_rfl) (fun s5 c h => ?_) (fun w6 h => ?_)
        · refine W_gh ?_
          refine W_seq ?_
          refine W_seq ?_
          refine W_gh ?_
          refine W_reg ?_
          refine O_ps 3 (by kernel_rfl) ?_
          refine O_len (l := a0.Most) (cL cI_i64) (by kernel_rfl) (by kernel_rfl) ?_
          refine O_ps 1 (by kernel_rfl) ?_
          refine O_nil ?_
          refine Gh_end (s1 := ⟨⟨80, [(1, .pown 0 1 0 0), (3, .int .i64 s5), (26, .bool (decide (s5 < (a0.Most.length : Int))))]⟩, [.live false 2 [[.int .i64 a0.N, .ro (a0.Most.map (cL cI_i64))]]]⟩) _ (by kernel_rfl) ?_
          refine W_gh ?_
          refine W_cond (c := (decide (s5 < (a0.Most.length : Int)))) (by kernel_rfl) (fun c7 => ?_) (fun c7 => ?_)
          · replace h := fork_t c7 h
            refine W_skip ?_
            refine Gh_end (s1 := ⟨⟨80, [(1, .pown 0 1 0 0), (3, .int .i64 s5)]⟩, [.live false 2 [[.int .i64 a0.N, .ro (a0.Most.map (cL cI_i64))]]]⟩) _ (by kernel_rfl) ?_
            refine W_seq ?_
            refine W_gh ?_
            refine W_block ?_
            refine W_seq ?_
            refine W_gh ?_
            refine W_draw ?_
            refine O_ps 3 (by kernel_rfl) ?_
            refine O_idx (kd := .i64) (cL cI_i64) h (fun _ => rfl) (by kernel_rfl) (by kernel_rfl) (by kernel_rfl) (fun v8 e_v8 h => ?_)
            refine O_ps 1 (by kernel_rfl) ?_
            refine O_len (l := v8) cI_i64 (by kernel_rfl) (by kernel_rfl) ?_
            refine O_ps 4 (by kernel_rfl) ?_
            refine O_nil ?_
            refine Gh_end (s1 := ⟨⟨80, [(1, .pown 0 1 0 0), (3, .int .i64 s5), (38, .bool ((v8.length : Int) != (addI .i64 a0.N 1)))]⟩, [.live false 2 [[.int .i64 a0.N, .ro (a0.Most.map (cL cI_i64))]]]⟩) _ (by kernel_rfl) ?_
            refine W_gh ?_
            refine W_cond (c := ((v8.length : Int) != (addI .i64 a0.N 1))) (by kernel_rfl) (fun c9 => ?_) (fun c9 => ?_)
            · replace h := fork_t c9 h
              refine W_seq ?_
              refine W_reg ?_
              refine O_ps 1 (by kernel_rfl) ?_
              refine O_nil ?_
              refine W_ret ?_
              replace h := Option.some.inj h; subst h
              refine ⟨_, rfl, fun h => ?_⟩
              replace h := Option.some.inj h; subst h
              exact Fin_free (l := [.int .i64 8]) (by kernel_rfl) (by kernel_rfl) rfl
            · replace h := fork_f c9 h
              refine W_skip ?_
              refine Gh_end (s1 := ⟨⟨80, [(1, .pown 0 1 0 0), (3, .int .i64 s5)]⟩, [.live false 2 [[.int .i64 a0.N, .ro (a0.Most.map (cL cI_i64))]]]⟩) _ (by kernel_rfl) ?_
              refine Gh_end (s1 := ⟨⟨80, [(1, .pown 0 1 0 0), (3, .int .i64 s5)]⟩, [.live false 2 [[.int .i64 a0.N, .ro (a0.Most.map (cL cI_i64))]]]⟩) _ (by kernel_rfl) ?_
              refine W_gh ?_
              refine W_reg ?_
              refine O_ps 3 (by kernel_rfl) ?_
              refine O_nil ?_
              refine Gh_end (s1 := ⟨⟨80, [(1, .pown 0 1 0 0), (3, .int .i64 (addI .i64 s5 1))]⟩, [.live false 2 [[.int .i64 a0.N, .ro (a0.Most.map (cL cI_i64))]]]⟩) _ (by kernel_rfl) ?_
              refine Gh_end (s1 := ⟨⟨80, [(1, .pown 0 1 0 0), (3, .int .i64 (addI .i64 s5 1))]⟩, [.live false 2 [[.int .i64 a0.N, .ro (a0.Most.map (cL cI_i64))]]]⟩) _ (by kernel_rfl) ?_
              replace h := Option.some.inj h; subst h
              exact ⟨_, rfl, by kernel_rfl⟩
          · replace h := fork_f c7 h
            refine W_exit ?_
            refine X_hit ?_
            refine Gh_end (s1 := ⟨⟨80, [(1, .pown 0 1 0 0)]⟩, [.live false 2 [[.int .i64 a0.N, .ro (a0.Most.map (cL cI_i64))]]]⟩) _ (by kernel_rfl) ?_
            replace h := Option.some.inj h; subst h
            exact ⟨_, rfl, by kernel_rfl⟩
        · refine W_seq ?_
          refine W_seq ?_
          refine W_reg ?_
          refine O_ps 1 (by kernel_rfl) ?_
          refine O_nil ?_
          refine W_loop (fun s10 : Int => ⟨⟨80, [(1, .pown 0 1 0 0), (4, .int .i64 s10)]⟩, [.live false 2 [[.int .i64 a0.N, .ro (a0.Most.map (cL cI_i64))]]]⟩) (fun w11 : Unit => ⟨⟨80, [(1, .pown 0 1 0 0)]⟩, [.live false 2 [[.int .i64 a0.N, .ro (a0.Most.map (cL cI_i64))]]]⟩) h (by kernel_rfl) (fun s10 c h => ?_) (fun w11 h => ?_)
          · refine W_gh ?_
            refine W_seq ?_
            refine W_seq ?_
            refine W_gh ?_
            refine W_reg ?_
            refine O_ps 4 (by kernel_rfl) ?_
            refine O_nil ?_
            refine Gh_end (s1 := ⟨⟨80, [(1, .pown 0 1 0 0), (4, .int .i64 s10), (42, .bool (decide (s10 ≤ a0.N)))]⟩, [.live false 2 [[.int .i64 a0.N, .ro (a0.Most.map (cL cI_i64))]]]⟩) _ (by kernel_rfl) ?_
            refine W_gh ?_
            refine W_cond (c := (decide (s10 ≤ a0.N))) (by kernel_rfl) (fun c12 => ?_) (fun c12 => ?_)
            · replace h := fork_t c12 h
              refine W_skip ?_
              refine Gh_end (s1 := ⟨⟨80, [(1, .pown 0 1 0 0), (4, .int .i64 s10)]⟩, [.live false 2 [[.int .i64 a0.N, .ro (a0.Most.map (cL cI_i64))]]]⟩) _ (by kernel_rfl) ?_
              refine W_seq ?_
              refine W_gh ?_
              refine W_block ?_
              refine W_seq ?_
              refine W_reg ?_
              refine O_ps 1 (by kernel_rfl) ?_
              refine O_nil ?_
              refine W_loop (fun s13 : Int => ⟨⟨80, [(1, .pown 0 1 0 0), (4, .int .i64 s10), (5, .int .i64 s13)]⟩, [.live false 2 [[.int .i64 a0.N, .ro (a0.Most.map (cL cI_i64))]]]⟩) (fun w14 : Unit => ⟨⟨80, [(1, .pown 0 1 0 0), (4, .int .i64 s10)]⟩, [.live false 2 [[.int .i64 a0.N, .ro (a0.Most.map (cL cI_i64))]]]⟩) h (by kernel_rfl) (fun s13 c h => ?_) (fun w14 h => ?_)
              · refine W_gh ?_
                refine W_seq ?_
                refine W_seq ?_
                refine W_gh ?_
                refine W_reg ?_
                refine O_ps 4 (by kernel_rfl) ?_
                refine O_nil ?_
                refine Gh_end (s1 := ⟨⟨80, [(1, .pown 0 1 0 0), (4, .int .i64 s10), (5, .int .i64 s13), (48, .bool (decide (s13 ≤ a0.N)))]⟩, [.live false 2 [[.int .i64 a0.N, .ro (a0.Most.map (cL cI_i64))]]]⟩) _ (by kernel_rfl) ?_
                refine W_gh ?_
                refine W_cond (c := (decide (s13 ≤ a0.N))) (by kernel_rfl) (fun c15 => ?_) (fun c15 => ?_)
                · replace h := fork_t c15 h
                  refine W_skip ?_
                  refine Gh_end (s1 := ⟨⟨80, [(1, .pown 0 1 0 0), (4, .int .i64 s10), (5, .int .i64 s13)]⟩, [.live false 2 [[.int .i64 a0.N, .ro (a0.Most.map (cL cI_i64))]]]⟩) _ (by kernel_rfl) ?_
                  refine W_seq ?_
                  refine W_gh ?_
                  refine W_block ?_
                  refine W_seq ?_
                  refine W_seq ?_
                  refine W_gh ?_
                  refine W_reg ?_
                  refine O_ps 3 (by kernel_rfl) ?_
                  refine O_idx (kd := .i64) (cL cI_i64) h (fun _ => rfl) (by kernel_rfl) (by kernel_rfl) (by kernel_rfl) (fun v16 e_v16 h => ?_)
                  refine O_ps 2 (by kernel_rfl) ?_
                  refine O_idx (kd := .i64) cI_i64 h (fun _ => rfl) (by kernel_rfl) (by kernel_rfl) (by kernel_rfl) (fun v17 e_v17 h => ?_)
                  refine O_ps 2 (by kernel_rfl) ?_
                  refine O_nil ?_
                  refine Gh_end (s1 := ⟨⟨80, [(1, .pown 0 1 0 0), (4, .int .i64 s10), (5, .int .i64 s13), (6, .int .i64 v17)]⟩, [.live false 2 [[.int .i64 a0.N, .ro (a0.Most.map (cL cI_i64))]]]⟩) _ (by kernel_rfl) ?_
                  refine W_seq ?_
                  refine W_joinS (fun v : Bool => ⟨⟨80, [(1, .pown 0 1 0 0), (4, .int .i64 s10), (5, .int .i64 s13), (65, .bool v)]⟩, [.live false 2 [[.int .i64 a0.N, .ro (a0.Most.map (cL cI_i64))]]]⟩) h (fun w h => ?_) (fun w18 e_w18 h => ?_)
                  · refine W_gh ?_
                    refine W_reg ?_
                    refine O_ps 3 (by kernel_rfl) ?_
                    refine O_fork (n := 61) (v17 != (-1099511627776)) (by kernel_rfl) (fun c19 => ?_) (fun c19 => ?_)
                    · replace h := fork_t c19 h
                      refine O_ps 1 (by kernel_rfl) ?_
                      refine O_call (fun v => .bool v) h (.inr rfl) (ys := [.int .i64 v17]) (fun _ e => p65 _ _ e) (by kernel_rfl) (by kernel_rfl) (bels_cons rfl rfl) (fun v20 e_v20 h => ?_)
                      refine O_ps 2 (by kernel_rfl) ?_
                      refine O_nil ?_
                      refine Gh_end (s1 := ⟨⟨80, [(1, .pown 0 1 0 0), (4, .int .i64 s10), (5, .int .i64 s13), (65, .bool (!v20))]⟩, [.live false 2 [[.int .i64 a0.N, .ro (a0.Most.map (cL cI_i64))]]]⟩) _ (by kernel_rfl) ?_
                      replace h := Option.some.inj h; subst h
                      show _ = _
                      kernel_rfl
                    · replace h := fork_f c19 h
                      refine O_ps 4 (by kernel_rfl) ?_
                      refine O_nil ?_
                      refine Gh_end (s1 := ⟨⟨80, [(1, .pown 0 1 0 0), (4, .int .i64 s10), (5, .int .i64 s13), (65, .bool false)]⟩, [.live false 2 [[.int .i64 a0.N, .ro (a0.Most.map (cL cI_i64))]]]⟩) _ (by kernel_rfl) ?_
                      replace h := Option.some.inj h; subst h
                      show _ = _
                      kernel_rfl
                  · refine W_gh ?_
                    refine W_cond (c := w18) (by kernel_rfl) (fun c21 => ?_) (fun c21 => ?_)
                    · replace h := fork_t c21 h
                      refine W_seq ?_
                      refine W_reg ?_
                      refine O_ps 1 (by kernel_rfl) ?_
                      refine O_nil ?_
                      refine W_ret ?_
                      replace h := Option.some.inj h; subst h
                      refine ⟨_, rfl, fun h => ?_⟩
                      replace h := Option.some.inj h; subst h
                      refine ⟨_, rfl, fun h => ?_⟩
                      replace h := Option.some.inj h; subst h
                      exact Fin_free (l := [.int .i64 2]) (by kernel_rfl) (by kernel_rfl) rfl
                    · replace h := fork_f c21 h
                      refine W_skip ?_
                      refine Gh_end (s1 := ⟨⟨80, [(1, .pown 0 1 0 0), (4, .int .i64 s10), (5, .int .i64 s13)]⟩, [.live false 2 [[.int .i64 a0.N, .ro (a0.Most.map (cL cI_i64))]]]⟩) _ (by kernel_rfl) ?_
                      refine W_seq ?_
                      refine W_joinS (fun v : Bool => ⟨⟨80, [(1, .pown 0 1 0 0), (4, .int .i64 s10), (5, .int .i64 s13), (79, .bool v)]⟩, [.live false 2 [[.int .i64 a0.N, .ro (a0.Most.map (cL cI_i64))]]]⟩) h (fun w h => ?_) (fun w22 e_w22 h => ?_)
                      · refine W_gh ?_
                        refine W_reg ?_
                        refine O_ps 4 (by kernel_rfl) ?_
                        refine O_fork (n := 69) (s10 == s13) (by kernel_rfl) (fun c23 => ?_) (fun c23 => ?_)
                        · replace h := fork_t c23 h
                          refine O_ps 3 (by kernel_rfl) ?_
                          refine O_idx (kd := .i64) (cL cI_i64) h (fun _ => rfl) (by kernel_rfl) (by kernel_rfl) (by kernel_rfl) (fun v24 e_v24 h => ?_)
                          refine O_ps 2 (by kernel_rfl) ?_
                          refine O_idx (kd := .i64) cI_i64 h (fun _ => rfl) (by kernel_rfl) (by kernel_rfl) (by kernel_rfl) (fun v25 e_v25 h => ?_)
                          refine O_ps 3 (by kernel_rfl) ?_
                          refine O_nil ?_
                          refine Gh_end (s1 := ⟨⟨80, [(1, .pown 0 1 0 0), (4, .int .i64 s10), (5, .int .i64 s13), (79, .bool (v25 != 0))]⟩, [.live false 2 [[.int .i64 a0.N, .ro (a0.Most.map (cL cI_i64))]]]⟩) _ (by kernel_rfl) ?_
                          replace h := Option.some.inj h; subst h
                          show _ = _
                          kernel_rfl
                        · replace h := fork_f c23 h
                          refine O_ps 10 (by kernel_rfl) ?_
                          refine O_nil ?_
                          refine Gh_end (s1 := ⟨⟨80, [(1, .pown 0 1 0 0), (4, .int .i64 s10), (5, .int .i64 s13), (79, .bool false)]⟩, [.live false 2 [[.int .i64 a0.N, .ro (a0.Most.map (cL cI_i64))]]]⟩) _ (by kernel_rfl) ?_
                          replace h := Option.some.inj h; subst h
                          show _ = _
                          kernel_rfl
                      · refine W_gh ?_
                        refine W_cond (c := w22) (by kernel_rfl) (fun c26 => ?_) (fun c26 => ?_)
                        · replace h := fork_t c26 h
                          refine W_seq ?_
                          refine W_reg ?_
                          refine O_ps 1 (by kernel_rfl) ?_
                          refine O_nil ?_
                          refine W_ret ?_
                          replace h := Option.some.inj h; subst h
                          refine ⟨_, rfl, fun h => ?_⟩
                          replace h := Option.some.inj h; subst h
                          refine ⟨_, rfl, fun h => ?_⟩
                          replace h := Option.some.inj h; subst h
                          exact Fin_free (l := [.int .i64 3]) (by kernel_rfl) (by kernel_rfl) rfl
                        · replace h := fork_f c26 h
                          refine W_skip ?_
                          refine Gh_end (s1 := ⟨⟨80, [(1, .pown 0 1 0 0), (4, .int .i64 s10), (5, .int .i64 s13)]⟩, [.live false 2 [[.int .i64 a0.N, .ro (a0.Most.map (cL cI_i64))]]]⟩) _ (by kernel_rfl) ?_
                          refine Gh_end (s1 := ⟨⟨80, [(1, .pown 0 1 0 0), (4, .int .i64 s10), (5, .int .i64 s13)]⟩, [.live false 2 [[.int .i64 a0.N, .ro (a0.Most.map (cL cI_i64))]]]⟩) _ (by kernel_rfl) ?_
                          refine W_gh ?_
                          refine W_reg ?_
                          refine O_ps 3 (by kernel_rfl) ?_
                          refine O_nil ?_
                          refine Gh_end (s1 := ⟨⟨80, [(1, .pown 0 1 0 0), (4, .int .i64 s10), (5, .int .i64 (addI .i64 s13 1))]⟩, [.live false 2 [[.int .i64 a0.N, .ro (a0.Most.map (cL cI_i64))]]]⟩) _ (by kernel_rfl) ?_
                          refine Gh_end (s1 := ⟨⟨80, [(1, .pown 0 1 0 0), (4, .int .i64 s10), (5, .int .i64 (addI .i64 s13 1))]⟩, [.live false 2 [[.int .i64 a0.N, .ro (a0.Most.map (cL cI_i64))]]]⟩) _ (by kernel_rfl) ?_
                          replace h := Option.some.inj h; subst h
                          exact ⟨_, rfl, by kernel_rfl⟩
                · replace h := fork_f c15 h
                  refine W_exit ?_
                  refine X_hit ?_
                  refine Gh_end (s1 := ⟨⟨80, [(1, .pown 0 1 0 0), (4, .int .i64 s10)]⟩, [.live false 2 [[.int .i64 a0.N, .ro (a0.Most.map (cL cI_i64))]]]⟩) _ (by kernel_rfl) ?_
                  replace h := Option.some.inj h; subst h
                  exact ⟨_, rfl, by kernel_rfl⟩
              · refine Gh_end (s1 := ⟨⟨80, [(1, .pown 0 1 0 0), (4, .int .i64 s10)]⟩, [.live false 2 [[.int .i64 a0.N, .ro (a0.Most.map (cL cI_i64))]]]⟩) _ (by kernel_rfl) ?_
                refine W_gh ?_
                refine W_reg ?_
                refine O_ps 3 (by kernel_rfl) ?_
                refine O_nil ?_
                refine Gh_end (s1 := ⟨⟨80, [(1, .pown 0 1 0 0), (4, .int .i64 (addI .i64 s10 1))]⟩, [.live false 2 [[.int .i64 a0.N, .ro (a0.Most.map (cL cI_i64))]]]⟩) _ (by kernel_rfl) ?_
                refine Gh_end (s1 := ⟨⟨80, [(1, .pown 0 1 0 0), (4, .int .i64 (addI .i64 s10 1))]⟩, [.live false 2 [[.int .i64 a0.N, .ro (a0.Most.map (cL cI_i64))]]]⟩) _ (by kernel_rfl) ?_
                replace h := Option.some.inj h; subst h
                exact ⟨_, rfl, by kernel_rfl⟩
            · replace h := fork_f c12 h
              refine W_exit ?_
              refine X_hit ?_
              refine Gh_end (s1 := ⟨⟨80, [(1, .pown 0 1 0 0)]⟩, [.live false 2 [[.int .i64 a0.N, .ro (a0.Most.map (cL cI_i64))]]]⟩) _ (by kernel_rfl) ?_
              replace h := Option.some.inj h; subst h
              exact ⟨_, rfl, by kernel_rfl⟩
          · refine W_seq ?_
            refine W_reg ?_
            refine O_ps 1 (by kernel_rfl) ?_
            refine O_nil ?_
            refine W_ret ?_
            replace h := Option.some.inj h; subst h
            exact Fin_free (l := [.int .i64 0]) (by kernel_rfl) (by kernel_rfl) rfl

theorem p12 (a0 : SBounds) (r : Bool) (h : m12 a0 = some r) : Pt E0 hp 12 [.agg (cSBounds a0)] (.bool r) := by
  unfold m12 at h
  refine Pt_W (fn12) rfl (by decide) ?_
  refine W_seq ?_
  refine W_gh ?_
  refine W_reg ?_
  refine O_ps 2 (by kernel_rfl) ?_
  refine O_nil ?_
  refine Gh_end (s1 := ⟨⟨30, [(1, .pown 0 1 0 0)]⟩, [.live false 2 [[.int .i64 a0.N, .ro (a0.Most.map (cL cI_i64))]]]⟩) _ (by kernel_rfl) ?_
  refine W_seq ?_
  refine W_seq ?_
  refine W_gh ?_
  refine W_reg ?_
  refine O_ps 2 (by kernel_rfl) ?_
  refine O_len (l := a0.Most) (cL cI_i64) (by kernel_rfl) (by kernel_rfl) ?_
  refine O_ps 1 (by kernel_rfl) ?_
  refine O_nil ?_
  refine Gh_end (s1 := ⟨⟨30, [(1, .pown 0 1 0 0), (7, .bool (decide ((a0.Most.length : Int) > 50)))]⟩, [.live false 2 [[.int .i64 a0.N, .ro (a0.Most.map (cL cI_i64))]]]⟩) _ (by kernel_rfl) ?_
  refine W_gh ?_
  refine W_cond (c := (decide ((a0.Most.length : Int) > 50))) (by kernel_rfl) (fun c1 => ?_) (fun c1 => ?_)
  · replace h := fork_t c1 h
    refine W_seq ?_
    refine W_reg ?_
    refine O_ps 1 (by kernel_rfl) ?_
    refine O_nil ?_
    refine W_ret ?_
    replace h := Option.some.inj h; subst h
    exact Fin_free (l := [.bool false]) (by kernel_rfl) (by kernel_rfl) rfl
  · replace h := fork_f c1 h
    refine W_skip ?_
    refine Gh_end (s1 := ⟨⟨30, [(1, .pown 0 1 0 0)]⟩, [.live false 2 [[.int .i64 a0.N, .ro (a0.Most.map (cL cI_i64))]]]⟩) _ (by kernel_rfl) ?_
    refine W_seq ?_
    refine W_seq ?_
    refine W_reg ?_
    refine O_ps 1 (by kernel_rfl) ?_
    refine O_nil ?_
    refine W_loop (fun s2 : Int => ⟨⟨30, [(1, .pown 0 1 0 0), (3, .int .i64 s2)]⟩, [.live false 2 [[.int .i64 a0.N, .ro (a0.Most.map (cL cI_i64))]]]⟩) (fun w3 : Unit => ⟨⟨30, [(1, .pown 0 1 0 0)]⟩, [.live false 2 [[.int .i64 a0.N, .ro (a0.Most.map (cL cI_i64))]]]⟩) h (by kernel_rfl) (fun s2 c h => ?_) (fun w3 h => ?_)
    · refine W_gh ?_
      refine W_seq ?_
      refine W_seq ?_
      refine W_gh ?_
      refine W_reg ?_
      refine O_ps 3 (by kernel_rfl) ?_
      refine O_len (l := a0.Most) (cL cI_i64) (by kernel_rfl) (by kernel_rfl) ?_
      refine O_ps 1 (by kernel_rfl) ?_
      refine O_nil ?_
      refine Gh_end (s1 := ⟨⟨30, [(1, .pown 0 1 0 0), (3, .int .i64 s2), (12, .bool (decide (s2 < (a0.Most.length : Int))))]⟩, [.live false 2 [[.int .i64 a0.N, .ro (a0.Most.map (cL cI_i64))]]]⟩) _ (by kernel_rfl) ?_
      refine W_gh ?_
      refine W_cond (c := (decide (s2 < (a0.Most.length : Int)))) (by kernel_rfl) (fun c4 => ?_) (fun c4 => ?_)
      · replace h := fork_t c4 h
        refine W_skip ?_
        refine Gh_end (s1 := ⟨⟨30, [(1, .pown 0 1 0 0), (3, .int .i64 s2)]⟩, [.live false 2 [[.int .i64 a0.N, .ro (a0.Most.map (cL cI_i64))]]]⟩) _ (by kernel_rfl) ?_
        refine W_seq ?_
        refine W_gh ?_
        refine W_block ?_
        refine W_seq ?_
        refine W_gh ?_
        refine W_reg ?_
        refine O_ps 3 (by kernel_rfl) ?_
        refine O_idx (kd := .i64) (cL cI_i64) h (fun _ => rfl) (by kernel_rfl) (by kernel_rfl) (by kernel_rfl) (fun v5 e_v5 h => ?_)
        refine O_ps 1 (by kernel_rfl) ?_
        refine O_len (l := v5) cI_i64 (by kernel_rfl) (by kernel_rfl) ?_
        refine O_ps 1 (by kernel_rfl) ?_
        refine O_nil ?_
        refine Gh_end (s1 := ⟨⟨30, [(1, .pown 0 1 0 0), (3, .int .i64 s2), (21, .bool (decide ((v5.length : Int) > 50)))]⟩, [.live false 2 [[.int .i64 a0.N, .ro (a0.Most.map (cL cI_i64))]]]⟩) _ (by kernel_rfl) ?_
        refine W_gh ?_
        refine W_cond (c := (decide ((v5.length : Int) > 50))) (by kernel_rfl) (fun c6 => ?_) (fun c6 => ?_)
        · replace h := fork_t c6 h
          refine W_seq ?_
          refine W_reg ?_
          refine O_ps 1 (by kernel_rfl) ?_
          refine O_nil ?_
          refine W_ret ?_
          replace h := Option.some.inj h; subst h
          refine ⟨_, rfl, fun h => ?_⟩
          replace h := Option.some.inj h; subst h
          exact Fin_free (l := [.bool false]) (by kernel_rfl) (by kernel_rfl) rfl
        · replace h := fork_f c6 h
          refine W_skip ?_
          refine Gh_end (s1 := ⟨⟨30, [(1, .pown 0 1 0 0), (3, .int .i64 s2)]⟩, [.live false 2 [[.int .i64 a0.N, .ro (a0.Most.map (cL cI_i64))]]]⟩) _ (by kernel_rfl) ?_
          refine Gh_end (s1 := ⟨⟨30, [(1, .pown 0 1 0 0), (3, .int .i64 s2)]⟩, [.live false 2 [[.int .i64 a0.N, .ro (a0.Most.map (cL cI_i64))]]]⟩) _ (by kernel_rfl) ?_
          refine W_gh ?_
          refine W_reg ?_
          refine O_ps 3 (by kernel_rfl) ?_
          refine O_nil ?_
          refine Gh_end (s1 := ⟨⟨30, [(1, .pown 0 1 0 0), (3, .int .i64 (addI .i64 s2 1))]⟩, [.live false 2 [[.int .i64 a0.N, .ro (a0.Most.map (cL cI_i64))]]]⟩) _ (by kernel_rfl) ?_
          refine Gh_end (s1 := ⟨⟨30, [(1, .pown 0 1 0 0), (3, .int .i64 (addI .i64 s2 1))]⟩, [.live false 2 [[.int .i64 a0.N, .ro (a0.Most.map (cL cI_i64))]]]⟩) _ (by kernel_rfl) ?_
          replace h := Option.some.inj h; subst h
          exact ⟨_, rfl, by kernel_rfl⟩
      · replace h := fork_f c4 h
        refine W_exit ?_
        refine X_hit ?_
        refine Gh_end (s1 := ⟨⟨30, [(1, .pown 0 1 0 0)]⟩, [.live false 2 [[.int .i64 a0.N, .ro (a0.Most.map (cL cI_i64))]]]⟩) _ (by kernel_rfl) ?_
        replace h := Option.some.inj h; subst h
        exact ⟨_, rfl, by kernel_rfl⟩
    · refine W_seq ?_
      refine W_joinS (fun v : Bool => ⟨⟨30, [(2, .bool v)]⟩, [.live false 2 [[.int .i64 a0.N, .ro (a0.Most.map (cL cI_i64))]]]⟩) h (fun w h => ?_) (fun w7 e_w7 h => ?_)
      · refine W_gh ?_
        refine W_reg ?_
        refine O_ps 4 (by kernel_rfl) ?_
        refine O_fork (n := 25) (decide (a0.N ≤ 5)) (by kernel_rfl) (fun c8 => ?_) (fun c8 => ?_)
        · replace h := fork_t c8 h
          refine O_ps 5 (by kernel_rfl) ?_
          refine O_nil ?_
          refine Gh_end (s1 := ⟨⟨30, [(2, .bool true)]⟩, [.live false 2 [[.int .i64 a0.N, .ro (a0.Most.map (cL cI_i64))]]]⟩) _ (by kernel_rfl) ?_
          replace h := Option.some.inj h; subst h
          show _ = _
          kernel_rfl
        · replace h := fork_f c8 h
          refine O_ps 1 (by kernel_rfl) ?_
          refine O_call (fun v => .int .i64 v) h (.inr rfl) (ys := [.agg (cSBounds a0)]) (fun _ e => p28 _ _ e) (by kernel_rfl) (by kernel_rfl) (bels_cons (okSBounds.bel _) rfl) (fun v9 e_v9 h => ?_)
          refine O_ps 3 (by kernel_rfl) ?_
          refine O_nil ?_
          refine Gh_end (s1 := ⟨⟨30, [(2, .bool (v9 != 0))]⟩, [.live false 2 [[.int .i64 a0.N, .ro (a0.Most.map (cL cI_i64))]]]⟩) _ (by kernel_rfl) ?_
          replace h := Option.some.inj h; subst h
          show _ = _
          kernel_rfl
      · refine W_ret ?_
        replace h := Option.some.inj h; subst h
        exact Fin_free (l := [.bool w7]) (by kernel_rfl) (by kernel_rfl) rfl

theorem p67 (a0 : Int) (r : Bool) (h : m67 a0 = some r) : Pt E0 hp 67 [.int .i64 a0] (.bool r) := by
  unfold m67 at h
  refine Pt_W (fn67) rfl (by decide) ?_
  refine W_seq ?_
  refine W_gh ?_
  refine W_reg ?_
  refine O_ps 1 (by kernel_rfl) ?_
  refine O_nil ?_
  refine Gh_end (s1 := ⟨⟨9, [(0, .int .i64 a0)]⟩, []⟩) _ (by kernel_rfl) ?_
  refine W_seq ?_
  refine W_cut ⟨⟨9, [(2, .bool ((decide (a0 ≥ (-64000000))) && (decide (a0 ≤ 64000000))))]⟩, []⟩ ?_ ?_
  · generalize e_g1 : ((decide (a0 ≥ (-64000000))) && (decide (a0 ≤ 64000000))) = g1
    refine W_gh ?_
    refine W_reg ?_
    refine O_ps 3 (by kernel_rfl) ?_
    refine O_fork (n := 5) (decide (a0 ≥ (-64000000))) (by kernel_rfl) (fun c2 => ?_) (fun c2 => ?_)
    · skip
      refine O_ps 4 (by kernel_rfl) ?_
      refine O_nil ?_
      refine Gh_end (s1 := ⟨⟨9, [(2, .bool (decide (a0 ≤ 64000000)))]⟩, []⟩) _ (by kernel_rfl) ?_
      have q := e_g1; simp only [c2, cond_true, cond_false, Bool.true_and, Bool.false_and, Bool.true_or, Bool.false_or] at q; subst q
      show _ = _
      kernel_rfl
    · skip
      refine O_ps 4 (by kernel_rfl) ?_
      refine O_nil ?_
      refine Gh_end (s1 := ⟨⟨9, [(2, .bool false)]⟩, []⟩) _ (by kernel_rfl) ?_
      have q := e_g1; simp only [c2, cond_true, cond_false, Bool.true_and, Bool.false_and, Bool.true_or, Bool.false_or] at q; subst q
      show _ = _
      kernel_rfl
  · refine W_ret ?_
    replace h := Option.some.inj h; subst h
    exact Fin_free (l := [.bool ((decide (a0 ≥ (-64000000))) && (decide (a0 ≤ 64000000)))]) (by kernel_rfl) (by kernel_rfl) rfl

theorem p32 (a0 : SBounds) (r : Int) (h : m32 a0 = some r) : Pt E0 hp 32 [.agg (cSBounds a0)] (.int .i64 r) := by
  unfold m32 at h
  refine Pt_W (fn32) rfl (by decide) ?_
  refine W_seq ?_
  refine W_gh ?_
  refine W_reg ?_
  refine O_ps 2 (by kernel_rfl) ?_
  refine O_nil ?_
  refine Gh_end (s1 := ⟨⟨71, [(1, .pown 0 1 0 0)]⟩, [.live false 2 [[.int .i64 a0.N, .ro (a0.Most.map (cL cI_i64))]]]⟩) _ (by kernel_rfl) ?_
  refine W_seq ?_
  refine W_seq ?_
  refine W_cut ⟨⟨71, [(1, .pown 0 1 0 0), (16, .bool ((decide (a0.N < 0)) || (decide (a0.N > 12))))]⟩, [.live false 2 [[.int .i64 a0.N, .ro (a0.Most.map (cL cI_i64))]]]⟩ ?_ ?_
  · generalize e_g1 : ((decide (a0.N < 0)) || (decide (a0.N > 12))) = g1
    refine W_gh ?_
    refine W_reg ?_
    refine O_ps 4 (by kernel_rfl) ?_
    refine O_fork (n := 12) (decide (a0.N < 0)) (by kernel_rfl) (fun c2 => ?_) (fun c2 => ?_)
    · skip
      refine O_ps 4 (by kernel_rfl) ?_
      refine O_nil ?_
      refine Gh_end (s1 := ⟨⟨71, [(1, .pown 0 1 0 0), (16, .bool true)]⟩, [.live false 2 [[.int .i64 a0.N, .ro (a0.Most.map (cL cI_i64))]]]⟩) _ (by kernel_rfl) ?_
      have q := e_g1; simp only [c2, cond_true, cond_false, Bool.true_and, Bool.false_and, Bool.true_or, Bool.false_or] at q; subst q
      show _ = _
      kernel_rfl
    · skip
      refine O_ps 4 (by kernel_rfl) ?_
      refine O_nil ?_
      refine Gh_end (s1 := ⟨⟨71, [(1, .pown 0 1 0 0), (16, .bool (decide (a0.N > 12)))]⟩, [.live false 2 [[.int .i64 a0.N, .ro (a0.Most.map (cL cI_i64))]]]⟩) _ (by kernel_rfl) ?_
      have q := e_g1; simp only [c2, cond_true, cond_false, Bool.true_and, Bool.false_and, Bool.true_or, Bool.false_or] at q; subst q
      show _ = _
      kernel_rfl
  · refine W_gh ?_
    refine W_cond (c := ((decide (a0.N < 0)) || (decide (a0.N > 12)))) (by kernel_rfl) (fun c3 => ?_) (fun c3 => ?_)
    · replace h := fork_t c3 h
      refine W_seq ?_
      refine W_reg ?_
      refine O_ps 1 (by kernel_rfl) ?_
      refine O_nil ?_
      refine W_ret ?_
      replace h := Option.some.inj h; subst h
      exact Fin_free (l := [.int .i64 2]) (by kernel_rfl) (by kernel_rfl) rfl
    · replace h := fork_f c3 h
      refine W_skip ?_
      refine Gh_end (s1 := ⟨⟨71, [(1, .pown 0 1 0 0)]⟩, [.live false 2 [[.int .i64 a0.N, .ro (a0.Most.map (cL cI_i64))]]]⟩) _ (by kernel_rfl) ?_
      refine W_seq ?_
      refine W_seq ?_
      refine W_gh ?_
      refine W_reg ?_
      refine O_ps 2 (by kernel_rfl) ?_
      refine O_len (l := a0.Most) (cL cI_i64) (by kernel_rfl) (by kernel_rfl) ?_
      refine O_ps 4 (by kernel_rfl) ?_
      refine O_nil ?_
      refine Gh_end (s1 := ⟨⟨71, [(1, .pown 0 1 0 0), (23, .bool ((a0.Most.length : Int) != (addI .i64 a0.N 1)))]⟩, [.live false 2 [[.int .i64 a0.N, .ro (a0.Most.map (cL cI_i64))]]]⟩) _ (by kernel_rfl) ?_
      refine W_gh ?_
      refine W_cond (c := ((a0.Most.length : Int) != (addI .i64 a0.N 1))) (by kernel_rfl) (fun c4 => ?_) (fun c4 => ?_)
      · replace h := fork_t c4 h
        refine W_seq ?_
        refine W_reg ?_
        refine O_ps 1 (by kernel_rfl) ?_
        refine O_nil ?_
        refine W_ret ?_
        replace h := Option.some.inj h; subst h
        exact Fin_free (l := [.int .i64 8]) (by kernel_rfl) (by kernel_rfl) rfl
      · replace h := fork_f c4 h
        refine W_skip ?_
        refine Gh_end (s1 := ⟨⟨71, [(1, .pown 0 1 0 0)]⟩, [.live false 2 [[.int .i64 a0.N, .ro (a0.Most.map (cL cI_i64))]]]⟩) _ (by kernel_rfl) ?_
        refine W_seq ?_
        refine W_seq ?_
        refine W_gh ?_
        refine W_reg ?_
        refine O_ps 2 (by kernel_rfl) ?_
        refine O_len (l := a0.Most) (cL cI_i64) (by kernel_rfl) (by kernel_rfl) ?_
        refine O_ps 1 (by kernel_rfl) ?_
        refine O_nil ?_
        refine Gh_end (s1 := ⟨⟨71, [(1, .pown 0 1 0 0), (25, .ro (a0.Most.map (cL cI_i64))), (26, .int .i64 (a0.Most.length : Int)), (27, .int .i64 0)]⟩, [.live false 2 [[.int .i64 a0.N, .ro (a0.Most.map (cL cI_i64))]]]⟩) _ (by kernel_rfl) ?_
        refine W_loop (fun s5 : Int => ⟨⟨71, [(1, .pown 0 1 0 0), (25, .ro (a0.Most.map (cL cI_i64))), (26, .int .i64 (a0.Most.length : Int)), (27, .int .i64 s5)]⟩, [.live false 2 [[.int .i64 a0.N, .ro (a0.Most.map (cL cI_i64))]]]⟩) (fun w6 : Unit => ⟨⟨71, [(1, .pown 0 1 0 0), (25, .ro (a0.Most.map (cL cI_i64))), (26, .int .i64 (a0.Most.length : Int))]⟩, [.live false 2 [[.int .i64 a0.N, .ro (a0.Most.map (cL cI_i64))]]]⟩) h (by kernel_rfl) (fun s5 c h => ?_) (fun w6 h => ?_)
        · refine W_gh ?_
          refine W_seq ?_
          refine W_reg ?_
          refine O_ps 1 (by kernel_rfl) ?_
          refine O_nil ?_
          refine W_seq ?_
          refine W_gh ?_
          refine W_cond (c := (decide (s5 < (a0.Most.length : Int)))) (by kernel_rfl) (fun c7 => ?_) (fun c7 => ?_)
          · replace h := fork_t c7 h
            refine W_skip ?_
            refine Gh_end (s1 := ⟨⟨71, [(1, .pown 0 1 0 0), (25, .ro (a0.Most.map (cL cI_i64))), (26, .int .i64 (a0.Most.length : Int)), (27, .int .i64 s5)]⟩, [.live false 2 [[.int .i64 a0.N, .ro (a0.Most.map (cL cI_i64))]]]⟩) _ (by kernel_rfl) ?_
            refine W_seq ?_
            refine W_gh ?_
            refine W_block ?_
            refine W_seq ?_
            refine W_gh ?_
            refine W_reg ?_
            refine O_idx (kd := .i64) (cL cI_i64) h (fun _ => rfl) (by kernel_rfl) (by kernel_rfl) (by kernel_rfl) (fun v8 e_v8 h => ?_)
            refine O_ps 2 (by kernel_rfl) ?_
            refine O_nil ?_
            refine Gh_end (s1 := ⟨⟨71, [(1, .pown 0 1 0 0), (4, .ro (v8.map cI_i64)), (25, .ro (a0.Most.map (cL cI_i64))), (26, .int .i64 (a0.Most.length : Int)), (27, .int .i64 s5)]⟩, [.live false 2 [[.int .i64 a0.N, .ro (a0.Most.map (cL cI_i64))]]]⟩) _ (by kernel_rfl) ?_
            refine W_seq ?_
            refine W_gh ?_
            refine W_reg ?_
            refine O_ps 1 (by kernel_rfl) ?_
            refine O_len (l := v8) cI_i64 (by kernel_rfl) (by kernel_rfl) ?_
            refine O_ps 4 (by kernel_rfl) ?_
            refine O_nil ?_
            refine Gh_end (s1 := ⟨⟨71, [(1, .pown 0 1 0 0), (25, .ro (a0.Most.map (cL cI_i64))), (26, .int .i64 (a0.Most.length : Int)), (27, .int .i64 s5), (36, .bool ((v8.length : Int) != (addI .i64 a0.N 1)))]⟩, [.live false 2 [[.int .i64 a0.N, .ro (a0.Most.map (cL cI_i64))]]]⟩) _ (by kernel_rfl) ?_
            refine W_gh ?_
            refine W_cond (c := ((v8.length : Int) != (addI .i64 a0.N 1))) (by kernel_rfl) (fun c9 => ?_) (fun c9 => ?_)
            · replace h := fork_t c9 h
              refine W_seq ?_
              refine W_reg ?_
              refine O_ps 1 (by kernel_rfl) ?_
              refine O_nil ?_
              refine W_ret ?_
              replace h := Option.some.inj h; subst h
              refine ⟨_, rfl, fun h => ?_⟩
              replace h := Option.some.inj h; subst h
              exact Fin_free (l := [.int .i64 8]) (by kernel_rfl) (by kernel_rfl) rfl
            · replace h := fork_f c9 h
              refine W_skip ?_
              refine Gh_end (s1 := ⟨⟨71, [(1, .pown 0 1 0 0), (25, .ro (a0.Most.map (cL cI_i64))), (26, .int .i64 (a0.Most.length : Int)), (27, .int .i64 s5)]⟩, [.live false 2 [[.int .i64 a0.N, .ro (a0.Most.map (cL cI_i64))]]]⟩) _ (by kernel_rfl) ?_
              refine Gh_end (s1 := ⟨⟨71, [(1, .pown 0 1 0 0), (25, .ro (a0.Most.map (cL cI_i64))), (26, .int .i64 (a0.Most.length : Int)), (27, .int .i64 s5)]⟩, [.live false 2 [[.int .i64 a0.N, .ro (a0.Most.map (cL cI_i64))]]]⟩) _ (by kernel_rfl) ?_
              refine W_gh ?_
              refine W_reg ?_
              refine O_ps 2 (by kernel_rfl) ?_
              refine O_nil ?_
              refine Gh_end (s1 := ⟨⟨71, [(1, .pown 0 1 0 0), (25, .ro (a0.Most.map (cL cI_i64))), (26, .int .i64 (a0.Most.length : Int)), (27, .int .i64 (addI .i64 s5 1))]⟩, [.live false 2 [[.int .i64 a0.N, .ro (a0.Most.map (cL cI_i64))]]]⟩) _ (by kernel_rfl) ?_
              refine Gh_end (s1 := ⟨⟨71, [(1, .pown 0 1 0 0), (25, .ro (a0.Most.map (cL cI_i64))), (26, .int .i64 (a0.Most.length : Int)), (27, .int .i64 (addI .i64 s5 1))]⟩, [.live false 2 [[.int .i64 a0.N, .ro (a0.Most.map (cL cI_i64))]]]⟩) _ (by kernel_rfl) ?_
              replace h := Option.some.inj h; subst h
              exact ⟨_, rfl, by kernel_rfl⟩
          · replace h := fork_f c7 h
            refine W_exit ?_
            refine X_hit ?_
            refine Gh_end (s1 := ⟨⟨71, [(1, .pown 0 1 0 0), (25, .ro (a0.Most.map (cL cI_i64))), (26, .int .i64 (a0.Most.length : Int))]⟩, [.live false 2 [[.int .i64 a0.N, .ro (a0.Most.map (cL cI_i64))]]]⟩) _ (by kernel_rfl) ?_
            replace h := Option.some.inj h; subst h
            exact ⟨_, rfl, by kernel_rfl⟩
        · refine W_seq ?_
          refine W_seq ?_
          refine W_gh ?_
          refine W_reg ?_
          refine O_ps 2 (by kernel_rfl) ?_
          refine O_len (l := a0.Most) (cL cI_i64) (by kernel_rfl) (by kernel_rfl) ?_
          refine O_ps 1 (by kernel_rfl) ?_
          refine O_nil ?_
          refine Gh_end (s1 := ⟨⟨71, [(25, .ro (a0.Most.map (cL cI_i64))), (26, .int .i64 (a0.Most.length : Int)), (39, .ro (a0.Most.map (cL cI_i64))), (40, .int .i64 (a0.Most.length : Int)), (41, .int .i64 0)]⟩, [.live false 2 [[.int .i64 a0.N, .ro (a0.Most.map (cL cI_i64))]]]⟩) _ (by kernel_rfl) ?_
          refine W_loop (fun s10 : Int => ⟨⟨71, [(25, .ro (a0.Most.map (cL cI_i64))), (26, .int .i64 (a0.Most.length : Int)), (39, .ro (a0.Most.map (cL cI_i64))), (40, .int .i64 (a0.Most.length : Int)), (41, .int .i64 s10)]⟩, [.live false 2 [[.int .i64 a0.N, .ro (a0.Most.map (cL cI_i64))]]]⟩) (fun w11 : Unit => ⟨⟨71, [(25, .ro (a0.Most.map (cL cI_i64))), (26, .int .i64 (a0.Most.length : Int)), (39, .ro (a0.Most.map (cL cI_i64))), (40, .int .i64 (a0.Most.length : Int))]⟩, [.live false 2 [[.int .i64 a0.N, .ro (a0.Most.map (cL cI_i64))]]]⟩) h (by kernel_rfl) (fun s10 c h => ?_) (fun w11 h => ?_)
          · refine W_gh ?_
            refine W_seq ?_
            refine W_reg ?_
            refine O_ps 1 (by kernel_rfl) ?_
            refine O_nil ?_
            refine W_seq ?_
            refine W_gh ?_
            refine W_cond (c := (decide (s10 < (a0.Most.length : Int)))) (by kernel_rfl) (fun c12 => ?_) (fun c12 => ?_)
            · replace h := fork_t c12 h
              refine W_skip ?_
              refine Gh_end (s1 := ⟨⟨71, [(25, .ro (a0.Most.map (cL cI_i64))), (26, .int .i64 (a0.Most.length : Int)), (39, .ro (a0.Most.map (cL cI_i64))), (40, .int .i64 (a0.Most.length : Int)), (41, .int .i64 s10)]⟩, [.live false 2 [[.int .i64 a0.N, .ro (a0.Most.map (cL cI_i64))]]]⟩) _ (by kernel_rfl) ?_
              refine W_seq ?_
              refine W_gh ?_
              refine W_block ?_
              refine W_seq ?_
              refine W_gh ?_
              refine W_reg ?_
              refine O_ps 1 (by kernel_rfl) ?_
              refine O_idx (kd := .i64) (cL cI_i64) h (fun _ => rfl) (by kernel_rfl) (by kernel_rfl) (by kernel_rfl) (fun v13 e_v13 h => ?_)
              refine O_ps 3 (by kernel_rfl) ?_
              refine O_nil ?_
              refine Gh_end (s1 := ⟨⟨71, [(5, .int .i64 s10), (6, .ro (v13.map cI_i64)), (25, .ro (a0.Most.map (cL cI_i64))), (26, .int .i64 (a0.Most.length : Int)), (39, .ro (a0.Most.map (cL cI_i64))), (40, .int .i64 (a0.Most.length : Int)), (41, .int .i64 s10)]⟩, [.live false 2 [[.int .i64 a0.N, .ro (a0.Most.map (cL cI_i64))]]]⟩) _ (by kernel_rfl) ?_
              refine W_seq ?_
              refine W_gh ?_
              refine W_reg ?_
              refine O_ps 1 (by kernel_rfl) ?_
              refine O_len (l := v13) cI_i64 (by kernel_rfl) (by kernel_rfl) ?_
              refine O_ps 1 (by kernel_rfl) ?_
              refine O_nil ?_
              refine Gh_end (s1 := ⟨⟨71, [(5, .int .i64 s10), (25, .ro (a0.Most.map (cL cI_i64))), (26, .int .i64 (a0.Most.length : Int)), (39, .ro (a0.Most.map (cL cI_i64))), (40, .int .i64 (a0.Most.length : Int)), (41, .int .i64 s10), (46, .ro (v13.map cI_i64)), (47, .int .i64 (v13.length : Int)), (48, .int .i64 0)]⟩, [.live false 2 [[.int .i64 a0.N, .ro (a0.Most.map (cL cI_i64))]]]⟩) _ (by kernel_rfl) ?_
              refine W_loop (fun s14 : Int => ⟨⟨71, [(5, .int .i64 s10), (25, .ro (a0.Most.map (cL cI_i64))), (26, .int .i64 (a0.Most.length : Int)), (39, .ro (a0.Most.map (cL cI_i64))), (40, .int .i64 (a0.Most.length : Int)), (41, .int .i64 s10), (46, .ro (v13.map cI_i64)), (47, .int .i64 (v13.length : Int)), (48, .int .i64 s14)]⟩, [.live false 2 [[.int .i64 a0.N, .ro (a0.Most.map (cL cI_i64))]]]⟩) (fun w15 : Unit => ⟨⟨71, [(5, .int .i64 s10), (25, .ro (a0.Most.map (cL cI_i64))), (26, .int .i64 (a0.Most.length : Int)), (39, .ro (a0.Most.map (cL cI_i64))), (40, .int .i64 (a0.Most.length : Int)), (41, .int .i64 s10), (46, .ro (v13.map cI_i64)), (47, .int .i64 (v13.length : Int))]⟩, [.live false 2 [[.int .i64 a0.N, .ro (a0.Most.map (cL cI_i64))]]]⟩) h (by kernel_rfl) (fun s14 c h => ?_) (fun w15 h => ?_)
              · refine W_gh ?_
                refine W_seq ?_
                refine W_reg ?_
                refine O_ps 1 (by kernel_rfl) ?_
                refine O_nil ?_
                refine W_seq ?_
                refine W_gh ?_
                refine W_cond (c := (decide (s14 < (v13.length : Int)))) (by kernel_rfl) (fun c16 => ?_) (fun c16 => ?_)
                · replace h := fork_t c16 h
                  refine W_skip ?_
                  refine Gh_end (s1 := ⟨⟨71, [(5, .int .i64 s10), (25, .ro (a0.Most.map (cL cI_i64))), (26, .int .i64 (a0.Most.length : Int)), (39, .ro (a0.Most.map (cL cI_i64))), (40, .int .i64 (a0.Most.length : Int)), (41, .int .i64 s10), (46, .ro (v13.map cI_i64)), (47, .int .i64 (v13.length : Int)), (48, .int .i64 s14)]⟩, [.live false 2 [[.int .i64 a0.N, .ro (a0.Most.map (cL cI_i64))]]]⟩) _ (by kernel_rfl) ?_
                  refine W_seq ?_
                  refine W_gh ?_
                  refine W_block ?_
                  refine W_seq ?_
                  refine W_gh ?_
                  refine W_reg ?_
                  refine O_ps 1 (by kernel_rfl) ?_
                  refine O_idx (kd := .i64) cI_i64 h (fun _ => rfl) (by kernel_rfl) (by kernel_rfl) (by kernel_rfl) (fun v17 e_v17 h => ?_)
                  refine O_ps 3 (by kernel_rfl) ?_
                  refine O_nil ?_
                  refine Gh_end (s1 := ⟨⟨71, [(5, .int .i64 s10), (7, .int .i64 s14), (8, .int .i64 v17), (25, .ro (a0.Most.map (cL cI_i64))), (26, .int .i64 (a0.Most.length : Int)), (39, .ro (a0.Most.map (cL cI_i64))), (40, .int .i64 (a0.Most.length : Int)), (41, .int .i64 s10), (46, .ro (v13.map cI_i64)), (47, .int .i64 (v13.length : Int)), (48, .int .i64 s14)]⟩, [.live false 2 [[.int .i64 a0.N, .ro (a0.Most.map (cL cI_i64))]]]⟩) _ (by kernel_rfl) ?_
                  refine W_gh ?_
                  refine W_block ?_
                  refine W_seq ?_
                  refine W_joinS (fun v : Bool => ⟨⟨71, [(5, .int .i64 s10), (7, .int .i64 s14), (8, .int .i64 v17), (25, .ro (a0.Most.map (cL cI_i64))), (26, .int .i64 (a0.Most.length : Int)), (39, .ro (a0.Most.map (cL cI_i64))), (40, .int .i64 (a0.Most.length : Int)), (41, .int .i64 s10), (46, .ro (v13.map cI_i64)), (47, .int .i64 (v13.length : Int)), (48, .int .i64 s14), (53, .bool v)]⟩, [.live false 2 [[.int .i64 a0.N, .ro (a0.Most.map (cL cI_i64))]]]⟩) h (fun w h => ?_) (fun w18 e_w18 h => ?_)
                  · refine W_gh ?_
                    refine W_reg ?_
                    refine O_ps 3 (by kernel_rfl) ?_
                    refine O_fork (n := 56) (v17 != (-1099511627776)) (by kernel_rfl) (fun c19 => ?_) (fun c19 => ?_)
                    · replace h := fork_t c19 h
                      refine O_ps 1 (by kernel_rfl) ?_
                      refine O_call (fun v => .bool v) h (.inr rfl) (ys := [.int .i64 v17]) (fun _ e => p67 _ _ e) (by kernel_rfl) (by kernel_rfl) (bels_cons rfl rfl) (fun v20 e_v20 h => ?_)
                      refine O_ps 3 (by kernel_rfl) ?_
                      refine O_nil ?_
                      refine Gh_end (s1 := ⟨⟨71, [(5, .int .i64 s10), (7, .int .i64 s14), (8, .int .i64 v17), (25, .ro (a0.Most.map (cL cI_i64))), (26, .int .i64 (a0.Most.length : Int)), (39, .ro (a0.Most.map (cL cI_i64))), (40, .int .i64 (a0.Most.length : Int)), (41, .int .i64 s10), (46, .ro (v13.map cI_i64)), (47, .int .i64 (v13.length : Int)), (48, .int .i64 s14), (53, .bool (!v20))]⟩, [.live false 2 [[.int .i64 a0.N, .ro (a0.Most.map (cL cI_i64))]]]⟩) _ (by kernel_rfl) ?_
                      replace h := Option.some.inj h; subst h
                      show _ = _
                      kernel_rfl
                    · replace h := fork_f c19 h
                      refine O_ps 5 (by kernel_rfl) ?_
                      refine O_nil ?_
                      refine Gh_end (s1 := ⟨⟨71, [(5, .int .i64 s10), (7, .int .i64 s14), (8, .int .i64 v17), (25, .ro (a0.Most.map (cL cI_i64))), (26, .int .i64 (a0.Most.length : Int)), (39, .ro (a0.Most.map (cL cI_i64))), (40, .int .i64 (a0.Most.length : Int)), (41, .int .i64 s10), (46, .ro (v13.map cI_i64)), (47, .int .i64 (v13.length : Int)), (48, .int .i64 s14), (53, .bool false)]⟩, [.live false 2 [[.int .i64 a0.N, .ro (a0.Most.map (cL cI_i64))]]]⟩) _ (by kernel_rfl) ?_
                      replace h := Option.some.inj h; subst h
                      show _ = _
                      kernel_rfl
                  · refine W_gh ?_
                    refine W_cond (c := w18) (by kernel_rfl) (fun c21 => ?_) (fun c21 => ?_)
                    · replace h := fork_t c21 h
                      refine W_seq ?_
                      refine W_reg ?_
                      refine O_ps 1 (by kernel_rfl) ?_
                      refine O_nil ?_
                      refine W_ret ?_
                      replace h := Option.some.inj h; subst h
                      refine ⟨_, rfl, fun h => ?_⟩
                      replace h := Option.some.inj h; subst h
                      refine ⟨_, rfl, fun h => ?_⟩
                      replace h := Option.some.inj h; subst h
                      exact Fin_free (l := [.int .i64 2]) (by kernel_rfl) (by kernel_rfl) rfl
                    · replace h := fork_f c21 h
                      refine W_seq ?_
                      refine W_cut ⟨⟨71, [(5, .int .i64 s10), (25, .ro (a0.Most.map (cL cI_i64))), (26, .int .i64 (a0.Most.length : Int)), (39, .ro (a0.Most.map (cL cI_i64))), (40, .int .i64 (a0.Most.length : Int)), (41, .int .i64 s10), (46, .ro (v13.map cI_i64)), (47, .int .i64 (v13.length : Int)), (48, .int .i64 s14), (53, .bool w18), (61, .bool ((s10 == s14) && (v17 != 0)))]⟩, [.live false 2 [[.int .i64 a0.N, .ro (a0.Most.map (cL cI_i64))]]]⟩ ?_ ?_
                      · generalize e_g22 : ((s10 == s14) && (v17 != 0)) = g22
                        refine W_gh ?_
                        refine W_reg ?_
                        refine O_ps 4 (by kernel_rfl) ?_
                        refine O_fork (n := 65) (s10 == s14) (by kernel_rfl) (fun c23 => ?_) (fun c23 => ?_)
                        · skip
                          refine O_ps 4 (by kernel_rfl) ?_
                          refine O_nil ?_
                          refine Gh_end (s1 := ⟨⟨71, [(5, .int .i64 s10), (25, .ro (a0.Most.map (cL cI_i64))), (26, .int .i64 (a0.Most.length : Int)), (39, .ro (a0.Most.map (cL cI_i64))), (40, .int .i64 (a0.Most.length : Int)), (41, .int .i64 s10), (46, .ro (v13.map cI_i64)), (47, .int .i64 (v13.length : Int)), (48, .int .i64 s14), (53, .bool w18), (61, .bool (v17 != 0))]⟩, [.live false 2 [[.int .i64 a0.N, .ro (a0.Most.map (cL cI_i64))]]]⟩) _ (by kernel_rfl) ?_
                          have q := e_g22; simp only [c3, c4, c12, c16, c21, c23, cond_true, cond_false, Bool.true_and, Bool.false_and, Bool.true_or, Bool.false_or] at q; subst q
                          show _ = _
                          kernel_rfl
                        · skip
                          refine O_ps 4 (by kernel_rfl) ?_
                          refine O_nil ?_
                          refine Gh_end (s1 := ⟨⟨71, [(5, .int .i64 s10), (25, .ro (a0.Most.map (cL cI_i64))), (26, .int .i64 (a0.Most.length : Int)), (39, .ro (a0.Most.map (cL cI_i64))), (40, .int .i64 (a0.Most.length : Int)), (41, .int .i64 s10), (46, .ro (v13.map cI_i64)), (47, .int .i64 (v13.length : Int)), (48, .int .i64 s14), (53, .bool w18), (61, .bool false)]⟩, [.live false 2 [[.int .i64 a0.N, .ro (a0.Most.map (cL cI_i64))]]]⟩) _ (by kernel_rfl) ?_
                          have q := e_g22; simp only [c3, c4, c12, c16, c21, c23, cond_true, cond_false, Bool.true_and, Bool.false_and, Bool.true_or, Bool.false_or] at q; subst q
                          show _ = _
                          kernel_rfl
                      · refine W_gh ?_
                        refine W_cond (c := ((s10 == s14) && (v17 != 0))) (by kernel_rfl) (fun c24 => ?_) (fun c24 => ?_)
                        · replace h := fork_t c24 h
                          refine W_seq ?_
                          refine W_reg ?_
                          refine O_ps 1 (by kernel_rfl) ?_
                          refine O_nil ?_
                          refine W_ret ?_
                          replace h := Option.some.inj h; subst h
                          refine ⟨_, rfl, fun h => ?_⟩
                          replace h := Option.some.inj h; subst h
                          refine ⟨_, rfl, fun h => ?_⟩
                          replace h := Option.some.inj h; subst h
                          exact Fin_free (l := [.int .i64 3]) (by kernel_rfl) (by kernel_rfl) rfl
                        · replace h := fork_f c24 h
                          refine W_skip ?_
                          refine Gh_end (s1 := ⟨⟨71, [(5, .int .i64 s10), (25, .ro (a0.Most.map (cL cI_i64))), (26, .int .i64 (a0.Most.length : Int)), (39, .ro (a0.Most.map (cL cI_i64))), (40, .int .i64 (a0.Most.length : Int)), (41, .int .i64 s10), (46, .ro (v13.map cI_i64)), (47, .int .i64 (v13.length : Int)), (48, .int .i64 s14), (53, .bool w18)]⟩, [.live false 2 [[.int .i64 a0.N, .ro (a0.Most.map (cL cI_i64))]]]⟩) _ (by kernel_rfl) ?_
                          refine Gh_end (s1 := ⟨⟨71, [(5, .int .i64 s10), (25, .ro (a0.Most.map (cL cI_i64))), (26, .int .i64 (a0.Most.length : Int)), (39, .ro (a0.Most.map (cL cI_i64))), (40, .int .i64 (a0.Most.length : Int)), (41, .int .i64 s10), (46, .ro (v13.map cI_i64)), (47, .int .i64 (v13.length : Int)), (48, .int .i64 s14)]⟩, [.live false 2 [[.int .i64 a0.N, .ro (a0.Most.map (cL cI_i64))]]]⟩) _ (by kernel_rfl) ?_
                          refine Gh_end (s1 := ⟨⟨71, [(5, .int .i64 s10), (25, .ro (a0.Most.map (cL cI_i64))), (26, .int .i64 (a0.Most.length : Int)), (39, .ro (a0.Most.map (cL cI_i64))), (40, .int .i64 (a0.Most.length : Int)), (41, .int .i64 s10), (46, .ro (v13.map cI_i64)), (47, .int .i64 (v13.length : Int)), (48, .int .i64 s14)]⟩, [.live false 2 [[.int .i64 a0.N, .ro (a0.Most.map (cL cI_i64))]]]⟩) _ (by kernel_rfl) ?_
                          refine Gh_end (s1 := ⟨⟨71, [(5, .int .i64 s10), (25, .ro (a0.Most.map (cL cI_i64))), (26, .int .i64 (a0.Most.length : Int)), (39, .ro (a0.Most.map (cL cI_i64))), (40, .int .i64 (a0.Most.length : Int)), (41, .int .i64 s10), (46, .ro (v13.map cI_i64)), (47, .int .i64 (v13.length : Int)), (48, .int .i64 s14)]⟩, [.live false 2 [[.int .i64 a0.N, .ro (a0.Most.map (cL cI_i64))]]]⟩) _ (by kernel_rfl) ?_
                          refine W_gh ?_
                          refine W_reg ?_
                          refine O_ps 2 (by kernel_rfl) ?_
                          refine O_nil ?_
                          refine Gh_end (s1 := ⟨⟨71, [(5, .int .i64 s10), (25, .ro (a0.Most.map (cL cI_i64))), (26, .int .i64 (a0.Most.length : Int)), (39, .ro (a0.Most.map (cL cI_i64))), (40, .int .i64 (a0.Most.length : Int)), (41, .int .i64 s10), (46, .ro (v13.map cI_i64)), (47, .int .i64 (v13.length : Int)), (48, .int .i64 (addI .i64 s14 1))]⟩, [.live false 2 [[.int .i64 a0.N, .ro (a0.Most.map (cL cI_i64))]]]⟩) _ (by kernel_rfl) ?_
                          refine Gh_end (s1 := ⟨⟨71, [(5, .int .i64 s10), (25, .ro (a0.Most.map (cL cI_i64))), (26, .int .i64 (a0.Most.length : Int)), (39, .ro (a0.Most.map (cL cI_i64))), (40, .int .i64 (a0.Most.length : Int)), (41, .int .i64 s10), (46, .ro (v13.map cI_i64)), (47, .int .i64 (v13.length : Int)), (48, .int .i64 (addI .i64 s14 1))]⟩, [.live false 2 [[.int .i64 a0.N, .ro (a0.Most.map (cL cI_i64))]]]⟩) _ (by kernel_rfl) ?_
                          replace h := Option.some.inj h; subst h
                          exact ⟨_, rfl, by kernel_rfl⟩
                · replace h := fork_f c16 h
                  refine W_exit ?_
                  refine X_hit ?_
                  refine Gh_end (s1 := ⟨⟨71, [(5, .int .i64 s10), (25, .ro (a0.Most.map (cL cI_i64))), (26, .int .i64 (a0.Most.length : Int)), (39, .ro (a0.Most.map (cL cI_i64))), (40, .int .i64 (a0.Most.length : Int)), (41, .int .i64 s10), (46, .ro (v13.map cI_i64)), (47, .int .i64 (v13.length : Int))]⟩, [.live false 2 [[.int .i64 a0.N, .ro (a0.Most.map (cL cI_i64))]]]⟩) _ (by kernel_rfl) ?_
                  replace h := Option.some.inj h; subst h
                  exact ⟨_, rfl, by kernel_rfl⟩
              · refine Gh_end (s1 := ⟨⟨71, [(25, .ro (a0.Most.map (cL cI_i64))), (26, .int .i64 (a0.Most.length : Int)), (39, .ro (a0.Most.map (cL cI_i64))), (40, .int .i64 (a0.Most.length : Int)), (41, .int .i64 s10)]⟩, [.live false 2 [[.int .i64 a0.N, .ro (a0.Most.map (cL cI_i64))]]]⟩) _ (by kernel_rfl) ?_
                refine W_gh ?_
                refine W_reg ?_
                refine O_ps 2 (by kernel_rfl) ?_
                refine O_nil ?_
                refine Gh_end (s1 := ⟨⟨71, [(25, .ro (a0.Most.map (cL cI_i64))), (26, .int .i64 (a0.Most.length : Int)), (39, .ro (a0.Most.map (cL cI_i64))), (40, .int .i64 (a0.Most.length : Int)), (41, .int .i64 (addI .i64 s10 1))]⟩, [.live false 2 [[.int .i64 a0.N, .ro (a0.Most.map (cL cI_i64))]]]⟩) _ (by kernel_rfl) ?_
                refine Gh_end (s1 := ⟨⟨71, [(25, .ro (a0.Most.map (cL cI_i64))), (26, .int .i64 (a0.Most.length : Int)), (39, .ro (a0.Most.map (cL cI_i64))), (40, .int .i64 (a0.Most.length : Int)), (41, .int .i64 (addI .i64 s10 1))]⟩, [.live false 2 [[.int .i64 a0.N, .ro (a0.Most.map (cL cI_i64))]]]⟩) _ (by kernel_rfl) ?_
                replace h := Option.some.inj h; subst h
                exact ⟨_, rfl, by kernel_rfl⟩
            · replace h := fork_f c12 h
              refine W_exit ?_
              refine X_hit ?_
              refine Gh_end (s1 := ⟨⟨71, [(25, .ro (a0.Most.map (cL cI_i64))), (26, .int .i64 (a0.Most.length : Int)), (39, .ro (a0.Most.map (cL cI_i64))), (40, .int .i64 (a0.Most.length : Int))]⟩, [.live false 2 [[.int .i64 a0.N, .ro (a0.Most.map (cL cI_i64))]]]⟩) _ (by kernel_rfl) ?_
              replace h := Option.some.inj h; subst h
              exact ⟨_, rfl, by kernel_rfl⟩
          · refine W_seq ?_
            refine W_reg ?_
            refine O_ps 1 (by kernel_rfl) ?_
            refine O_nil ?_
            refine W_ret ?_
            replace h := Option.some.inj h; subst h
            exact Fin_free (l := [.int .i64 0]) (by kernel_rfl) (by kernel_rfl) rfl

theorem p29 (a0 : SBounds) (a1 : (List Int)) (r : (Bool × Int)) (h : m29 a0 a1 = some r) : Pt E0 hp 29 [.agg (cSBounds a0), .ro (a1.map cI_i64)] (.tup [.bool r.1, .int .i64 r.2]) := by
  unfold m29 at h
  refine Pt_W (fn29) rfl (by decide) ?_
  refine W_seq ?_
  refine W_gh ?_
  refine W_reg ?_
  refine O_ps 3 (by kernel_rfl) ?_
  refine O_nil ?_
  refine Gh_end (s1 := ⟨⟨66, [(1, .ro (a1.map cI_i64)), (2, .pown 0 1 0 0)]⟩, [.live false 2 [[.int .i64 a0.N, .ro (a0.Most.map (cL cI_i64))]]]⟩) _ (by kernel_rfl) ?_
  refine W_seq ?_
  refine W_seq ?_
  refine W_gh ?_
  refine W_reg ?_
  refine O_ps 1 (by kernel_rfl) ?_
  refine O_call (fun v => .int .i64 v) h (.inr rfl) (ys := [.agg (cSBounds a0)]) (fun _ e => p32 _ _ e) (by kernel_rfl) (by kernel_rfl) (bels_cons (okSBounds.bel _) rfl) (fun v1 e_v1 h => ?_)
  refine O_ps 1 (by kernel_rfl) ?_
  refine O_nil ?_
  refine Gh_end (s1 := ⟨⟨66, [(1, .ro (a1.map cI_i64)), (2, .pown 0 1 0 0), (6, .int .i64 v1)]⟩, [.live false 2 [[.int .i64 a0.N, .ro (a0.Most.map (cL cI_i64))]]]⟩) _ (by kernel_rfl) ?_
  refine W_seq ?_
  refine W_gh ?_
  refine W_reg ?_
  refine O_ps 2 (by kernel_rfl) ?_
  refine O_nil ?_
  refine Gh_end (s1 := ⟨⟨66, [(1, .ro (a1.map cI_i64)), (2, .pown 0 1 0 0), (6, .int .i64 v1), (16, .bool (v1 != 0))]⟩, [.live false 2 [[.int .i64 a0.N, .ro (a0.Most.map (cL cI_i64))]]]⟩) _ (by kernel_rfl) ?_
  refine W_gh ?_
  refine W_cond (c := (v1 != 0)) (by kernel_rfl) (fun c2 => ?_) (fun c2 => ?_)
  · replace h := fork_t c2 h
    refine W_seq ?_
    refine W_gh ?_
    refine W_reg ?_
    refine O_ps 3 (by kernel_rfl) ?_
    refine O_nil ?_
    refine Gh_end (s1 := ⟨⟨66, [(1, .ro (a1.map cI_i64)), (2, .pown 0 1 0 0), (4, .bool false), (5, .int .i64 v1), (16, .bool (v1 != 0))]⟩, [.live false 2 [[.int .i64 a0.N, .ro (a0.Most.map (cL cI_i64))]]]⟩) _ (by kernel_rfl) ?_
    refine W_ret ?_
    replace h := Option.some.inj h; subst h
    exact Fin_free (l := [.bool false, .int .i64 v1]) (by kernel_rfl) (by kernel_rfl) rfl
  · replace h := fork_f c2 h
    refine W_skip ?_
    refine Gh_end (s1 := ⟨⟨66, [(1, .ro (a1.map cI_i64)), (2, .pown 0 1 0 0), (6, .int .i64 v1)]⟩, [.live false 2 [[.int .i64 a0.N, .ro (a0.Most.map (cL cI_i64))]]]⟩) _ (by kernel_rfl) ?_
    refine W_seq ?_
    refine W_seq ?_
    refine W_gh ?_
    refine W_reg ?_
    refine O_ps 1 (by kernel_rfl) ?_
    refine O_len (l := a1) cI_i64 (by kernel_rfl) (by kernel_rfl) ?_
    refine O_ps 1 (by kernel_rfl) ?_
    refine O_nil ?_
    refine Gh_end (s1 := ⟨⟨66, [(1, .ro (a1.map cI_i64)), (2, .pown 0 1 0 0), (6, .int .i64 v1), (20, .bool ((a1.length : Int) == 0))]⟩, [.live false 2 [[.int .i64 a0.N, .ro (a0.Most.map (cL cI_i64))]]]⟩) _ (by kernel_rfl) ?_
    refine W_gh ?_
    refine W_cond (c := ((a1.length : Int) == 0)) (by kernel_rfl) (fun c3 => ?_) (fun c3 => ?_)
    · replace h := fork_t c3 h
      refine W_seq ?_
      refine W_reg ?_
      refine O_ps 2 (by kernel_rfl) ?_
      refine O_nil ?_
      refine W_ret ?_
      replace h := Option.some.inj h; subst h
      exact Fin_free (l := [.bool false, .int .i64 13]) (by kernel_rfl) (by kernel_rfl) rfl
    · replace h := fork_f c3 h
      refine W_skip ?_
      refine Gh_end (s1 := ⟨⟨66, [(1, .ro (a1.map cI_i64)), (2, .pown 0 1 0 0), (6, .int .i64 v1)]⟩, [.live false 2 [[.int .i64 a0.N, .ro (a0.Most.map (cL cI_i64))]]]⟩) _ (by kernel_rfl) ?_
      refine W_seq ?_
      refine W_seq ?_
      refine W_reg ?_
      refine O_ps 1 (by kernel_rfl) ?_
      refine O_len (l := a1) cI_i64 (by kernel_rfl) (by kernel_rfl) ?_
      refine O_ps 1 (by kernel_rfl) ?_
      refine O_nil ?_
      refine W_loop (fun s4 : Int => ⟨⟨66, [(1, .ro (a1.map cI_i64)), (2, .pown 0 1 0 0), (6, .int .i64 v1), (21, .ro (a1.map cI_i64)), (22, .int .i64 (a1.length : Int)), (23, .int .i64 s4)]⟩, [.live false 2 [[.int .i64 a0.N, .ro (a0.Most.map (cL cI_i64))]]]⟩) (fun w5 : Unit => ⟨⟨66, [(1, .ro (a1.map cI_i64)), (2, .pown 0 1 0 0), (6, .int .i64 v1), (21, .ro (a1.map cI_i64)), (22, .int .i64 (a1.length : Int))]⟩, [.live false 2 [[.int .i64 a0.N, .ro (a0.Most.map (cL cI_i64))]]]⟩) h (by kernel_rfl) (fun s4 c h => ?_) (fun w5 h => ?_)
      · refine W_gh ?_
        refine W_seq ?_
        refine W_reg ?_
        refine O_ps 1 (by kernel_rfl) ?_
        refine O_nil ?_
        refine W_seq ?_
        refine W_gh ?_
        refine W_cond (c := (decide (s4 < (a1.length : Int)))) (by kernel_rfl) (fun c6 => ?_) (fun c6 => ?_)
        · replace h := fork_t c6 h
          refine W_skip ?_
          refine Gh_end (s1 := ⟨⟨66, [(1, .ro (a1.map cI_i64)), (2, .pown 0 1 0 0), (6, .int .i64 v1), (21, .ro (a1.map cI_i64)), (22, .int .i64 (a1.length : Int)), (23, .int .i64 s4)]⟩, [.live false 2 [[.int .i64 a0.N, .ro (a0.Most.map (cL cI_i64))]]]⟩) _ (by kernel_rfl) ?_
          refine W_seq ?_
          refine W_gh ?_
          refine W_block ?_
          refine W_seq ?_
          refine W_gh ?_
          refine W_reg ?_
          refine O_idx (kd := .i64) cI_i64 h (fun _ => rfl) (by kernel_rfl) (by kernel_rfl) (by kernel_rfl) (fun v7 e_v7 h => ?_)
          refine O_ps 2 (by kernel_rfl) ?_
          refine O_nil ?_
          refine Gh_end (s1 := ⟨⟨66, [(1, .ro (a1.map cI_i64)), (2, .pown 0 1 0 0), (6, .int .i64 v1), (8, .int .i64 v7), (21, .ro (a1.map cI_i64)), (22, .int .i64 (a1.length : Int)), (23, .int .i64 s4)]⟩, [.live false 2 [[.int .i64 a0.N, .ro (a0.Most.map (cL cI_i64))]]]⟩) _ (by kernel_rfl) ?_
          refine W_seq ?_
          refine W_cut ⟨⟨66, [(1, .ro (a1.map cI_i64)), (2, .pown 0 1 0 0), (6, .int .i64 v1), (21, .ro (a1.map cI_i64)), (22, .int .i64 (a1.length : Int)), (23, .int .i64 s4), (34, .bool ((decide (v7 < 0)) || (decide (v7 > a0.N))))]⟩, [.live false 2 [[.int .i64 a0.N, .ro (a0.Most.map (cL cI_i64))]]]⟩ ?_ ?_
          · generalize e_g8 : ((decide (v7 < 0)) || (decide (v7 > a0.N))) = g8
            refine W_gh ?_
            refine W_reg ?_
            refine O_ps 3 (by kernel_rfl) ?_
            refine O_fork (n := 29) (decide (v7 < 0)) (by kernel_rfl) (fun c9 => ?_) (fun c9 => ?_)
            · skip
              refine O_ps 5 (by kernel_rfl) ?_
              refine O_nil ?_
              refine Gh_end (s1 := ⟨⟨66, [(1, .ro (a1.map cI_i64)), (2, .pown 0 1 0 0), (6, .int .i64 v1), (21, .ro (a1.map cI_i64)), (22, .int .i64 (a1.length : Int)), (23, .int .i64 s4), (34, .bool true)]⟩, [.live false 2 [[.int .i64 a0.N, .ro (a0.Most.map (cL cI_i64))]]]⟩) _ (by kernel_rfl) ?_
              have q := e_g8; simp only [c2, c3, c6, c9, cond_true, cond_false, Bool.true_and, Bool.false_and, Bool.true_or, Bool.false_or] at q; subst q
              show _ = _
              kernel_rfl
            · skip
              refine O_ps 5 (by kernel_rfl) ?_
              refine O_nil ?_
              refine Gh_end (s1 := ⟨⟨66, [(1, .ro (a1.map cI_i64)), (2, .pown 0 1 0 0), (6, .int .i64 v1), (21, .ro (a1.map cI_i64)), (22, .int .i64 (a1.length : Int)), (23, .int .i64 s4), (34, .bool (decide (v7 > a0.N)))]⟩, [.live false 2 [[.int .i64 a0.N, .ro (a0.Most.map (cL cI_i64))]]]⟩) _ (by kernel_rfl) ?_
              have q := e_g8; simp only [c2, c3, c6, c9, cond_true, cond_false, Bool.true_and, Bool.false_and, Bool.true_or, Bool.false_or] at q; subst q
              show _ = _
              kernel_rfl
          · refine W_gh ?_
            refine W_cond (c := ((decide (v7 < 0)) || (decide (v7 > a0.N)))) (by kernel_rfl) (fun c10 => ?_) (fun c10 => ?_)
            · replace h := fork_t c10 h
              refine W_seq ?_
              refine W_reg ?_
              refine O_ps 2 (by kernel_rfl) ?_
              refine O_nil ?_
              refine W_ret ?_
              replace h := Option.some.inj h; subst h
              refine ⟨_, rfl, fun h => ?_⟩
              replace h := Option.some.inj h; subst h
              exact Fin_free (l := [.bool false, .int .i64 2]) (by kernel_rfl) (by kernel_rfl) rfl
            · replace h := fork_f c10 h
              refine W_skip ?_
              refine Gh_end (s1 := ⟨⟨66, [(1, .ro (a1.map cI_i64)), (2, .pown 0 1 0 0), (6, .int .i64 v1), (21, .ro (a1.map cI_i64)), (22, .int .i64 (a1.length : Int)), (23, .int .i64 s4)]⟩, [.live false 2 [[.int .i64 a0.N, .ro (a0.Most.map (cL cI_i64))]]]⟩) _ (by kernel_rfl) ?_
              refine Gh_end (s1 := ⟨⟨66, [(1, .ro (a1.map cI_i64)), (2, .pown 0 1 0 0), (6, .int .i64 v1), (21, .ro (a1.map cI_i64)), (22, .int .i64 (a1.length : Int)), (23, .int .i64 s4)]⟩, [.live false 2 [[.int .i64 a0.N, .ro (a0.Most.map (cL cI_i64))]]]⟩) _ (by kernel_rfl) ?_
              refine W_gh ?_
              refine W_reg ?_
              refine O_ps 2 (by kernel_rfl) ?_
              refine O_nil ?_
              refine Gh_end (s1 := ⟨⟨66, [(1, .ro (a1.map cI_i64)), (2, .pown 0 1 0 0), (6, .int .i64 v1), (21, .ro (a1.map cI_i64)), (22, .int .i64 (a1.length : Int)), (23, .int .i64 (addI .i64 s4 1))]⟩, [.live false 2 [[.int .i64 a0.N, .ro (a0.Most.map (cL cI_i64))]]]⟩) _ (by kernel_rfl) ?_
              refine Gh_end (s1 := ⟨⟨66, [(1, .ro (a1.map cI_i64)), (2, .pown 0 1 0 0), (6, .int .i64 v1), (21, .ro (a1.map cI_i64)), (22, .int .i64 (a1.length : Int)), (23, .int .i64 (addI .i64 s4 1))]⟩, [.live false 2 [[.int .i64 a0.N, .ro (a0.Most.map (cL cI_i64))]]]⟩) _ (by kernel_rfl) ?_
              replace h := Option.some.inj h; subst h
              exact ⟨_, rfl, by kernel_rfl⟩
        · replace h := fork_f c6 h
          refine W_exit ?_
          refine X_hit ?_
          refine Gh_end (s1 := ⟨⟨66, [(1, .ro (a1.map cI_i64)), (2, .pown 0 1 0 0), (6, .int .i64 v1), (21, .ro (a1.map cI_i64)), (22, .int .i64 (a1.length : Int))]⟩, [.live false 2 [[.int .i64 a0.N, .ro (a0.Most.map (cL cI_i64))]]]⟩) _ (by kernel_rfl) ?_
          replace h := Option.some.inj h; subst h
          exact ⟨_, rfl, by kernel_rfl⟩
      · refine W_seq ?_
        refine W_reg ?_
        refine O_ps 1 (by kernel_rfl) ?_
        refine O_nil ?_
        refine W_seq ?_
        refine W_seq ?_
        refine W_reg ?_
        refine O_ps 1 (by kernel_rfl) ?_
        refine O_len (l := a1) cI_i64 (by kernel_rfl) (by kernel_rfl) ?_
        refine O_ps 1 (by kernel_rfl) ?_
        refine O_nil ?_
        refine W_loop (fun s11 : Int × Int => ⟨⟨66, [(1, .ro (a1.map cI_i64)), (2, .pown 0 1 0 0), (6, .int .i64 v1), (9, .int .i64 s11.2), (21, .ro (a1.map cI_i64)), (22, .int .i64 (a1.length : Int)), (36, .ro (a1.map cI_i64)), (37, .int .i64 (a1.length : Int)), (38, .int .i64 s11.1)]⟩, [.live false 2 [[.int .i64 a0.N, .ro (a0.Most.map (cL cI_i64))]]]⟩) (fun w12 : Int => ⟨⟨66, [(1, .ro (a1.map cI_i64)), (2, .pown 0 1 0 0), (6, .int .i64 v1), (9, .int .i64 w12), (21, .ro (a1.map cI_i64)), (22, .int .i64 (a1.length : Int)), (36, .ro (a1.map cI_i64)), (37, .int .i64 (a1.length : Int))]⟩, [.live false 2 [[.int .i64 a0.N, .ro (a0.Most.map (cL cI_i64))]]]⟩) h (by kernel_rfl) (fun s11 c h => ?_) (fun w12 h => ?_)
        · refine W_gh ?_
          refine W_seq ?_
          refine W_reg ?_
          refine O_ps 1 (by kernel_rfl) ?_
          refine O_nil ?_
          refine W_seq ?_
          refine W_gh ?_
          refine W_cond (c := (decide (s11.1 < (a1.length : Int)))) (by kernel_rfl) (fun c13 => ?_) (fun c13 => ?_)
          · replace h := fork_t c13 h
            refine W_skip ?_
            refine Gh_end (s1 := ⟨⟨66, [(1, .ro (a1.map cI_i64)), (2, .pown 0 1 0 0), (6, .int .i64 v1), (9, .int .i64 s11.2), (21, .ro (a1.map cI_i64)), (22, .int .i64 (a1.length : Int)), (36, .ro (a1.map cI_i64)), (37, .int .i64 (a1.length : Int)), (38, .int .i64 s11.1)]⟩, [.live false 2 [[.int .i64 a0.N, .ro (a0.Most.map (cL cI_i64))]]]⟩) _ (by kernel_rfl) ?_
            refine W_seq ?_
            refine W_gh ?_
            refine W_block ?_
            refine W_seq ?_
            refine W_gh ?_
            refine W_reg ?_
            refine O_ps 1 (by kernel_rfl) ?_
            refine O_idx (kd := .i64) cI_i64 h (fun _ => rfl) (by kernel_rfl) (by kernel_rfl) (by kernel_rfl) (fun v14 e_v14 h => ?_)
            refine O_ps 3 (by kernel_rfl) ?_
            refine O_nil ?_
            refine Gh_end (s1 := ⟨⟨66, [(1, .ro (a1.map cI_i64)), (2, .pown 0 1 0 0), (6, .int .i64 v1), (9, .int .i64 s11.2), (10, .int .i64 s11.1), (11, .int .i64 v14), (21, .ro (a1.map cI_i64)), (22, .int .i64 (a1.length : Int)), (36, .ro (a1.map cI_i64)), (37, .int .i64 (a1.length : Int)), (38, .int .i64 s11.1)]⟩, [.live false 2 [[.int .i64 a0.N, .ro (a0.Most.map (cL cI_i64))]]]⟩) _ (by kernel_rfl) ?_
            refine W_seq ?_
            refine W_gh ?_
            refine W_draw ?_
            refine O_ps 3 (by kernel_rfl) ?_
            refine O_idx (kd := .i64) (cL cI_i64) h (fun _ => rfl) (by kernel_rfl) (by kernel_rfl) (by kernel_rfl) (fun v15 e_v15 h => ?_)
            refine O_ps 5 (by kernel_rfl) ?_
            refine O_len (l := a1) cI_i64 (by kernel_rfl) (by kernel_rfl) ?_
            refine O_rem (kd := .i64) h (by kernel_rfl) (by kernel_rfl) (by kernel_rfl) (fun v16 e_v16 h => ?_)
            refine O_idx (kd := .i64) cI_i64 h (fun _ => rfl) (by kernel_rfl) (by kernel_rfl) (by kernel_rfl) (fun v17 e_v17 h => ?_)
            refine O_ps 1 (by kernel_rfl) ?_
            refine O_idx (kd := .i64) cI_i64 h (fun _ => rfl) (by kernel_rfl) (by kernel_rfl) (by kernel_rfl) (fun v18 e_v18 h => ?_)
            refine O_ps 2 (by kernel_rfl) ?_
            refine O_nil ?_
            refine Gh_end (s1 := ⟨⟨66, [(1, .ro (a1.map cI_i64)), (2, .pown 0 1 0 0), (6, .int .i64 v1), (9, .int .i64 s11.2), (12, .int .i64 v18), (21, .ro (a1.map cI_i64)), (22, .int .i64 (a1.length : Int)), (36, .ro (a1.map cI_i64)), (37, .int .i64 (a1.length : Int)), (38, .int .i64 s11.1)]⟩, [.live false 2 [[.int .i64 a0.N, .ro (a0.Most.map (cL cI_i64))]]]⟩) _ (by kernel_rfl) ?_
            refine W_seq ?_
            refine W_seq ?_
            refine W_gh ?_
            refine W_reg ?_
            refine O_ps 2 (by kernel_rfl) ?_
            refine O_nil ?_
            refine Gh_end (s1 := ⟨⟨66, [(1, .ro (a1.map cI_i64)), (2, .pown 0 1 0 0), (6, .int .i64 v1), (9, .int .i64 s11.2), (12, .int .i64 v18), (21, .ro (a1.map cI_i64)), (22, .int .i64 (a1.length : Int)), (36, .ro (a1.map cI_i64)), (37, .int .i64 (a1.length : Int)), (38, .int .i64 s11.1), (59, .bool (v18 == (-1099511627776)))]⟩, [.live false 2 [[.int .i64 a0.N, .ro (a0.Most.map (cL cI_i64))]]]⟩) _ (by kernel_rfl) ?_
            refine W_gh ?_
            refine W_cond (c := (v18 == (-1099511627776))) (by kernel_rfl) (fun c19 => ?_) (fun c19 => ?_)
            · replace h := fork_t c19 h
              refine W_seq ?_
              refine W_reg ?_
              refine O_ps 2 (by kernel_rfl) ?_
              refine O_nil ?_
              refine W_ret ?_
              replace h := Option.some.inj h; subst h
              refine ⟨_, rfl, fun h => ?_⟩
              replace h := Option.some.inj h; subst h
              exact Fin_free (l := [.bool false, .int .i64 0]) (by kernel_rfl) (by kernel_rfl) rfl
            · replace h := fork_f c19 h
              refine W_skip ?_
              refine Gh_end (s1 := ⟨⟨66, [(1, .ro (a1.map cI_i64)), (2, .pown 0 1 0 0), (6, .int .i64 v1), (9, .int .i64 s11.2), (12, .int .i64 v18), (21, .ro (a1.map cI_i64)), (22, .int .i64 (a1.length : Int)), (36, .ro (a1.map cI_i64)), (37, .int .i64 (a1.length : Int)), (38, .int .i64 s11.1)]⟩, [.live false 2 [[.int .i64 a0.N, .ro (a0.Most.map (cL cI_i64))]]]⟩) _ (by kernel_rfl) ?_
              refine W_gh ?_
              refine W_reg ?_
              refine O_ps 4 (by kernel_rfl) ?_
              refine O_nil ?_
              refine Gh_end (s1 := ⟨⟨66, [(1, .ro (a1.map cI_i64)), (2, .pown 0 1 0 0), (6, .int .i64 v1), (9, .int .i64 (addI .i64 s11.2 v18)), (21, .ro (a1.map cI_i64)), (22, .int .i64 (a1.length : Int)), (36, .ro (a1.map cI_i64)), (37, .int .i64 (a1.length : Int)), (38, .int .i64 s11.1)]⟩, [.live false 2 [[.int .i64 a0.N, .ro (a0.Most.map (cL cI_i64))]]]⟩) _ (by kernel_rfl) ?_
              refine Gh_end (s1 := ⟨⟨66, [(1, .ro (a1.map cI_i64)), (2, .pown 0 1 0 0), (6, .int .i64 v1), (9, .int .i64 (addI .i64 s11.2 v18)), (21, .ro (a1.map cI_i64)), (22, .int .i64 (a1.length : Int)), (36, .ro (a1.map cI_i64)), (37, .int .i64 (a1.length : Int)), (38, .int .i64 s11.1)]⟩, [.live false 2 [[.int .i64 a0.N, .ro (a0.Most.map (cL cI_i64))]]]⟩) _ (by kernel_rfl) ?_
              refine W_gh ?_
              refine W_reg ?_
              refine O_ps 2 (by kernel_rfl) ?_
              refine O_nil ?_
              refine Gh_end (s1 := ⟨⟨66, [(1, .ro (a1.map cI_i64)), (2, .pown 0 1 0 0), (6, .int .i64 v1), (9, .int .i64 (addI .i64 s11.2 v18)), (21, .ro (a1.map cI_i64)), (22, .int .i64 (a1.length : Int)), (36, .ro (a1.map cI_i64)), (37, .int .i64 (a1.length : Int)), (38, .int .i64 (addI .i64 s11.1 1))]⟩, [.live false 2 [[.int .i64 a0.N, .ro (a0.Most.map (cL cI_i64))]]]⟩) _ (by kernel_rfl) ?_
              refine Gh_end (s1 := ⟨⟨66, [(1, .ro (a1.map cI_i64)), (2, .pown 0 1 0 0), (6, .int .i64 v1), (9, .int .i64 (addI .i64 s11.2 v18)), (21, .ro (a1.map cI_i64)), (22, .int .i64 (a1.length : Int)), (36, .ro (a1.map cI_i64)), (37, .int .i64 (a1.length : Int)), (38, .int .i64 (addI .i64 s11.1 1))]⟩, [.live false 2 [[.int .i64 a0.N, .ro (a0.Most.map (cL cI_i64))]]]⟩) _ (by kernel_rfl) ?_
              replace h := Option.some.inj h; subst h
              exact ⟨_, rfl, by kernel_rfl⟩
          · replace h := fork_f c13 h
            refine W_exit ?_
            refine X_hit ?_
            refine Gh_end (s1 := ⟨⟨66, [(1, .ro (a1.map cI_i64)), (2, .pown 0 1 0 0), (6, .int .i64 v1), (9, .int .i64 s11.2), (21, .ro (a1.map cI_i64)), (22, .int .i64 (a1.length : Int)), (36, .ro (a1.map cI_i64)), (37, .int .i64 (a1.length : Int))]⟩, [.live false 2 [[.int .i64 a0.N, .ro (a0.Most.map (cL cI_i64))]]]⟩) _ (by kernel_rfl) ?_
            replace h := Option.some.inj h; subst h
            exact ⟨_, rfl, by kernel_rfl⟩
        · refine W_seq ?_
          refine W_gh ?_
          refine W_reg ?_
          refine O_ps 4 (by kernel_rfl) ?_
          refine O_nil ?_
          refine Gh_end (s1 := ⟨⟨66, [(1, .ro (a1.map cI_i64)), (2, .pown 0 1 0 0), (4, .bool (decide (w12 < 0))), (5, .int .i64 0), (6, .int .i64 v1), (21, .ro (a1.map cI_i64)), (22, .int .i64 (a1.length : Int)), (36, .ro (a1.map cI_i64)), (37, .int .i64 (a1.length : Int))]⟩, [.live false 2 [[.int .i64 a0.N, .ro (a0.Most.map (cL cI_i64))]]]⟩) _ (by kernel_rfl) ?_
          refine W_ret ?_
          replace h := Option.some.inj h; subst h
          exact Fin_free (l := [.bool (decide (w12 < 0)), .int .i64 0]) (by kernel_rfl) (by kernel_rfl) rfl

theorem p52 (a0 : SBounds) (a1 : Int) (r : Bool) (h : m52 a0 a1 = some r) : Pt E0 hp 52 [.agg (cSBounds a0), .int .i64 a1] (.bool r) := by
  unfold m52 at h
  refine Pt_W (fn52) rfl (by decide) ?_
  refine W_seq ?_
  refine W_gh ?_
  refine W_reg ?_
  refine O_ps 2 (by kernel_rfl) ?_
  refine O_nil ?_
  refine Gh_end (s1 := ⟨⟨13, [(1, .int .i64 a1), (2, .pown 0 1 0 0)]⟩, [.live false 2 [[.int .i64 a0.N, .ro (a0.Most.map (cL cI_i64))]]]⟩) _ (by kernel_rfl) ?_
  refine W_seq ?_
  refine W_cut ⟨⟨13, [(4, .bool ((decide (a1 ≥ 0)) && (decide (a1 ≤ a0.N))))]⟩, [.live false 2 [[.int .i64 a0.N, .ro (a0.Most.map (cL cI_i64))]]]⟩ ?_ ?_
  · generalize e_g1 : ((decide (a1 ≥ 0)) && (decide (a1 ≤ a0.N))) = g1
    refine W_gh ?_
    refine W_reg ?_
    refine O_ps 3 (by kernel_rfl) ?_
    refine O_fork (n := 7) (decide (a1 ≥ 0)) (by kernel_rfl) (fun c2 => ?_) (fun c2 => ?_)
    · skip
      refine O_ps 6 (by kernel_rfl) ?_
      refine O_nil ?_
      refine Gh_end (s1 := ⟨⟨13, [(4, .bool (decide (a1 ≤ a0.N)))]⟩, [.live false 2 [[.int .i64 a0.N, .ro (a0.Most.map (cL cI_i64))]]]⟩) _ (by kernel_rfl) ?_
      have q := e_g1; simp only [c2, cond_true, cond_false, Bool.true_and, Bool.false_and, Bool.true_or, Bool.false_or] at q; subst q
      show _ = _
      kernel_rfl
    · skip
      refine O_ps 6 (by kernel_rfl) ?_
      refine O_nil ?_
      refine Gh_end (s1 := ⟨⟨13, [(4, .bool false)]⟩, [.live false 2 [[.int .i64 a0.N, .ro (a0.Most.map (cL cI_i64))]]]⟩) _ (by kernel_rfl) ?_
      have q := e_g1; simp only [c2, cond_true, cond_false, Bool.true_and, Bool.false_and, Bool.true_or, Bool.false_or] at q; subst q
      show _ = _
      kernel_rfl
  · refine W_ret ?_
    replace h := Option.some.inj h; subst h
    exact Fin_free (l := [.bool ((decide (a1 ≥ 0)) && (decide (a1 ≤ a0.N)))]) (by kernel_rfl) (by kernel_rfl) rfl

theorem p88 (a0 : Int) (a1 : Int) (r : Int) (h : m88 a0 a1 = some r) : Pt E0 hp 88 [.int .i64 a0, .int .i64 a1] (.int .i64 r) := by
  unfold m88 at h
  refine Pt_W (fn88) rfl (by decide) ?_
  refine W_seq ?_
  refine W_gh ?_
  refine W_reg ?_
  refine O_ps 1 (by kernel_rfl) ?_
  refine O_nil ?_
  refine Gh_end (s1 := ⟨⟨14, [(0, .int .i64 a0), (1, .int .i64 a1)]⟩, []⟩) _ (by kernel_rfl) ?_
  refine W_seq ?_
  refine W_seq ?_
  refine W_cut ⟨⟨14, [(0, .int .i64 a0), (1, .int .i64 a1), (10, .bool ((a0 == (-1099511627776)) || (a1 == (-1099511627776))))]⟩, []⟩ ?_ ?_
  · generalize e_g1 : ((a0 == (-1099511627776)) || (a1 == (-1099511627776))) = g1
    refine W_gh ?_
    refine W_reg ?_
    refine O_ps 3 (by kernel_rfl) ?_
    refine O_fork (n := 7) (a0 == (-1099511627776)) (by kernel_rfl) (fun c2 => ?_) (fun c2 => ?_)
    · skip
      refine O_ps 3 (by kernel_rfl) ?_
      refine O_nil ?_
      refine Gh_end (s1 := ⟨⟨14, [(0, .int .i64 a0), (1, .int .i64 a1), (10, .bool true)]⟩, []⟩) _ (by kernel_rfl) ?_
      have q := e_g1; simp only [c2, cond_true, cond_false, Bool.true_and, Bool.false_and, Bool.true_or, Bool.false_or] at q; subst q
      show _ = _
      kernel_rfl
    · skip
      refine O_ps 3 (by kernel_rfl) ?_
      refine O_nil ?_
      refine Gh_end (s1 := ⟨⟨14, [(0, .int .i64 a0), (1, .int .i64 a1), (10, .bool (a1 == (-1099511627776)))]⟩, []⟩) _ (by kernel_rfl) ?_
      have q := e_g1; simp only [c2, cond_true, cond_false, Bool.true_and, Bool.false_and, Bool.true_or, Bool.false_or] at q; subst q
      show _ = _
      kernel_rfl
  · refine W_gh ?_
    refine W_cond (c := ((a0 == (-1099511627776)) || (a1 == (-1099511627776)))) (by kernel_rfl) (fun c3 => ?_) (fun c3 => ?_)
    · replace h := fork_t c3 h
      refine W_seq ?_
      refine W_reg ?_
      refine O_ps 1 (by kernel_rfl) ?_
      refine O_nil ?_
      refine W_ret ?_
      replace h := Option.some.inj h; subst h
      exact Fin_free (l := [.int .i64 (-1099511627776)]) (by kernel_rfl) (by kernel_rfl) rfl
    · replace h := fork_f c3 h
      refine W_skip ?_
      refine Gh_end (s1 := ⟨⟨14, [(0, .int .i64 a0), (1, .int .i64 a1)]⟩, []⟩) _ (by kernel_rfl) ?_
      refine W_seq ?_
      refine W_gh ?_
      refine W_reg ?_
      refine O_ps 4 (by kernel_rfl) ?_
      refine O_nil ?_
      refine Gh_end (s1 := ⟨⟨14, [(4, .int .i64 (addI .i64 a0 a1))]⟩, []⟩) _ (by kernel_rfl) ?_
      refine W_ret ?_
      replace h := Option.some.inj h; subst h
      exact Fin_free (l := [.int .i64 (addI .i64 a0 a1)]) (by kernel_rfl) (by kernel_rfl) rfl

theorem p53 (a0 : SBounds) (a1 : (List Int)) (r : Bool) (h : m53 a0 a1 = some r) : Pt E0 hp 53 [.agg (cSBounds a0), .ro (a1.map cI_i64)] (.bool r) := by
  unfold m53 at h
  refine Pt_W (fn53) rfl (by decide) ?_
  refine W_seq ?_
  refine W_gh ?_
  refine W_reg ?_
  refine O_ps 2 (by kernel_rfl) ?_
  refine O_nil ?_
  refine Gh_end (s1 := ⟨⟨39, [(1, .ro (a1.map cI_i64)), (2, .pown 0 1 0 0)]⟩, [.live false 2 [[.int .i64 a0.N, .ro (a0.Most.map (cL cI_i64))]]]⟩) _ (by kernel_rfl) ?_
  refine W_seq ?_
  refine W_reg ?_
  refine O_ps 1 (by kernel_rfl) ?_
  refine O_nil ?_
  refine W_seq ?_
  refine W_seq ?_
  refine W_reg ?_
  refine O_ps 1 (by kernel_rfl) ?_
  refine O_nil ?_
  refine W_loopS (fun s1 : Int × Int => ⟨⟨39, [(1, .ro (a1.map cI_i64)), (2, .pown 0 1 0 0), (5, .int .i64 s1.1), (6, .int .i64 s1.2)]⟩, [.live false 2 [[.int .i64 a0.N, .ro (a0.Most.map (cL cI_i64))]]]⟩) (fun w2 : Int => ⟨⟨39, [(1, .ro (a1.map cI_i64)), (2, .pown 0 1 0 0), (5, .int .i64 w2)]⟩, [.live false 2 [[.int .i64 a0.N, .ro (a0.Most.map (cL cI_i64))]]]⟩) h (by kernel_rfl) (fun s1 c h => ?_) (fun w2 e_w2 h => ?_)
  · refine W_gh ?_
    refine W_seq ?_
    refine W_seq ?_
    refine W_gh ?_
    refine W_reg ?_
    refine O_ps 2 (by kernel_rfl) ?_
    refine O_len (l := a1) cI_i64 (by kernel_rfl) (by kernel_rfl) ?_
    refine O_ps 1 (by kernel_rfl) ?_
    refine O_nil ?_
    refine Gh_end (s1 := ⟨⟨39, [(1, .ro (a1.map cI_i64)), (2, .pown 0 1 0 0), (5, .int .i64 s1.1), (6, .int .i64 s1.2), (10, .bool (decide (s1.2 < (a1.length : Int))))]⟩, [.live false 2 [[.int .i64 a0.N, .ro (a0.Most.map (cL cI_i64))]]]⟩) _ (by kernel_rfl) ?_
    refine W_gh ?_
    refine W_cond (c := (decide (s1.2 < (a1.length : Int)))) (by kernel_rfl) (fun c3 => ?_) (fun c3 => ?_)
    · replace h := fork_t c3 h
      refine W_skip ?_
      refine Gh_end (s1 := ⟨⟨39, [(1, .ro (a1.map cI_i64)), (2, .pown 0 1 0 0), (5, .int .i64 s1.1), (6, .int .i64 s1.2)]⟩, [.live false 2 [[.int .i64 a0.N, .ro (a0.Most.map (cL cI_i64))]]]⟩) _ (by kernel_rfl) ?_
      refine W_seq ?_
      refine W_block ?_
      refine W_gh ?_
      refine W_draw ?_
      refine O_ps 5 (by kernel_rfl) ?_
      refine O_idx (kd := .i64) cI_i64 h (fun _ => rfl) (by kernel_rfl) (by kernel_rfl) (by kernel_rfl) (fun v4 e_v4 h => ?_)
      refine O_ps 1 (by kernel_rfl) ?_
      refine O_idx (kd := .i64) (cL cI_i64) h (fun _ => rfl) (by kernel_rfl) (by kernel_rfl) (by kernel_rfl) (fun v5 e_v5 h => ?_)
      refine O_ps 5 (by kernel_rfl) ?_
      refine O_len (l := a1) cI_i64 (by kernel_rfl) (by kernel_rfl) ?_
      refine O_rem (kd := .i64) h (by kernel_rfl) (by kernel_rfl) (by kernel_rfl) (fun v6 e_v6 h => ?_)
      refine O_idx (kd := .i64) cI_i64 h (fun _ => rfl) (by kernel_rfl) (by kernel_rfl) (by kernel_rfl) (fun v7 e_v7 h => ?_)
      refine O_ps 1 (by kernel_rfl) ?_
      refine O_idx (kd := .i64) cI_i64 h (fun _ => rfl) (by kernel_rfl) (by kernel_rfl) (by kernel_rfl) (fun v8 e_v8 h => ?_)
      refine O_ps 1 (by kernel_rfl) ?_
      refine O_call (fun v => .int .i64 v) h (.inr rfl) (ys := [.int .i64 s1.1, .int .i64 v8]) (fun _ e => p88 _ _ _ e) (by kernel_rfl) (by kernel_rfl) (bels_cons rfl (bels_cons rfl rfl)) (fun v9 e_v9 h => ?_)
      refine O_ps 1 (by kernel_rfl) ?_
      refine O_nil ?_
      refine Gh_end (s1 := ⟨⟨39, [(1, .ro (a1.map cI_i64)), (2, .pown 0 1 0 0), (5, .int .i64 v9), (6, .int .i64 s1.2)]⟩, [.live false 2 [[.int .i64 a0.N, .ro (a0.Most.map (cL cI_i64))]]]⟩) _ (by kernel_rfl) ?_
      refine W_gh ?_
      refine W_reg ?_
      refine O_ps 3 (by kernel_rfl) ?_
      refine O_nil ?_
      refine Gh_end (s1 := ⟨⟨39, [(1, .ro (a1.map cI_i64)), (2, .pown 0 1 0 0), (5, .int .i64 v9), (6, .int .i64 (addI .i64 s1.2 1))]⟩, [.live false 2 [[.int .i64 a0.N, .ro (a0.Most.map (cL cI_i64))]]]⟩) _ (by kernel_rfl) ?_
      refine Gh_end (s1 := ⟨⟨39, [(1, .ro (a1.map cI_i64)), (2, .pown 0 1 0 0), (5, .int .i64 v9), (6, .int .i64 (addI .i64 s1.2 1))]⟩, [.live false 2 [[.int .i64 a0.N, .ro (a0.Most.map (cL cI_i64))]]]⟩) _ (by kernel_rfl) ?_
      replace h := Option.some.inj h; subst h
      exact ⟨_, rfl, by kernel_rfl⟩
    · replace h := fork_f c3 h
      refine W_exit ?_
      refine X_hit ?_
      refine Gh_end (s1 := ⟨⟨39, [(1, .ro (a1.map cI_i64)), (2, .pown 0 1 0 0), (5, .int .i64 s1.1)]⟩, [.live false 2 [[.int .i64 a0.N, .ro (a0.Most.map (cL cI_i64))]]]⟩) _ (by kernel_rfl) ?_
      replace h := Option.some.inj h; subst h
      exact ⟨_, rfl, by kernel_rfl⟩
  · refine W_seq ?_
    refine W_cut ⟨⟨39, [(1, .ro (a1.map cI_i64)), (2, .pown 0 1 0 0), (4, .bool ((w2 != (-1099511627776)) && (decide (w2 < 0))))]⟩, [.live false 2 [[.int .i64 a0.N, .ro (a0.Most.map (cL cI_i64))]]]⟩ ?_ ?_
    · generalize e_g10 : ((w2 != (-1099511627776)) && (decide (w2 < 0))) = g10
      refine W_gh ?_
      refine W_reg ?_
      refine O_ps 3 (by kernel_rfl) ?_
      refine O_fork (n := 35) (w2 != (-1099511627776)) (by kernel_rfl) (fun c11 => ?_) (fun c11 => ?_)
      · skip
        refine O_ps 4 (by kernel_rfl) ?_
        refine O_nil ?_
        refine Gh_end (s1 := ⟨⟨39, [(1, .ro (a1.map cI_i64)), (2, .pown 0 1 0 0), (4, .bool (decide (w2 < 0)))]⟩, [.live false 2 [[.int .i64 a0.N, .ro (a0.Most.map (cL cI_i64))]]]⟩) _ (by kernel_rfl) ?_
        have q := e_g10; simp only [c11, cond_true, cond_false, Bool.true_and, Bool.false_and, Bool.true_or, Bool.false_or] at q; subst q
        show _ = _
        kernel_rfl
      · skip
        refine O_ps 4 (by kernel_rfl) ?_
        refine O_nil ?_
        refine Gh_end (s1 := ⟨⟨39, [(1, .ro (a1.map cI_i64)), (2, .pown 0 1 0 0), (4, .bool false)]⟩, [.live false 2 [[.int .i64 a0.N, .ro (a0.Most.map (cL cI_i64))]]]⟩) _ (by kernel_rfl) ?_
        have q := e_g10; simp only [c11, cond_true, cond_false, Bool.true_and, Bool.false_and, Bool.true_or, Bool.false_or] at q; subst q
        show _ = _
        kernel_rfl
    · refine W_ret ?_
      replace h := Option.some.inj h; subst h
      exact Fin_free (l := [.bool ((w2 != (-1099511627776)) && (decide (w2 < 0)))]) (by kernel_rfl) (by kernel_rfl) rfl

theorem p17 (a0 : SBounds) (a1 : (List Int)) (r : (Bool × Int)) (h : m17 a0 a1 = some r) : Pt E0 hp 17 [.agg (cSBounds a0), .ro (a1.map cI_i64)] (.tup [.bool r.1, .int .i64 r.2]) := by
  unfold m17 at h
  refine Pt_W (fn17) rfl (by decide) ?_
  refine W_seq ?_
  refine W_gh ?_
  refine W_reg ?_
  refine O_ps 3 (by kernel_rfl) ?_
  refine O_nil ?_
  refine Gh_end (s1 := ⟨⟨32, [(1, .ro (a1.map cI_i64)), (2, .pown 0 1 0 0)]⟩, [.live false 2 [[.int .i64 a0.N, .ro (a0.Most.map (cL cI_i64))]]]⟩) _ (by kernel_rfl) ?_
  refine W_seq ?_
  refine W_seq ?_
  refine W_gh ?_
  refine W_reg ?_
  refine O_ps 1 (by kernel_rfl) ?_
  refine O_call (fun v => .int .i64 v) h (.inr rfl) (ys := [.agg (cSBounds a0)]) (fun _ e => p28 _ _ e) (by kernel_rfl) (by kernel_rfl) (bels_cons (okSBounds.bel _) rfl) (fun v1 e_v1 h => ?_)
  refine O_ps 1 (by kernel_rfl) ?_
  refine O_nil ?_
  refine Gh_end (s1 := ⟨⟨32, [(1, .ro (a1.map cI_i64)), (2, .pown 0 1 0 0), (6, .int .i64 v1)]⟩, [.live false 2 [[.int .i64 a0.N, .ro (a0.Most.map (cL cI_i64))]]]⟩) _ (by kernel_rfl) ?_
  refine W_seq ?_
  refine W_gh ?_
  refine W_reg ?_
  refine O_ps 2 (by kernel_rfl) ?_
  refine O_nil ?_
  refine Gh_end (s1 := ⟨⟨32, [(1, .ro (a1.map cI_i64)), (2, .pown 0 1 0 0), (6, .int .i64 v1), (11, .bool (v1 != 0))]⟩, [.live false 2 [[.int .i64 a0.N, .ro (a0.Most.map (cL cI_i64))]]]⟩) _ (by kernel_rfl) ?_
  refine W_gh ?_
  refine W_cond (c := (v1 != 0)) (by kernel_rfl) (fun c2 => ?_) (fun c2 => ?_)
  · replace h := fork_t c2 h
    refine W_seq ?_
    refine W_gh ?_
    refine W_reg ?_
    refine O_ps 3 (by kernel_rfl) ?_
    refine O_nil ?_
    refine Gh_end (s1 := ⟨⟨32, [(1, .ro (a1.map cI_i64)), (2, .pown 0 1 0 0), (4, .bool false), (5, .int .i64 v1), (11, .bool (v1 != 0))]⟩, [.live false 2 [[.int .i64 a0.N, .ro (a0.Most.map (cL cI_i64))]]]⟩) _ (by kernel_rfl) ?_
    refine W_ret ?_
    replace h := Option.some.inj h; subst h
    exact Fin_free (l := [.bool false, .int .i64 v1]) (by kernel_rfl) (by kernel_rfl) rfl
  · replace h := fork_f c2 h
    refine W_skip ?_
    refine Gh_end (s1 := ⟨⟨32, [(1, .ro (a1.map cI_i64)), (2, .pown 0 1 0 0), (6, .int .i64 v1)]⟩, [.live false 2 [[.int .i64 a0.N, .ro (a0.Most.map (cL cI_i64))]]]⟩) _ (by kernel_rfl) ?_
    refine W_seq ?_
    refine W_seq ?_
    refine W_gh ?_
    refine W_reg ?_
    refine O_ps 1 (by kernel_rfl) ?_
    refine O_len (l := a1) cI_i64 (by kernel_rfl) (by kernel_rfl) ?_
    refine O_ps 1 (by kernel_rfl) ?_
    refine O_nil ?_
    refine Gh_end (s1 := ⟨⟨32, [(1, .ro (a1.map cI_i64)), (2, .pown 0 1 0 0), (6, .int .i64 v1), (15, .bool ((a1.length : Int) == 0))]⟩, [.live false 2 [[.int .i64 a0.N, .ro (a0.Most.map (cL cI_i64))]]]⟩) _ (by kernel_rfl) ?_
    refine W_gh ?_
    refine W_cond (c := ((a1.length : Int) == 0)) (by kernel_rfl) (fun c3 => ?_) (fun c3 => ?_)
    · replace h := fork_t c3 h
      refine W_seq ?_
      refine W_reg ?_
      refine O_ps 2 (by kernel_rfl) ?_
      refine O_nil ?_
      refine W_ret ?_
      replace h := Option.some.inj h; subst h
      exact Fin_free (l := [.bool false, .int .i64 13]) (by kernel_rfl) (by kernel_rfl) rfl
    · replace h := fork_f c3 h
      refine W_skip ?_
      refine Gh_end (s1 := ⟨⟨32, [(1, .ro (a1.map cI_i64)), (2, .pown 0 1 0 0), (6, .int .i64 v1)]⟩, [.live false 2 [[.int .i64 a0.N, .ro (a0.Most.map (cL cI_i64))]]]⟩) _ (by kernel_rfl) ?_
      refine W_seq ?_
      refine W_seq ?_
      refine W_reg ?_
      refine O_ps 1 (by kernel_rfl) ?_
      refine O_nil ?_
      refine W_loop (fun s4 : Int => ⟨⟨32, [(1, .ro (a1.map cI_i64)), (2, .pown 0 1 0 0), (6, .int .i64 v1), (7, .int .i64 s4)]⟩, [.live false 2 [[.int .i64 a0.N, .ro (a0.Most.map (cL cI_i64))]]]⟩) (fun w5 : Unit => ⟨⟨32, [(1, .ro (a1.map cI_i64)), (2, .pown 0 1 0 0), (6, .int .i64 v1)]⟩, [.live false 2 [[.int .i64 a0.N, .ro (a0.Most.map (cL cI_i64))]]]⟩) h (by kernel_rfl) (fun s4 c h => ?_) (fun w5 h => ?_)
      · refine W_gh ?_
        refine W_seq ?_
        refine W_seq ?_
        refine W_gh ?_
        refine W_reg ?_
        refine O_ps 2 (by kernel_rfl) ?_
        refine O_len (l := a1) cI_i64 (by kernel_rfl) (by kernel_rfl) ?_
        refine O_ps 1 (by kernel_rfl) ?_
        refine O_nil ?_
        refine Gh_end (s1 := ⟨⟨32, [(1, .ro (a1.map cI_i64)), (2, .pown 0 1 0 0), (6, .int .i64 v1), (7, .int .i64 s4), (19, .bool (decide (s4 < (a1.length : Int))))]⟩, [.live false 2 [[.int .i64 a0.N, .ro (a0.Most.map (cL cI_i64))]]]⟩) _ (by kernel_rfl) ?_
        refine W_gh ?_
        refine W_cond (c := (decide (s4 < (a1.length : Int)))) (by kernel_rfl) (fun c6 => ?_) (fun c6 => ?_)
        · replace h := fork_t c6 h
          refine W_skip ?_
          refine Gh_end (s1 := ⟨⟨32, [(1, .ro (a1.map cI_i64)), (2, .pown 0 1 0 0), (6, .int .i64 v1), (7, .int .i64 s4)]⟩, [.live false 2 [[.int .i64 a0.N, .ro (a0.Most.map (cL cI_i64))]]]⟩) _ (by kernel_rfl) ?_
          refine W_seq ?_
          refine W_gh ?_
          refine W_block ?_
          refine W_seq ?_
          refine W_gh ?_
          refine W_draw ?_
          refine O_ps 3 (by kernel_rfl) ?_
          refine O_idx (kd := .i64) cI_i64 h (fun _ => rfl) (by kernel_rfl) (by kernel_rfl) (by kernel_rfl) (fun v7 e_v7 h => ?_)
          refine O_ps 1 (by kernel_rfl) ?_
          refine O_call (fun v => .bool v) h (.inr rfl) (ys := [.agg (cSBounds a0), .int .i64 v7]) (fun _ e => p52 _ _ _ e) (by kernel_rfl) (by kernel_rfl) (bels_cons (okSBounds.bel _) (bels_cons rfl rfl)) (fun v8 e_v8 h => ?_)
          refine O_ps 1 (by kernel_rfl) ?_
          refine O_nil ?_
          refine Gh_end (s1 := ⟨⟨32, [(1, .ro (a1.map cI_i64)), (2, .pown 0 1 0 0), (6, .int .i64 v1), (7, .int .i64 s4), (28, .bool (!v8))]⟩, [.live false 2 [[.int .i64 a0.N, .ro (a0.Most.map (cL cI_i64))]]]⟩) _ (by kernel_rfl) ?_
          refine W_gh ?_
          refine W_cond (c := (!v8)) (by kernel_rfl) (fun c9 => ?_) (fun c9 => ?_)
          · replace h := fork_t c9 h
            refine W_seq ?_
            refine W_reg ?_
            refine O_ps 2 (by kernel_rfl) ?_
            refine O_nil ?_
            refine W_ret ?_
            replace h := Option.some.inj h; subst h
            refine ⟨_, rfl, fun h => ?_⟩
            replace h := Option.some.inj h; subst h
            exact Fin_free (l := [.bool false, .int .i64 2]) (by kernel_rfl) (by kernel_rfl) rfl
          · replace h := fork_f c9 h
            refine W_skip ?_
            refine Gh_end (s1 := ⟨⟨32, [(1, .ro (a1.map cI_i64)), (2, .pown 0 1 0 0), (6, .int .i64 v1), (7, .int .i64 s4)]⟩, [.live false 2 [[.int .i64 a0.N, .ro (a0.Most.map (cL cI_i64))]]]⟩) _ (by kernel_rfl) ?_
            refine Gh_end (s1 := ⟨⟨32, [(1, .ro (a1.map cI_i64)), (2, .pown 0 1 0 0), (6, .int .i64 v1), (7, .int .i64 s4)]⟩, [.live false 2 [[.int .i64 a0.N, .ro (a0.Most.map (cL cI_i64))]]]⟩) _ (by kernel_rfl) ?_
            refine W_gh ?_
            refine W_reg ?_
            refine O_ps 3 (by kernel_rfl) ?_
            refine O_nil ?_
            refine Gh_end (s1 := ⟨⟨32, [(1, .ro (a1.map cI_i64)), (2, .pown 0 1 0 0), (6, .int .i64 v1), (7, .int .i64 (addI .i64 s4 1))]⟩, [.live false 2 [[.int .i64 a0.N, .ro (a0.Most.map (cL cI_i64))]]]⟩) _ (by kernel_rfl) ?_
            refine Gh_end (s1 := ⟨⟨32, [(1, .ro (a1.map cI_i64)), (2, .pown 0 1 0 0), (6, .int .i64 v1), (7, .int .i64 (addI .i64 s4 1))]⟩, [.live false 2 [[.int .i64 a0.N, .ro (a0.Most.map (cL cI_i64))]]]⟩) _ (by kernel_rfl) ?_
            replace h := Option.some.inj h; subst h
            exact ⟨_, rfl, by kernel_rfl⟩
        · replace h := fork_f c6 h
          refine W_exit ?_
          refine X_hit ?_
          refine Gh_end (s1 := ⟨⟨32, [(1, .ro (a1.map cI_i64)), (2, .pown 0 1 0 0), (6, .int .i64 v1)]⟩, [.live false 2 [[.int .i64 a0.N, .ro (a0.Most.map (cL cI_i64))]]]⟩) _ (by kernel_rfl) ?_
          replace h := Option.some.inj h; subst h
          exact ⟨_, rfl, by kernel_rfl⟩
      · refine W_seq ?_
        refine W_gh ?_
        refine W_reg ?_
        refine O_ps 2 (by kernel_rfl) ?_
        refine O_call (fun v => .bool v) h (.inr rfl) (ys := [.agg (cSBounds a0), .ro (a1.map cI_i64)]) (fun _ e => p53 _ _ _ e) (by kernel_rfl) (by kernel_rfl) (bels_cons (okSBounds.bel _) (bels_cons (ro_bel okI_i64.bel _) rfl)) (fun v10 e_v10 h => ?_)
        refine O_ps 2 (by kernel_rfl) ?_
        refine O_nil ?_
        refine Gh_end (s1 := ⟨⟨32, [(4, .bool v10), (5, .int .i64 0), (6, .int .i64 v1)]⟩, [.live false 2 [[.int .i64 a0.N, .ro (a0.Most.map (cL cI_i64))]]]⟩) _ (by kernel_rfl) ?_
        refine W_ret ?_
        replace h := Option.some.inj h; subst h
        exact Fin_free (l := [.bool v10, .int .i64 0]) (by kernel_rfl) (by kernel_rfl) rfl

theorem p66 (a0 : Int) (r : Bool) (h : m66 a0 = some r) : Pt E0 hp 66 [.int .i64 a0] (.bool r) := by
  unfold m66 at h
  refine Pt_W (fn66) rfl (by decide) ?_
  refine W_seq ?_
  refine W_gh ?_
  refine W_reg ?_
  refine O_ps 1 (by kernel_rfl) ?_
  refine O_nil ?_
  refine Gh_end (s1 := ⟨⟨6, [(0, .int .i64 a0)]⟩, []⟩) _ (by kernel_rfl) ?_
  refine W_seq ?_
  refine W_gh ?_
  refine W_reg ?_
  refine O_ps 1 (by kernel_rfl) ?_
  refine O_call (fun v => .bool v) h (.inr rfl) (ys := [.int .i64 a0]) (fun _ e => p67 _ _ e) (by kernel_rfl) (by kernel_rfl) (bels_cons rfl rfl) (fun v1 e_v1 h => ?_)
  refine O_ps 2 (by kernel_rfl) ?_
  refine O_nil ?_
  refine Gh_end (s1 := ⟨⟨6, [(2, .bool (!v1))]⟩, []⟩) _ (by kernel_rfl) ?_
  refine W_ret ?_
  replace h := Option.some.inj h; subst h
  exact Fin_free (l := [.bool (!v1)]) (by kernel_rfl) (by kernel_rfl) rfl

theorem p77_66 (a0 : (List Int)) (r : Int) (h : m77_66 a0 = some r) : Pt E0 hp 77 [.ro (a0.map cI_i64), .fn 66 []] (.int .i64 r) := by
  unfold m77_66 at h
  refine Pt_W (fn77) rfl (by decide) ?_
  refine W_seq ?_
  refine W_gh ?_
  refine W_reg ?_
  refine O_ps 1 (by kernel_rfl) ?_
  refine O_nil ?_
  refine Gh_end (s1 := ⟨⟨19, [(0, .ro (a0.map cI_i64)), (1, .fn 66 [])]⟩, []⟩) _ (by kernel_rfl) ?_
  refine W_seq ?_
  refine W_seq ?_
  refine W_gh ?_
  refine W_reg ?_
  refine O_ps 1 (by kernel_rfl) ?_
  refine O_len (l := a0) cI_i64 (by kernel_rfl) (by kernel_rfl) ?_
  refine O_ps 1 (by kernel_rfl) ?_
  refine O_nil ?_
  refine Gh_end (s1 := ⟨⟨19, [(0, .ro (a0.map cI_i64)), (1, .fn 66 []), (7, .int .i64 (a0.length : Int)), (8, .int .i64 0)]⟩, []⟩) _ (by kernel_rfl) ?_
  refine W_loop (fun s1 : Int => ⟨⟨19, [(0, .ro (a0.map cI_i64)), (1, .fn 66 []), (7, .int .i64 (a0.length : Int)), (8, .int .i64 s1)]⟩, []⟩) (fun w2 : Unit => ⟨⟨19, [(0, .ro (a0.map cI_i64)), (1, .fn 66 []), (7, .int .i64 (a0.length : Int))]⟩, []⟩) h (by kernel_rfl) (fun s1 c h => ?_) (fun w2 h => ?_)
  · refine W_gh ?_
    refine W_seq ?_
    refine W_reg ?_
    refine O_ps 1 (by kernel_rfl) ?_
    refine O_nil ?_
    refine W_seq ?_
    refine W_gh ?_
    refine W_cond (c := (decide (s1 < (a0.length : Int)))) (by kernel_rfl) (fun c3 => ?_) (fun c3 => ?_)
    · replace h := fork_t c3 h
      refine W_skip ?_
      refine Gh_end (s1 := ⟨⟨19, [(0, .ro (a0.map cI_i64)), (1, .fn 66 []), (7, .int .i64 (a0.length : Int)), (8, .int .i64 s1)]⟩, []⟩) _ (by kernel_rfl) ?_
      refine W_seq ?_
      refine W_gh ?_
      refine W_block ?_
      refine W_seq ?_
      refine W_gh ?_
      refine W_reg ?_
      refine O_ps 2 (by kernel_rfl) ?_
      refine O_nil ?_
      refine Gh_end (s1 := ⟨⟨19, [(0, .ro (a0.map cI_i64)), (1, .fn 66 []), (5, .int .i64 s1), (7, .int .i64 (a0.length : Int)), (8, .int .i64 s1)]⟩, []⟩) _ (by kernel_rfl) ?_
      refine W_seq ?_
      refine W_gh ?_
      refine W_reg ?_
      refine O_ps 3 (by kernel_rfl) ?_
      refine O_idx (kd := .i64) cI_i64 h (fun _ => rfl) (by kernel_rfl) (by kernel_rfl) (by kernel_rfl) (fun v4 e_v4 h => ?_)
      refine O_ps 1 (by kernel_rfl) ?_
      refine O_callv (f := 66) (cap := []) (fun v => .bool v) h (.inr rfl) (by kernel_rfl) (ys := [.int .i64 v4]) (fun _ e => p66 _ _ e) (by kernel_rfl) (by kernel_rfl) (bels_cons rfl rfl) (fun v5 e_v5 h => ?_)
      refine O_nil ?_
      refine Gh_one (s1 := ⟨⟨19, [(0, .ro (a0.map cI_i64)), (1, .fn 66 []), (5, .int .i64 s1), (7, .int .i64 (a0.length : Int)), (8, .int .i64 s1), (16, .bool v5)]⟩, []⟩) (by kernel_rfl) ?_
      refine Gh_trunc0 (by kernel_rfl) ?_
      refine Gh_nil ?_
      refine W_gh ?_
      refine W_cond (c := v5) (by kernel_rfl) (fun c6 => ?_) (fun c6 => ?_)
      · replace h := fork_t c6 h
        refine W_seq ?_
        refine W_gh ?_
        refine W_reg ?_
        refine O_ps 2 (by kernel_rfl) ?_
        refine O_nil ?_
        refine Gh_end (s1 := ⟨⟨19, [(0, .ro (a0.map cI_i64)), (1, .fn 66 []), (4, .int .i64 s1), (7, .int .i64 (a0.length : Int)), (8, .int .i64 s1), (16, .bool v5)]⟩, []⟩) _ (by kernel_rfl) ?_
        refine W_ret ?_
        replace h := Option.some.inj h; subst h
        refine ⟨_, rfl, fun h => ?_⟩
        replace h := Option.some.inj h; subst h
        exact Fin_free (l := [.int .i64 s1]) (by kernel_rfl) (by kernel_rfl) rfl
      · replace h := fork_f c6 h
        refine W_skip ?_
        refine Gh_end (s1 := ⟨⟨19, [(0, .ro (a0.map cI_i64)), (1, .fn 66 []), (5, .int .i64 s1), (7, .int .i64 (a0.length : Int)), (8, .int .i64 s1)]⟩, []⟩) _ (by kernel_rfl) ?_
        refine Gh_one (s1 := ⟨⟨19, [(0, .ro (a0.map cI_i64)), (1, .fn 66 []), (7, .int .i64 (a0.length : Int)), (8, .int .i64 s1)]⟩, []⟩) (by kernel_rfl) ?_
        refine Gh_trunc0 (by kernel_rfl) ?_
        refine Gh_nil ?_
        refine W_gh ?_
        refine W_reg ?_
        refine O_ps 2 (by kernel_rfl) ?_
        refine O_nil ?_
        refine Gh_end (s1 := ⟨⟨19, [(0, .ro (a0.map cI_i64)), (1, .fn 66 []), (7, .int .i64 (a0.length : Int)), (8, .int .i64 (addI .i64 s1 1))]⟩, []⟩) _ (by kernel_rfl) ?_
        refine Gh_one (s1 := ⟨⟨19, [(0, .ro (a0.map cI_i64)), (1, .fn 66 []), (7, .int .i64 (a0.length : Int)), (8, .int .i64 (addI .i64 s1 1))]⟩, []⟩) (by kernel_rfl) ?_
        refine Gh_trunc0 (by kernel_rfl) ?_
        refine Gh_nil ?_
        replace h := Option.some.inj h; subst h
        exact ⟨_, rfl, by kernel_rfl⟩
    · replace h := fork_f c3 h
      refine W_exit ?_
      refine X_hit ?_
      refine Gh_one (s1 := ⟨⟨19, [(0, .ro (a0.map cI_i64)), (1, .fn 66 []), (7, .int .i64 (a0.length : Int))]⟩, []⟩) (by kernel_rfl) ?_
      refine Gh_trunc0 (by kernel_rfl) ?_
      refine Gh_nil ?_
      replace h := Option.some.inj h; subst h
      exact ⟨_, rfl, by kernel_rfl⟩
  · refine W_seq ?_
    refine W_reg ?_
    refine O_ps 1 (by kernel_rfl) ?_
    refine O_nil ?_
    refine W_ret ?_
    replace h := Option.some.inj h; subst h
    exact Fin_free (l := [.int .i64 (-1)]) (by kernel_rfl) (by kernel_rfl) rfl

theorem p39_66 (a0 : (List Int)) (r : Bool) (h : m39_66 a0 = some r) : Pt E0 hp 39 [.ro (a0.map cI_i64), .fn 66 []] (.bool r) := by
  unfold m39_66 at h
  refine Pt_W (fn39) rfl (by decide) ?_
  refine W_seq ?_
  refine W_gh ?_
  refine W_reg ?_
  refine O_ps 1 (by kernel_rfl) ?_
  refine O_nil ?_
  refine Gh_end (s1 := ⟨⟨9, [(0, .ro (a0.map cI_i64)), (1, .fn 66 [])]⟩, []⟩) _ (by kernel_rfl) ?_
  refine W_seq ?_
  refine W_gh ?_
  refine W_reg ?_
  refine O_ps 2 (by kernel_rfl) ?_
  refine O_call (fun v => .int .i64 v) h (.inr rfl) (ys := [.ro (a0.map cI_i64), .fn 66 []]) (fun _ e => p77_66 _ _ e) (by kernel_rfl) (by kernel_rfl) (bels_cons (ro_bel okI_i64.bel _) (bels_cons rfl rfl)) (fun v1 e_v1 h => ?_)
  refine O_ps 2 (by kernel_rfl) ?_
  refine O_nil ?_
  refine Gh_end (s1 := ⟨⟨9, [(4, .bool (decide (v1 ≥ 0)))]⟩, []⟩) _ (by kernel_rfl) ?_
  refine W_ret ?_
  replace h := Option.some.inj h; subst h
  exact Fin_free (l := [.bool (decide (v1 ≥ 0))]) (by kernel_rfl) (by kernel_rfl) rfl

theorem p30 (a0 : SBounds) (a1 : (List Int)) (r : (Bool × Int)) (h : m30 a0 a1 = some r) : Pt E0 hp 30 [.agg (cSBounds a0), .ro (a1.map cI_i64)] (.tup [.bool r.1, .int .i64 r.2]) := by
  unfold m30 at h
  refine Pt_W (fn30) rfl (by decide) ?_
  refine W_seq ?_
  refine W_gh ?_
  refine W_reg ?_
  refine O_ps 3 (by kernel_rfl) ?_
  refine O_nil ?_
  refine Gh_end (s1 := ⟨⟨59, [(1, .ro (a1.map cI_i64)), (2, .pown 0 1 0 0)]⟩, [.live false 2 [[.int .i64 a0.N, .ro (a0.Most.map (cL cI_i64))]]]⟩) _ (by kernel_rfl) ?_
  refine W_seq ?_
  refine W_seq ?_
  refine W_gh ?_
  refine W_reg ?_
  refine O_ps 1 (by kernel_rfl) ?_
  refine O_call (fun v => .int .i64 v) h (.inr rfl) (ys := [.agg (cSBounds a0)]) (fun _ e => p32 _ _ e) (by kernel_rfl) (by kernel_rfl) (bels_cons (okSBounds.bel _) rfl) (fun v1 e_v1 h => ?_)
  refine O_ps 1 (by kernel_rfl) ?_
  refine O_nil ?_
  refine Gh_end (s1 := ⟨⟨59, [(1, .ro (a1.map cI_i64)), (2, .pown 0 1 0 0), (6, .int .i64 v1)]⟩, [.live false 2 [[.int .i64 a0.N, .ro (a0.Most.map (cL cI_i64))]]]⟩) _ (by kernel_rfl) ?_
  refine W_seq ?_
  refine W_gh ?_
  refine W_reg ?_
  refine O_ps 2 (by kernel_rfl) ?_
  refine O_nil ?_
  refine Gh_end (s1 := ⟨⟨59, [(1, .ro (a1.map cI_i64)), (2, .pown 0 1 0 0), (6, .int .i64 v1), (15, .bool (v1 != 0))]⟩, [.live false 2 [[.int .i64 a0.N, .ro (a0.Most.map (cL cI_i64))]]]⟩) _ (by kernel_rfl) ?_
  refine W_gh ?_
  refine W_cond (c := (v1 != 0)) (by kernel_rfl) (fun c2 => ?_) (fun c2 => ?_)
  · replace h := fork_t c2 h
    refine W_seq ?_
    refine W_gh ?_
    refine W_reg ?_
    refine O_ps 3 (by kernel_rfl) ?_
    refine O_nil ?_
    refine Gh_end (s1 := ⟨⟨59, [(1, .ro (a1.map cI_i64)), (2, .pown 0 1 0 0), (4, .bool false), (5, .int .i64 v1), (15, .bool (v1 != 0))]⟩, [.live false 2 [[.int .i64 a0.N, .ro (a0.Most.map (cL cI_i64))]]]⟩) _ (by kernel_rfl) ?_
    refine W_ret ?_
    replace h := Option.some.inj h; subst h
    exact Fin_free (l := [.bool false, .int .i64 v1]) (by kernel_rfl) (by kernel_rfl) rfl
  · replace h := fork_f c2 h
    refine W_skip ?_
    refine Gh_end (s1 := ⟨⟨59, [(1, .ro (a1.map cI_i64)), (2, .pown 0 1 0 0), (6, .int .i64 v1)]⟩, [.live false 2 [[.int .i64 a0.N, .ro (a0.Most.map (cL cI_i64))]]]⟩) _ (by kernel_rfl) ?_
    refine W_seq ?_
    refine W_seq ?_
    refine W_gh ?_
    refine W_reg ?_
    refine O_ps 1 (by kernel_rfl) ?_
    refine O_len (l := a1) cI_i64 (by kernel_rfl) (by kernel_rfl) ?_
    refine O_ps 3 (by kernel_rfl) ?_
    refine O_nil ?_
    refine Gh_end (s1 := ⟨⟨59, [(1, .ro (a1.map cI_i64)), (2, .pown 0 1 0 0), (6, .int .i64 v1), (21, .bool ((a1.length : Int) != a0.N))]⟩, [.live false 2 [[.int .i64 a0.N, .ro (a0.Most.map (cL cI_i64))]]]⟩) _ (by kernel_rfl) ?_
    refine W_gh ?_
    refine W_cond (c := ((a1.length : Int) != a0.N)) (by kernel_rfl) (fun c3 => ?_) (fun c3 => ?_)
    · replace h := fork_t c3 h
      refine W_seq ?_
      refine W_reg ?_
      refine O_ps 2 (by kernel_rfl) ?_
      refine O_nil ?_
      refine W_ret ?_
      replace h := Option.some.inj h; subst h
      exact Fin_free (l := [.bool false, .int .i64 8]) (by kernel_rfl) (by kernel_rfl) rfl
    · replace h := fork_f c3 h
      refine W_skip ?_
      refine Gh_end (s1 := ⟨⟨59, [(1, .ro (a1.map cI_i64)), (2, .pown 0 1 0 0), (6, .int .i64 v1)]⟩, [.live false 2 [[.int .i64 a0.N, .ro (a0.Most.map (cL cI_i64))]]]⟩) _ (by kernel_rfl) ?_
      refine W_seq ?_
      refine W_seq ?_
      refine W_gh ?_
      refine W_reg ?_
      refine O_ps 1 (by kernel_rfl) ?_
      refine O_call (fun v => .bool v) h (.inr rfl) (ys := [.ro (a1.map cI_i64), .fn 66 []]) (fun _ e => p39_66 _ _ e) (by kernel_rfl) (by kernel_rfl) (bels_cons (ro_bel okI_i64.bel _) (bels_cons rfl rfl)) (fun v4 e_v4 h => ?_)
      refine O_nil ?_
      refine Gh_end (s1 := ⟨⟨59, [(1, .ro (a1.map cI_i64)), (2, .pown 0 1 0 0), (6, .int .i64 v1), (23, .bool v4)]⟩, [.live false 2 [[.int .i64 a0.N, .ro (a0.Most.map (cL cI_i64))]]]⟩) _ (by kernel_rfl) ?_
      refine W_gh ?_
      refine W_cond (c := v4) (by kernel_rfl) (fun c5 => ?_) (fun c5 => ?_)
      · replace h := fork_t c5 h
        refine W_seq ?_
        refine W_reg ?_
        refine O_ps 2 (by kernel_rfl) ?_
        refine O_nil ?_
        refine W_ret ?_
        replace h := Option.some.inj h; subst h
        exact Fin_free (l := [.bool false, .int .i64 2]) (by kernel_rfl) (by kernel_rfl) rfl
      · replace h := fork_f c5 h
        refine W_skip ?_
        refine Gh_end (s1 := ⟨⟨59, [(1, .ro (a1.map cI_i64)), (2, .pown 0 1 0 0), (6, .int .i64 v1)]⟩, [.live false 2 [[.int .i64 a0.N, .ro (a0.Most.map (cL cI_i64))]]]⟩) _ (by kernel_rfl) ?_
        refine W_seq ?_
        refine W_gh ?_
        refine W_reg ?_
        refine O_ps 2 (by kernel_rfl) ?_
        refine O_app (C := cI_i64) (id := 1) (nl := false) okI_i64 h rfl (by kernel_rfl) (by kernel_rfl) (by kernel_rfl) (by kernel_rfl) (fun l6 e_l6 h => ?_)
        refine O_ps 1 (by kernel_rfl) ?_
        refine O_nil ?_
        refine Gh_one (frz_own (id := 1) (nl := false) (sz := 1) (l := l6) okI_i64.bel (by kernel_rfl) (by kernel_rfl) rfl (s1 := ⟨⟨59, [(1, .ro (a1.map cI_i64)), (2, .pown 0 1 0 0), (6, .int .i64 v1), (7, .ro (l6.map cI_i64)), (24, .own 1 1 0 1), (25, .ro (a1.map cI_i64)), (26, .own 1 l6.length 0 l6.length)]⟩, [.live false 2 [[.int .i64 a0.N, .ro (a0.Most.map (cL cI_i64))]], .dead]⟩) (by kernel_rfl)) ?_
        refine Gh_one (s1 := ⟨⟨59, [(2, .pown 0 1 0 0), (6, .int .i64 v1), (7, .ro (l6.map cI_i64))]⟩, [.live false 2 [[.int .i64 a0.N, .ro (a0.Most.map (cL cI_i64))]], .dead]⟩) (by kernel_rfl) ?_
        refine Gh_at (s1 := ⟨⟨59, [(2, .pown 0 1 0 0), (6, .int .i64 v1), (7, .ro (l6.map cI_i64))]⟩, [.live false 2 [[.int .i64 a0.N, .ro (a0.Most.map (cL cI_i64))]], .dead]⟩) (by kernel_rfl) ?_
        refine Gh_trunc (s1 := ⟨⟨59, [(2, .pown 0 1 0 0), (6, .int .i64 v1), (7, .ro (l6.map cI_i64))]⟩, [.live false 2 [[.int .i64 a0.N, .ro (a0.Most.map (cL cI_i64))]]]⟩) (by kernel_rfl) (tb_ref rfl (tb_free rfl (tb_free (ro_bel okI_i64.bel _) rfl))) (H1 := [.live false 2 [[.int .i64 a0.N, .ro (a0.Most.map (cL cI_i64))]]]) (by kernel_rfl) (ob_boxn (bn_free rfl (bn_free (ro_bel (okL okI_i64).bel _) rfl)) rfl) (by kernel_rfl) ?_
        refine Gh_nil ?_
        refine W_seq ?_
        refine W_seq ?_
        refine W_gh ?_
        refine W_reg ?_
        refine O_ps 2 (by kernel_rfl) ?_
        refine O_len (l := a0.Most) (cL cI_i64) (by kernel_rfl) (by kernel_rfl) ?_
        refine O_ps 1 (by kernel_rfl) ?_
        refine O_nil ?_
        refine Gh_end (s1 := ⟨⟨59, [(6, .int .i64 v1), (7, .ro (l6.map cI_i64)), (28, .ro (a0.Most.map (cL cI_i64))), (29, .int .i64 (a0.Most.length : Int)), (30, .int .i64 0)]⟩, [.live false 2 [[.int .i64 a0.N, .ro (a0.Most.map (cL cI_i64))]]]⟩) _ (by kernel_rfl) ?_
        refine W_loop (fun s7 : Int => ⟨⟨59, [(6, .int .i64 v1), (7, .ro (l6.map cI_i64)), (28, .ro (a0.Most.map (cL cI_i64))), (29, .int .i64 (a0.Most.length : Int)), (30, .int .i64 s7)]⟩, [.live false 2 [[.int .i64 a0.N, .ro (a0.Most.map (cL cI_i64))]]]⟩) (fun w8 : Unit => ⟨⟨59, [(6, .int .i64 v1), (7, .ro (l6.map cI_i64)), (28, .ro (a0.Most.map (cL cI_i64))), (29, .int .i64 (a0.Most.length : Int))]⟩, [.live false 2 [[.int .i64 a0.N, .ro (a0.Most.map (cL cI_i64))]]]⟩) h (by kernel_rfl) (fun s7 c h => ?_) (fun w8 h => ?_)
        · refine W_gh ?_
          refine W_seq ?_
          refine W_reg ?_
          refine O_ps 1 (by kernel_rfl) ?_
          refine O_nil ?_
          refine W_seq ?_
          refine W_gh ?_
          refine W_cond (c := (decide (s7 < (a0.Most.length : Int)))) (by kernel_rfl) (fun c9 => ?_) (fun c9 => ?_)
          · replace h := fork_t c9 h
            refine W_skip ?_
            refine Gh_end (s1 := ⟨⟨59, [(6, .int .i64 v1), (7, .ro (l6.map cI_i64)), (28, .ro (a0.Most.map (cL cI_i64))), (29, .int .i64 (a0.Most.length : Int)), (30, .int .i64 s7)]⟩, [.live false 2 [[.int .i64 a0.N, .ro (a0.Most.map (cL cI_i64))]]]⟩) _ (by kernel_rfl) ?_
            refine W_seq ?_
            refine W_gh ?_
            refine W_block ?_
            refine W_seq ?_
            refine W_gh ?_
            refine W_reg ?_
            refine O_ps 1 (by kernel_rfl) ?_
            refine O_idx (kd := .i64) (cL cI_i64) h (fun _ => rfl) (by kernel_rfl) (by kernel_rfl) (by kernel_rfl) (fun v10 e_v10 h => ?_)
            refine O_ps 3 (by kernel_rfl) ?_
            refine O_nil ?_
            refine Gh_end (s1 := ⟨⟨59, [(6, .int .i64 v1), (7, .ro (l6.map cI_i64)), (8, .int .i64 s7), (9, .ro (v10.map cI_i64)), (28, .ro (a0.Most.map (cL cI_i64))), (29, .int .i64 (a0.Most.length : Int)), (30, .int .i64 s7)]⟩, [.live false 2 [[.int .i64 a0.N, .ro (a0.Most.map (cL cI_i64))]]]⟩) _ (by kernel_rfl) ?_
            refine W_seq ?_
            refine W_gh ?_
            refine W_reg ?_
            refine O_ps 1 (by kernel_rfl) ?_
            refine O_len (l := v10) cI_i64 (by kernel_rfl) (by kernel_rfl) ?_
            refine O_ps 1 (by kernel_rfl) ?_
            refine O_nil ?_
            refine Gh_end (s1 := ⟨⟨59, [(6, .int .i64 v1), (7, .ro (l6.map cI_i64)), (8, .int .i64 s7), (28, .ro (a0.Most.map (cL cI_i64))), (29, .int .i64 (a0.Most.length : Int)), (30, .int .i64 s7), (35, .ro (v10.map cI_i64)), (36, .int .i64 (v10.length : Int)), (37, .int .i64 0)]⟩, [.live false 2 [[.int .i64 a0.N, .ro (a0.Most.map (cL cI_i64))]]]⟩) _ (by kernel_rfl) ?_
            refine W_loop (fun s11 : Int => ⟨⟨59, [(6, .int .i64 v1), (7, .ro (l6.map cI_i64)), (8, .int .i64 s7), (28, .ro (a0.Most.map (cL cI_i64))), (29, .int .i64 (a0.Most.length : Int)), (30, .int .i64 s7), (35, .ro (v10.map cI_i64)), (36, .int .i64 (v10.length : Int)), (37, .int .i64 s11)]⟩, [.live false 2 [[.int .i64 a0.N, .ro (a0.Most.map (cL cI_i64))]]]⟩) (fun w12 : Unit => ⟨⟨59, [(6, .int .i64 v1), (7, .ro (l6.map cI_i64)), (8, .int .i64 s7), (28, .ro (a0.Most.map (cL cI_i64))), (29, .int .i64 (a0.Most.length : Int)), (30, .int .i64 s7), (35, .ro (v10.map cI_i64)), (36, .int .i64 (v10.length : Int))]⟩, [.live false 2 [[.int .i64 a0.N, .ro (a0.Most.map (cL cI_i64))]]]⟩) h (by kernel_rfl) (fun s11 c h => ?_) (fun w12 h => ?_)
            · refine W_gh ?_
              refine W_seq ?_
              refine W_reg ?_
              refine O_ps 1 (by kernel_rfl) ?_
              refine O_nil ?_
              refine W_seq ?_
              refine W_gh ?_
              refine W_cond (c := (decide (s11 < (v10.length : Int)))) (by kernel_rfl) (fun c13 => ?_) (fun c13 => ?_)
              · replace h := fork_t c13 h
                refine W_skip ?_
                refine Gh_end (s1 := ⟨⟨59, [(6, .int .i64 v1), (7, .ro (l6.map cI_i64)), (8, .int .i64 s7), (28, .ro (a0.Most.map (cL cI_i64))), (29, .int .i64 (a0.Most.length : Int)), (30, .int .i64 s7), (35, .ro (v10.map cI_i64)), (36, .int .i64 (v10.length : Int)), (37, .int .i64 s11)]⟩, [.live false 2 [[.int .i64 a0.N, .ro (a0.Most.map (cL cI_i64))]]]⟩) _ (by kernel_rfl) ?_
                refine W_seq ?_
                refine W_gh ?_
                refine W_block ?_
                refine W_seq ?_
                refine W_gh ?_
                refine W_reg ?_
                refine O_ps 1 (by kernel_rfl) ?_
                refine O_idx (kd := .i64) cI_i64 h (fun _ => rfl) (by kernel_rfl) (by kernel_rfl) (by kernel_rfl) (fun v14 e_v14 h => ?_)
                refine O_ps 3 (by kernel_rfl) ?_
                refine O_nil ?_
                refine Gh_end (s1 := ⟨⟨59, [(6, .int .i64 v1), (7, .ro (l6.map cI_i64)), (8, .int .i64 s7), (10, .int .i64 s11), (11, .int .i64 v14), (28, .ro (a0.Most.map (cL cI_i64))), (29, .int .i64 (a0.Most.length : Int)), (30, .int .i64 s7), (35, .ro (v10.map cI_i64)), (36, .int .i64 (v10.length : Int)), (37, .int .i64 s11)]⟩, [.live false 2 [[.int .i64 a0.N, .ro (a0.Most.map (cL cI_i64))]]]⟩) _ (by kernel_rfl) ?_
                refine W_seq ?_
                refine W_joinS (fun v : Bool => ⟨⟨59, [(6, .int .i64 v1), (7, .ro (l6.map cI_i64)), (8, .int .i64 s7), (28, .ro (a0.Most.map (cL cI_i64))), (29, .int .i64 (a0.Most.length : Int)), (30, .int .i64 s7), (35, .ro (v10.map cI_i64)), (36, .int .i64 (v10.length : Int)), (37, .int .i64 s11), (56, .bool v)]⟩, [.live false 2 [[.int .i64 a0.N, .ro (a0.Most.map (cL cI_i64))]]]⟩) h (fun w h => ?_) (fun w15 e_w15 h => ?_)
                · refine W_gh ?_
                  refine W_draw ?_
                  refine O_ps 3 (by kernel_rfl) ?_
                  refine O_fork (n := 44) (v14 != (-1099511627776)) (by kernel_rfl) (fun c16 => ?_) (fun c16 => ?_)
                  · replace h := fork_t c16 h
                    refine O_ps 2 (by kernel_rfl) ?_
                    refine O_idx (kd := .i64) cI_i64 h (fun _ => rfl) (by kernel_rfl) (by kernel_rfl) (by kernel_rfl) (fun v17 e_v17 h => ?_)
                    refine O_ps 3 (by kernel_rfl) ?_
                    refine O_idx (kd := .i64) cI_i64 h (fun _ => rfl) (by kernel_rfl) (by kernel_rfl) (by kernel_rfl) (fun v18 e_v18 h => ?_)
                    refine O_ps 5 (by kernel_rfl) ?_
                    refine O_nil ?_
                    refine Gh_end (s1 := ⟨⟨59, [(6, .int .i64 v1), (7, .ro (l6.map cI_i64)), (8, .int .i64 s7), (28, .ro (a0.Most.map (cL cI_i64))), (29, .int .i64 (a0.Most.length : Int)), (30, .int .i64 s7), (35, .ro (v10.map cI_i64)), (36, .int .i64 (v10.length : Int)), (37, .int .i64 s11), (56, .bool (decide ((subI .i64 v17 v18) > v14)))]⟩, [.live false 2 [[.int .i64 a0.N, .ro (a0.Most.map (cL cI_i64))]]]⟩) _ (by kernel_rfl) ?_
                    replace h := Option.some.inj h; subst h
                    show _ = _
                    kernel_rfl
                  · replace h := fork_f c16 h
                    refine O_ps 12 (by kernel_rfl) ?_
                    refine O_nil ?_
                    refine Gh_end (s1 := ⟨⟨59, [(6, .int .i64 v1), (7, .ro (l6.map cI_i64)), (8, .int .i64 s7), (28, .ro (a0.Most.map (cL cI_i64))), (29, .int .i64 (a0.Most.length : Int)), (30, .int .i64 s7), (35, .ro (v10.map cI_i64)), (36, .int .i64 (v10.length : Int)), (37, .int .i64 s11), (56, .bool false)]⟩, [.live false 2 [[.int .i64 a0.N, .ro (a0.Most.map (cL cI_i64))]]]⟩) _ (by kernel_rfl) ?_
                    replace h := Option.some.inj h; subst h
                    show _ = _
                    kernel_rfl
                · refine W_gh ?_
                  refine W_cond (c := w15) (by kernel_rfl) (fun c19 => ?_) (fun c19 => ?_)
                  · replace h := fork_t c19 h
                    refine W_seq ?_
                    refine W_reg ?_
                    refine O_ps 2 (by kernel_rfl) ?_
                    refine O_nil ?_
                    refine W_ret ?_
                    replace h := Option.some.inj h; subst h
                    refine ⟨_, rfl, fun h => ?_⟩
                    replace h := Option.some.inj h; subst h
                    refine ⟨_, rfl, fun h => ?_⟩
                    replace h := Option.some.inj h; subst h
                    exact Fin_free (l := [.bool false, .int .i64 0]) (by kernel_rfl) (by kernel_rfl) rfl
                  · replace h := fork_f c19 h
                    refine W_skip ?_
                    refine Gh_end (s1 := ⟨⟨59, [(6, .int .i64 v1), (7, .ro (l6.map cI_i64)), (8, .int .i64 s7), (28, .ro (a0.Most.map (cL cI_i64))), (29, .int .i64 (a0.Most.length : Int)), (30, .int .i64 s7), (35, .ro (v10.map cI_i64)), (36, .int .i64 (v10.length : Int)), (37, .int .i64 s11)]⟩, [.live false 2 [[.int .i64 a0.N, .ro (a0.Most.map (cL cI_i64))]]]⟩) _ (by kernel_rfl) ?_
                    refine Gh_end (s1 := ⟨⟨59, [(6, .int .i64 v1), (7, .ro (l6.map cI_i64)), (8, .int .i64 s7), (28, .ro (a0.Most.map (cL cI_i64))), (29, .int .i64 (a0.Most.length : Int)), (30, .int .i64 s7), (35, .ro (v10.map cI_i64)), (36, .int .i64 (v10.length : Int)), (37, .int .i64 s11)]⟩, [.live false 2 [[.int .i64 a0.N, .ro (a0.Most.map (cL cI_i64))]]]⟩) _ (by kernel_rfl) ?_
                    refine W_gh ?_
                    refine W_reg ?_
                    refine O_ps 2 (by kernel_rfl) ?_
                    refine O_nil ?_
                    refine Gh_end (s1 := ⟨⟨59, [(6, .int .i64 v1), (7, .ro (l6.map cI_i64)), (8, .int .i64 s7), (28, .ro (a0.Most.map (cL cI_i64))), (29, .int .i64 (a0.Most.length : Int)), (30, .int .i64 s7), (35, .ro (v10.map cI_i64)), (36, .int .i64 (v10.length : Int)), (37, .int .i64 (addI .i64 s11 1))]⟩, [.live false 2 [[.int .i64 a0.N, .ro (a0.Most.map (cL cI_i64))]]]⟩) _ (by kernel_rfl) ?_
                    refine Gh_end (s1 := ⟨⟨59, [(6, .int .i64 v1), (7, .ro (l6.map cI_i64)), (8, .int .i64 s7), (28, .ro (a0.Most.map (cL cI_i64))), (29, .int .i64 (a0.Most.length : Int)), (30, .int .i64 s7), (35, .ro (v10.map cI_i64)), (36, .int .i64 (v10.length : Int)), (37, .int .i64 (addI .i64 s11 1))]⟩, [.live false 2 [[.int .i64 a0.N, .ro (a0.Most.map (cL cI_i64))]]]⟩) _ (by kernel_rfl) ?_
                    replace h := Option.some.inj h; subst h
                    exact ⟨_, rfl, by kernel_rfl⟩
              · replace h := fork_f c13 h
                refine W_exit ?_
                refine X_hit ?_
                refine Gh_end (s1 := ⟨⟨59, [(6, .int .i64 v1), (7, .ro (l6.map cI_i64)), (8, .int .i64 s7), (28, .ro (a0.Most.map (cL cI_i64))), (29, .int .i64 (a0.Most.length : Int)), (30, .int .i64 s7), (35, .ro (v10.map cI_i64)), (36, .int .i64 (v10.length : Int))]⟩, [.live false 2 [[.int .i64 a0.N, .ro (a0.Most.map (cL cI_i64))]]]⟩) _ (by kernel_rfl) ?_
                replace h := Option.some.inj h; subst h
                exact ⟨_, rfl, by kernel_rfl⟩
            · refine Gh_end (s1 := ⟨⟨59, [(6, .int .i64 v1), (7, .ro (l6.map cI_i64)), (28, .ro (a0.Most.map (cL cI_i64))), (29, .int .i64 (a0.Most.length : Int)), (30, .int .i64 s7)]⟩, [.live false 2 [[.int .i64 a0.N, .ro (a0.Most.map (cL cI_i64))]]]⟩) _ (by kernel_rfl) ?_
              refine W_gh ?_
              refine W_reg ?_
              refine O_ps 2 (by kernel_rfl) ?_
              refine O_nil ?_
              refine Gh_end (s1 := ⟨⟨59, [(6, .int .i64 v1), (7, .ro (l6.map cI_i64)), (28, .ro (a0.Most.map (cL cI_i64))), (29, .int .i64 (a0.Most.length : Int)), (30, .int .i64 (addI .i64 s7 1))]⟩, [.live false 2 [[.int .i64 a0.N, .ro (a0.Most.map (cL cI_i64))]]]⟩) _ (by kernel_rfl) ?_
              refine Gh_end (s1 := ⟨⟨59, [(6, .int .i64 v1), (7, .ro (l6.map cI_i64)), (28, .ro (a0.Most.map (cL cI_i64))), (29, .int .i64 (a0.Most.length : Int)), (30, .int .i64 (addI .i64 s7 1))]⟩, [.live false 2 [[.int .i64 a0.N, .ro (a0.Most.map (cL cI_i64))]]]⟩) _ (by kernel_rfl) ?_
              replace h := Option.some.inj h; subst h
              exact ⟨_, rfl, by kernel_rfl⟩
          · replace h := fork_f c9 h
            refine W_exit ?_
            refine X_hit ?_
            refine Gh_end (s1 := ⟨⟨59, [(6, .int .i64 v1), (7, .ro (l6.map cI_i64)), (28, .ro (a0.Most.map (cL cI_i64))), (29, .int .i64 (a0.Most.length : Int))]⟩, [.live false 2 [[.int .i64 a0.N, .ro (a0.Most.map (cL cI_i64))]]]⟩) _ (by kernel_rfl) ?_
            replace h := Option.some.inj h; subst h
            exact ⟨_, rfl, by kernel_rfl⟩
        · refine W_seq ?_
          refine W_reg ?_
          refine O_ps 2 (by kernel_rfl) ?_
          refine O_nil ?_
          refine W_ret ?_
          replace h := Option.some.inj h; subst h
          exact Fin_free (l := [.bool true, .int .i64 0]) (by kernel_rfl) (by kernel_rfl) rfl

theorem p68 (a0 : SBounds) (a1 : (List Int)) (r : Bool) (h : m68 a0 a1 = some r) : Pt E0 hp 68 [.agg (cSBounds a0), .ro (a1.map cI_i64)] (.bool r) := by
  unfold m68 at h
  refine Pt_W (fn68) rfl (by decide) ?_
  refine W_seq ?_
  refine W_gh ?_
  refine W_reg ?_
  refine O_ps 2 (by kernel_rfl) ?_
  refine O_nil ?_
  refine Gh_end (s1 := ⟨⟨52, [(1, .ro (a1.map cI_i64)), (2, .pown 0 1 0 0)]⟩, [.live false 2 [[.int .i64 a0.N, .ro (a0.Most.map (cL cI_i64))]]]⟩) _ (by kernel_rfl) ?_
  refine W_seq ?_
  refine W_gh ?_
  refine W_reg ?_
  refine O_ps 2 (by kernel_rfl) ?_
  refine O_app (C := cI_i64) (id := 1) (nl := false) okI_i64 h rfl (by kernel_rfl) (by kernel_rfl) (by kernel_rfl) (by kernel_rfl) (fun l1 e_l1 h => ?_)
  refine O_ps 1 (by kernel_rfl) ?_
  refine O_nil ?_
  refine Gh_one (frz_own (id := 1) (nl := false) (sz := 1) (l := l1) okI_i64.bel (by kernel_rfl) (by kernel_rfl) rfl (s1 := ⟨⟨52, [(1, .ro (a1.map cI_i64)), (2, .pown 0 1 0 0), (5, .ro (l1.map cI_i64)), (8, .own 1 1 0 1), (9, .ro (a1.map cI_i64)), (10, .own 1 l1.length 0 l1.length)]⟩, [.live false 2 [[.int .i64 a0.N, .ro (a0.Most.map (cL cI_i64))]], .dead]⟩) (by kernel_rfl)) ?_
  refine Gh_one (s1 := ⟨⟨52, [(2, .pown 0 1 0 0), (5, .ro (l1.map cI_i64))]⟩, [.live false 2 [[.int .i64 a0.N, .ro (a0.Most.map (cL cI_i64))]], .dead]⟩) (by kernel_rfl) ?_
  refine Gh_at (s1 := ⟨⟨52, [(2, .pown 0 1 0 0), (5, .ro (l1.map cI_i64))]⟩, [.live false 2 [[.int .i64 a0.N, .ro (a0.Most.map (cL cI_i64))]], .dead]⟩) (by kernel_rfl) ?_
  refine Gh_trunc (s1 := ⟨⟨52, [(2, .pown 0 1 0 0), (5, .ro (l1.map cI_i64))]⟩, [.live false 2 [[.int .i64 a0.N, .ro (a0.Most.map (cL cI_i64))]]]⟩) (by kernel_rfl) (tb_ref rfl (tb_free (ro_bel okI_i64.bel _) rfl)) (H1 := [.live false 2 [[.int .i64 a0.N, .ro (a0.Most.map (cL cI_i64))]]]) (by kernel_rfl) (ob_boxn (bn_free rfl (bn_free (ro_bel (okL okI_i64).bel _) rfl)) rfl) (by kernel_rfl) ?_
  refine Gh_nil ?_
  refine W_seq ?_
  refine W_seq ?_
  refine W_reg ?_
  refine O_ps 1 (by kernel_rfl) ?_
  refine O_nil ?_
  refine W_loop (fun s2 : Int => ⟨⟨52, [(2, .pown 0 1 0 0), (5, .ro (l1.map cI_i64)), (6, .int .i64 s2)]⟩, [.live false 2 [[.int .i64 a0.N, .ro (a0.Most.map (cL cI_i64))]]]⟩) (fun w3 : Unit => ⟨⟨52, [(2, .pown 0 1 0 0), (5, .ro (l1.map cI_i64))]⟩, [.live false 2 [[.int .i64 a0.N, .ro (a0.Most.map (cL cI_i64))]]]⟩) h (by kernel_rfl) (fun s2 c h => ?_) (fun w3 h => ?_)
  · refine W_gh ?_
    refine W_seq ?_
    refine W_seq ?_
    refine W_gh ?_
    refine W_reg ?_
    refine O_ps 4 (by kernel_rfl) ?_
    refine O_nil ?_
    refine Gh_end (s1 := ⟨⟨52, [(2, .pown 0 1 0 0), (5, .ro (l1.map cI_i64)), (6, .int .i64 s2), (14, .bool (decide (s2 ≤ a0.N)))]⟩, [.live false 2 [[.int .i64 a0.N, .ro (a0.Most.map (cL cI_i64))]]]⟩) _ (by kernel_rfl) ?_
    refine W_gh ?_
    refine W_cond (c := (decide (s2 ≤ a0.N))) (by kernel_rfl) (fun c4 => ?_) (fun c4 => ?_)
    · replace h := fork_t c4 h
      refine W_skip ?_
      refine Gh_end (s1 := ⟨⟨52, [(2, .pown 0 1 0 0), (5, .ro (l1.map cI_i64)), (6, .int .i64 s2)]⟩, [.live false 2 [[.int .i64 a0.N, .ro (a0.Most.map (cL cI_i64))]]]⟩) _ (by kernel_rfl) ?_
      refine W_seq ?_
      refine W_gh ?_
      refine W_block ?_
      refine W_seq ?_
      refine W_reg ?_
      refine O_ps 1 (by kernel_rfl) ?_
      refine O_nil ?_
      refine W_loop (fun s5 : Int => ⟨⟨52, [(2, .pown 0 1 0 0), (5, .ro (l1.map cI_i64)), (6, .int .i64 s2), (7, .int .i64 s5)]⟩, [.live false 2 [[.int .i64 a0.N, .ro (a0.Most.map (cL cI_i64))]]]⟩) (fun w6 : Unit => ⟨⟨52, [(2, .pown 0 1 0 0), (5, .ro (l1.map cI_i64)), (6, .int .i64 s2)]⟩, [.live false 2 [[.int .i64 a0.N, .ro (a0.Most.map (cL cI_i64))]]]⟩) h (by kernel_rfl) (fun s5 c h => ?_) (fun w6 h => ?_)
      · refine W_gh ?_
        refine W_seq ?_
        refine W_seq ?_
        refine W_gh ?_
        refine W_reg ?_
        refine O_ps 4 (by kernel_rfl) ?_
        refine O_nil ?_
        refine Gh_end (s1 := ⟨⟨52, [(2, .pown 0 1 0 0), (5, .ro (l1.map cI_i64)), (6, .int .i64 s2), (7, .int .i64 s5), (20, .bool (decide (s5 ≤ a0.N)))]⟩, [.live false 2 [[.int .i64 a0.N, .ro (a0.Most.map (cL cI_i64))]]]⟩) _ (by kernel_rfl) ?_
        refine W_gh ?_
        refine W_cond (c := (decide (s5 ≤ a0.N))) (by kernel_rfl) (fun c7 => ?_) (fun c7 => ?_)
        · replace h := fork_t c7 h
          refine W_skip ?_
          refine Gh_end (s1 := ⟨⟨52, [(2, .pown 0 1 0 0), (5, .ro (l1.map cI_i64)), (6, .int .i64 s2), (7, .int .i64 s5)]⟩, [.live false 2 [[.int .i64 a0.N, .ro (a0.Most.map (cL cI_i64))]]]⟩) _ (by kernel_rfl) ?_
          refine W_seq ?_
          refine W_gh ?_
          refine W_block ?_
          refine W_seq ?_
          refine W_joinS (fun v : Bool => ⟨⟨52, [(2, .pown 0 1 0 0), (5, .ro (l1.map cI_i64)), (6, .int .i64 s2), (7, .int .i64 s5), (51, .bool v)]⟩, [.live false 2 [[.int .i64 a0.N, .ro (a0.Most.map (cL cI_i64))]]]⟩) h (fun w h => ?_) (fun w8 e_w8 h => ?_)
          · refine W_gh ?_
            refine W_draw ?_
            refine O_ps 3 (by kernel_rfl) ?_
            refine O_idx (kd := .i64) (cL cI_i64) h (fun _ => rfl) (by kernel_rfl) (by kernel_rfl) (by kernel_rfl) (fun v9 e_v9 h => ?_)
            refine O_ps 2 (by kernel_rfl) ?_
            refine O_idx (kd := .i64) cI_i64 h (fun _ => rfl) (by kernel_rfl) (by kernel_rfl) (by kernel_rfl) (fun v10 e_v10 h => ?_)
            refine O_ps 3 (by kernel_rfl) ?_
            refine O_fork (n := 32) (v10 != (-1099511627776)) (by kernel_rfl) (fun c11 => ?_) (fun c11 => ?_)
            · replace h := fork_t c11 h
              refine O_ps 2 (by kernel_rfl) ?_
              refine O_idx (kd := .i64) cI_i64 h (fun _ => rfl) (by kernel_rfl) (by kernel_rfl) (by kernel_rfl) (fun v12 e_v12 h => ?_)
              refine O_ps 3 (by kernel_rfl) ?_
              refine O_idx (kd := .i64) cI_i64 h (fun _ => rfl) (by kernel_rfl) (by kernel_rfl) (by kernel_rfl) (fun v13 e_v13 h => ?_)
              refine O_ps 5 (by kernel_rfl) ?_
              refine O_idx (kd := .i64) (cL cI_i64) h (fun _ => rfl) (by kernel_rfl) (by kernel_rfl) (by kernel_rfl) (fun v14 e_v14 h => ?_)
              refine O_ps 2 (by kernel_rfl) ?_
              refine O_idx (kd := .i64) cI_i64 h (fun _ => rfl) (by kernel_rfl) (by kernel_rfl) (by kernel_rfl) (fun v15 e_v15 h => ?_)
              refine O_ps 3 (by kernel_rfl) ?_
              refine O_nil ?_
              refine Gh_end (s1 := ⟨⟨52, [(2, .pown 0 1 0 0), (5, .ro (l1.map cI_i64)), (6, .int .i64 s2), (7, .int .i64 s5), (51, .bool (decide ((subI .i64 v12 v13) > v15)))]⟩, [.live false 2 [[.int .i64 a0.N, .ro (a0.Most.map (cL cI_i64))]]]⟩) _ (by kernel_rfl) ?_
              replace h := Option.some.inj h; subst h
              show _ = _
              kernel_rfl
            · replace h := fork_f c11 h
              refine O_ps 19 (by kernel_rfl) ?_
              refine O_nil ?_
              refine Gh_end (s1 := ⟨⟨52, [(2, .pown 0 1 0 0), (5, .ro (l1.map cI_i64)), (6, .int .i64 s2), (7, .int .i64 s5), (51, .bool false)]⟩, [.live false 2 [[.int .i64 a0.N, .ro (a0.Most.map (cL cI_i64))]]]⟩) _ (by kernel_rfl) ?_
              replace h := Option.some.inj h; subst h
              show _ = _
              kernel_rfl
          · refine W_gh ?_
            refine W_cond (c := w8) (by kernel_rfl) (fun c16 => ?_) (fun c16 => ?_)
            · replace h := fork_t c16 h
              refine W_seq ?_
              refine W_reg ?_
              refine O_ps 1 (by kernel_rfl) ?_
              refine O_nil ?_
              refine W_ret ?_
              replace h := Option.some.inj h; subst h
              refine ⟨_, rfl, fun h => ?_⟩
              replace h := Option.some.inj h; subst h
              refine ⟨_, rfl, fun h => ?_⟩
              replace h := Option.some.inj h; subst h
              exact Fin_free (l := [.bool false]) (by kernel_rfl) (by kernel_rfl) rfl
            · replace h := fork_f c16 h
              refine W_skip ?_
              refine Gh_end (s1 := ⟨⟨52, [(2, .pown 0 1 0 0), (5, .ro (l1.map cI_i64)), (6, .int .i64 s2), (7, .int .i64 s5)]⟩, [.live false 2 [[.int .i64 a0.N, .ro (a0.Most.map (cL cI_i64))]]]⟩) _ (by kernel_rfl) ?_
              refine Gh_end (s1 := ⟨⟨52, [(2, .pown 0 1 0 0), (5, .ro (l1.map cI_i64)), (6, .int .i64 s2), (7, .int .i64 s5)]⟩, [.live false 2 [[.int .i64 a0.N, .ro (a0.Most.map (cL cI_i64))]]]⟩) _ (by kernel_rfl) ?_
              refine W_gh ?_
              refine W_reg ?_
              refine O_ps 3 (by kernel_rfl) ?_
              refine O_nil ?_
              refine Gh_end (s1 := ⟨⟨52, [(2, .pown 0 1 0 0), (5, .ro (l1.map cI_i64)), (6, .int .i64 s2), (7, .int .i64 (addI .i64 s5 1))]⟩, [.live false 2 [[.int .i64 a0.N, .ro (a0.Most.map (cL cI_i64))]]]⟩) _ (by kernel_rfl) ?_
              refine Gh_end (s1 := ⟨⟨52, [(2, .pown 0 1 0 0), (5, .ro (l1.map cI_i64)), (6, .int .i64 s2), (7, .int .i64 (addI .i64 s5 1))]⟩, [.live false 2 [[.int .i64 a0.N, .ro (a0.Most.map (cL cI_i64))]]]⟩) _ (by kernel_rfl) ?_
              replace h := Option.some.inj h; subst h
              exact ⟨_, rfl, by kernel_rfl⟩
        · replace h := fork_f c7 h
          refine W_exit ?_
          refine X_hit ?_
          refine Gh_end (s1 := ⟨⟨52, [(2, .pown 0 1 0 0), (5, .ro (l1.map cI_i64)), (6, .int .i64 s2)]⟩, [.live false 2 [[.int .i64 a0.N, .ro (a0.Most.map (cL cI_i64))]]]⟩) _ (by kernel_rfl) ?_
          replace h := Option.some.inj h; subst h
          exact ⟨_, rfl, by kernel_rfl⟩
      · refine Gh_end (s1 := ⟨⟨52, [(2, .pown 0 1 0 0), (5, .ro (l1.map cI_i64)), (6, .int .i64 s2)]⟩, [.live false 2 [[.int .i64 a0.N, .ro (a0.Most.map (cL cI_i64))]]]⟩) _ (by kernel_rfl) ?_
        refine W_gh ?_
        refine W_reg ?_
        refine O_ps 3 (by kernel_rfl) ?_
        refine O_nil ?_
        refine Gh_end (s1 := ⟨⟨52, [(2, .pown 0 1 0 0), (5, .ro (l1.map cI_i64)), (6, .int .i64 (addI .i64 s2 1))]⟩, [.live false 2 [[.int .i64 a0.N, .ro (a0.Most.map (cL cI_i64))]]]⟩) _ (by kernel_rfl) ?_
        refine Gh_end (s1 := ⟨⟨52, [(2, .pown 0 1 0 0), (5, .ro (l1.map cI_i64)), (6, .int .i64 (addI .i64 s2 1))]⟩, [.live false 2 [[.int .i64 a0.N, .ro (a0.Most.map (cL cI_i64))]]]⟩) _ (by kernel_rfl) ?_
        replace h := Option.some.inj h; subst h
        exact ⟨_, rfl, by kernel_rfl⟩
    · replace h := fork_f c4 h
      refine W_exit ?_
      refine X_hit ?_
      refine Gh_end (s1 := ⟨⟨52, [(2, .pown 0 1 0 0), (5, .ro (l1.map cI_i64))]⟩, [.live false 2 [[.int .i64 a0.N, .ro (a0.Most.map (cL cI_i64))]]]⟩) _ (by kernel_rfl) ?_
      replace h := Option.some.inj h; subst h
      exact ⟨_, rfl, by kernel_rfl⟩
  · refine W_seq ?_
    refine W_reg ?_
    refine O_ps 1 (by kernel_rfl) ?_
    refine O_nil ?_
    refine W_ret ?_
    replace h := Option.some.inj h; subst h
    exact Fin_free (l := [.bool true]) (by kernel_rfl) (by kernel_rfl) rfl

theorem p31 (a0 : SBounds) (a1 : (List Int)) (r : (Bool × Int)) (h : m31 a0 a1 = some r) : Pt E0 hp 31 [.agg (cSBounds a0), .ro (a1.map cI_i64)] (.tup [.bool r.1, .int .i64 r.2]) := by
  unfold m31 at h
  refine Pt_W (fn31) rfl (by decide) ?_
  refine W_seq ?_
  refine W_gh ?_
  refine W_reg ?_
  refine O_ps 3 (by kernel_rfl) ?_
  refine O_nil ?_
  refine Gh_end (s1 := ⟨⟨33, [(1, .ro (a1.map cI_i64)), (2, .pown 0 1 0 0)]⟩, [.live false 2 [[.int .i64 a0.N, .ro (a0.Most.map (cL cI_i64))]]]⟩) _ (by kernel_rfl) ?_
  refine W_seq ?_
  refine W_seq ?_
  refine W_gh ?_
  refine W_reg ?_
  refine O_ps 1 (by kernel_rfl) ?_
  refine O_call (fun v => .int .i64 v) h (.inr rfl) (ys := [.agg (cSBounds a0)]) (fun _ e => p28 _ _ e) (by kernel_rfl) (by kernel_rfl) (bels_cons (okSBounds.bel _) rfl) (fun v1 e_v1 h => ?_)
  refine O_ps 1 (by kernel_rfl) ?_
  refine O_nil ?_
  refine Gh_end (s1 := ⟨⟨33, [(1, .ro (a1.map cI_i64)), (2, .pown 0 1 0 0), (6, .int .i64 v1)]⟩, [.live false 2 [[.int .i64 a0.N, .ro (a0.Most.map (cL cI_i64))]]]⟩) _ (by kernel_rfl) ?_
  refine W_seq ?_
  refine W_gh ?_
  refine W_reg ?_
  refine O_ps 2 (by kernel_rfl) ?_
  refine O_nil ?_
  refine Gh_end (s1 := ⟨⟨33, [(1, .ro (a1.map cI_i64)), (2, .pown 0 1 0 0), (6, .int .i64 v1), (11, .bool (v1 != 0))]⟩, [.live false 2 [[.int .i64 a0.N, .ro (a0.Most.map (cL cI_i64))]]]⟩) _ (by kernel_rfl) ?_
  refine W_gh ?_
  refine W_cond (c := (v1 != 0)) (by kernel_rfl) (fun c2 => ?_) (fun c2 => ?_)
  · replace h := fork_t c2 h
    refine W_seq ?_
    refine W_gh ?_
    refine W_reg ?_
    refine O_ps 3 (by kernel_rfl) ?_
    refine O_nil ?_
    refine Gh_end (s1 := ⟨⟨33, [(1, .ro (a1.map cI_i64)), (2, .pown 0 1 0 0), (4, .bool false), (5, .int .i64 v1), (11, .bool (v1 != 0))]⟩, [.live false 2 [[.int .i64 a0.N, .ro (a0.Most.map (cL cI_i64))]]]⟩) _ (by kernel_rfl) ?_
    refine W_ret ?_
    replace h := Option.some.inj h; subst h
    exact Fin_free (l := [.bool false, .int .i64 v1]) (by kernel_rfl) (by kernel_rfl) rfl
  · replace h := fork_f c2 h
    refine W_skip ?_
    refine Gh_end (s1 := ⟨⟨33, [(1, .ro (a1.map cI_i64)), (2, .pown 0 1 0 0), (6, .int .i64 v1)]⟩, [.live false 2 [[.int .i64 a0.N, .ro (a0.Most.map (cL cI_i64))]]]⟩) _ (by kernel_rfl) ?_
    refine W_seq ?_
    refine W_seq ?_
    refine W_gh ?_
    refine W_reg ?_
    refine O_ps 1 (by kernel_rfl) ?_
    refine O_len (l := a1) cI_i64 (by kernel_rfl) (by kernel_rfl) ?_
    refine O_ps 3 (by kernel_rfl) ?_
    refine O_nil ?_
    refine Gh_end (s1 := ⟨⟨33, [(1, .ro (a1.map cI_i64)), (2, .pown 0 1 0 0), (6, .int .i64 v1), (17, .bool ((a1.length : Int) != a0.N))]⟩, [.live false 2 [[.int .i64 a0.N, .ro (a0.Most.map (cL cI_i64))]]]⟩) _ (by kernel_rfl) ?_
    refine W_gh ?_
    refine W_cond (c := ((a1.length : Int) != a0.N)) (by kernel_rfl) (fun c3 => ?_) (fun c3 => ?_)
    · replace h := fork_t c3 h
      refine W_seq ?_
      refine W_reg ?_
      refine O_ps 2 (by kernel_rfl) ?_
      refine O_nil ?_
      refine W_ret ?_
      replace h := Option.some.inj h; subst h
      exact Fin_free (l := [.bool false, .int .i64 8]) (by kernel_rfl) (by kernel_rfl) rfl
    · replace h := fork_f c3 h
      refine W_skip ?_
      refine Gh_end (s1 := ⟨⟨33, [(1, .ro (a1.map cI_i64)), (2, .pown 0 1 0 0), (6, .int .i64 v1)]⟩, [.live false 2 [[.int .i64 a0.N, .ro (a0.Most.map (cL cI_i64))]]]⟩) _ (by kernel_rfl) ?_
      refine W_seq ?_
      refine W_seq ?_
      refine W_reg ?_
      refine O_ps 1 (by kernel_rfl) ?_
      refine O_nil ?_
      refine W_loop (fun s4 : Int => ⟨⟨33, [(1, .ro (a1.map cI_i64)), (2, .pown 0 1 0 0), (6, .int .i64 v1), (7, .int .i64 s4)]⟩, [.live false 2 [[.int .i64 a0.N, .ro (a0.Most.map (cL cI_i64))]]]⟩) (fun w5 : Unit => ⟨⟨33, [(1, .ro (a1.map cI_i64)), (2, .pown 0 1 0 0), (6, .int .i64 v1)]⟩, [.live false 2 [[.int .i64 a0.N, .ro (a0.Most.map (cL cI_i64))]]]⟩) h (by kernel_rfl) (fun s4 c h => ?_) (fun w5 h => ?_)
      · refine W_gh ?_
        refine W_seq ?_
        refine W_seq ?_
        refine W_gh ?_
        refine W_reg ?_
        refine O_ps 2 (by kernel_rfl) ?_
        refine O_len (l := a1) cI_i64 (by kernel_rfl) (by kernel_rfl) ?_
        refine O_ps 1 (by kernel_rfl) ?_
        refine O_nil ?_
        refine Gh_end (s1 := ⟨⟨33, [(1, .ro (a1.map cI_i64)), (2, .pown 0 1 0 0), (6, .int .i64 v1), (7, .int .i64 s4), (21, .bool (decide (s4 < (a1.length : Int))))]⟩, [.live false 2 [[.int .i64 a0.N, .ro (a0.Most.map (cL cI_i64))]]]⟩) _ (by kernel_rfl) ?_
        refine W_gh ?_
        refine W_cond (c := (decide (s4 < (a1.length : Int)))) (by kernel_rfl) (fun c6 => ?_) (fun c6 => ?_)
        · replace h := fork_t c6 h
          refine W_skip ?_
          refine Gh_end (s1 := ⟨⟨33, [(1, .ro (a1.map cI_i64)), (2, .pown 0 1 0 0), (6, .int .i64 v1), (7, .int .i64 s4)]⟩, [.live false 2 [[.int .i64 a0.N, .ro (a0.Most.map (cL cI_i64))]]]⟩) _ (by kernel_rfl) ?_
          refine W_seq ?_
          refine W_gh ?_
          refine W_block ?_
          refine W_seq ?_
          refine W_gh ?_
          refine W_reg ?_
          refine O_ps 2 (by kernel_rfl) ?_
          refine O_idx (kd := .i64) cI_i64 h (fun _ => rfl) (by kernel_rfl) (by kernel_rfl) (by kernel_rfl) (fun v7 e_v7 h => ?_)
          refine O_ps 1 (by kernel_rfl) ?_
          refine O_call (fun v => .bool v) h (.inr rfl) (ys := [.int .i64 v7]) (fun _ e => p65 _ _ e) (by kernel_rfl) (by kernel_rfl) (bels_cons rfl rfl) (fun v8 e_v8 h => ?_)
          refine O_ps 1 (by kernel_rfl) ?_
          refine O_nil ?_
          refine Gh_end (s1 := ⟨⟨33, [(1, .ro (a1.map cI_i64)), (2, .pown 0 1 0 0), (6, .int .i64 v1), (7, .int .i64 s4), (29, .bool (!v8))]⟩, [.live false 2 [[.int .i64 a0.N, .ro (a0.Most.map (cL cI_i64))]]]⟩) _ (by kernel_rfl) ?_
          refine W_gh ?_
          refine W_cond (c := (!v8)) (by kernel_rfl) (fun c9 => ?_) (fun c9 => ?_)
          · replace h := fork_t c9 h
            refine W_seq ?_
            refine W_reg ?_
            refine O_ps 2 (by kernel_rfl) ?_
            refine O_nil ?_
            refine W_ret ?_
            replace h := Option.some.inj h; subst h
            refine ⟨_, rfl, fun h => ?_⟩
            replace h := Option.some.inj h; subst h
            exact Fin_free (l := [.bool false, .int .i64 2]) (by kernel_rfl) (by kernel_rfl) rfl
          · replace h := fork_f c9 h
            refine W_skip ?_
            refine Gh_end (s1 := ⟨⟨33, [(1, .ro (a1.map cI_i64)), (2, .pown 0 1 0 0), (6, .int .i64 v1), (7, .int .i64 s4)]⟩, [.live false 2 [[.int .i64 a0.N, .ro (a0.Most.map (cL cI_i64))]]]⟩) _ (by kernel_rfl) ?_
            refine Gh_end (s1 := ⟨⟨33, [(1, .ro (a1.map cI_i64)), (2, .pown 0 1 0 0), (6, .int .i64 v1), (7, .int .i64 s4)]⟩, [.live false 2 [[.int .i64 a0.N, .ro (a0.Most.map (cL cI_i64))]]]⟩) _ (by kernel_rfl) ?_
            refine W_gh ?_
            refine W_reg ?_
            refine O_ps 3 (by kernel_rfl) ?_
            refine O_nil ?_
            refine Gh_end (s1 := ⟨⟨33, [(1, .ro (a1.map cI_i64)), (2, .pown 0 1 0 0), (6, .int .i64 v1), (7, .int .i64 (addI .i64 s4 1))]⟩, [.live false 2 [[.int .i64 a0.N, .ro (a0.Most.map (cL cI_i64))]]]⟩) _ (by kernel_rfl) ?_
            refine Gh_end (s1 := ⟨⟨33, [(1, .ro (a1.map cI_i64)), (2, .pown 0 1 0 0), (6, .int .i64 v1), (7, .int .i64 (addI .i64 s4 1))]⟩, [.live false 2 [[.int .i64 a0.N, .ro (a0.Most.map (cL cI_i64))]]]⟩) _ (by kernel_rfl) ?_
            replace h := Option.some.inj h; subst h
            exact ⟨_, rfl, by kernel_rfl⟩
        · replace h := fork_f c6 h
          refine W_exit ?_
          refine X_hit ?_
          refine Gh_end (s1 := ⟨⟨33, [(1, .ro (a1.map cI_i64)), (2, .pown 0 1 0 0), (6, .int .i64 v1)]⟩, [.live false 2 [[.int .i64 a0.N, .ro (a0.Most.map (cL cI_i64))]]]⟩) _ (by kernel_rfl) ?_
          replace h := Option.some.inj h; subst h
          exact ⟨_, rfl, by kernel_rfl⟩
      · refine W_seq ?_
        refine W_gh ?_
        refine W_reg ?_
        refine O_ps 2 (by kernel_rfl) ?_
        refine O_call (fun v => .bool v) h (.inr rfl) (ys := [.agg (cSBounds a0), .ro (a1.map cI_i64)]) (fun _ e => p68 _ _ _ e) (by kernel_rfl) (by kernel_rfl) (bels_cons (okSBounds.bel _) (bels_cons (ro_bel okI_i64.bel _) rfl)) (fun v10 e_v10 h => ?_)
        refine O_ps 2 (by kernel_rfl) ?_
        refine O_nil ?_
        refine Gh_end (s1 := ⟨⟨33, [(4, .bool v10), (5, .int .i64 0), (6, .int .i64 v1)]⟩, [.live false 2 [[.int .i64 a0.N, .ro (a0.Most.map (cL cI_i64))]]]⟩) _ (by kernel_rfl) ?_
        refine W_ret ?_
        replace h := Option.some.inj h; subst h
        exact Fin_free (l := [.bool v10, .int .i64 0]) (by kernel_rfl) (by kernel_rfl) rfl

theorem p7 (a0 : SBounds) (a1 : (List Int)) (a2 : (List Int)) (r : Bool) (h : m7 a0 a1 a2 = some r) : Pt E0 hp 7 [.agg (cSBounds a0), .ro (a1.map cI_i64), .ro (a2.map cI_i64)] (.bool r) := by
  unfold m7 at h
  refine Pt_W (fn7) rfl (by decide) ?_
  refine W_seq ?_
  refine W_gh ?_
  refine W_reg ?_
  refine O_ps 2 (by kernel_rfl) ?_
  refine O_nil ?_
  refine Gh_end (s1 := ⟨⟨81, [(1, .ro (a1.map cI_i64)), (2, .ro (a2.map cI_i64)), (3, .pown 0 1 0 0)]⟩, [.live false 2 [[.int .i64 a0.N, .ro (a0.Most.map (cL cI_i64))]]]⟩) _ (by kernel_rfl) ?_
  refine W_seq ?_
  refine W_seq ?_
  refine W_joinS (fun v : Bool => ⟨⟨81, [(1, .ro (a1.map cI_i64)), (2, .ro (a2.map cI_i64)), (3, .pown 0 1 0 0), (27, .bool v)]⟩, [.live false 2 [[.int .i64 a0.N, .ro (a0.Most.map (cL cI_i64))]]]⟩) h (fun w h => ?_) (fun w1 e_w1 h => ?_)
  · refine W_gh ?_
    refine W_reg ?_
    refine O_ps 1 (by kernel_rfl) ?_
    refine O_call (fun v => .bool v) h (.inr rfl) (ys := [.agg (cSBounds a0)]) (fun _ e => p12 _ _ e) (by kernel_rfl) (by kernel_rfl) (bels_cons (okSBounds.bel _) rfl) (fun v2 e_v2 h => ?_)
    refine O_ps 2 (by kernel_rfl) ?_
    refine O_fork (n := 18) (!v2) (by kernel_rfl) (fun c3 => ?_) (fun c3 => ?_)
    · replace h := fork_t c3 h
      refine O_ps 9 (by kernel_rfl) ?_
      refine O_nil ?_
      refine Gh_end (s1 := ⟨⟨81, [(1, .ro (a1.map cI_i64)), (2, .ro (a2.map cI_i64)), (3, .pown 0 1 0 0), (27, .bool true)]⟩, [.live false 2 [[.int .i64 a0.N, .ro (a0.Most.map (cL cI_i64))]]]⟩) _ (by kernel_rfl) ?_
      replace h := Option.some.inj h; subst h
      show _ = _
      kernel_rfl
    · replace h := fork_f c3 h
      refine O_ps 1 (by kernel_rfl) ?_
      refine O_len (l := a1) cI_i64 (by kernel_rfl) (by kernel_rfl) ?_
      refine O_ps 3 (by kernel_rfl) ?_
      refine O_fork (n := 23) (decide ((a1.length : Int) > 50)) (by kernel_rfl) (fun c4 => ?_) (fun c4 => ?_)
      · replace h := fork_t c4 h
        refine O_ps 4 (by kernel_rfl) ?_
        refine O_nil ?_
        refine Gh_end (s1 := ⟨⟨81, [(1, .ro (a1.map cI_i64)), (2, .ro (a2.map cI_i64)), (3, .pown 0 1 0 0), (27, .bool true)]⟩, [.live false 2 [[.int .i64 a0.N, .ro (a0.Most.map (cL cI_i64))]]]⟩) _ (by kernel_rfl) ?_
        replace h := Option.some.inj h; subst h
        show _ = _
        kernel_rfl
      · replace h := fork_f c4 h
        refine O_ps 1 (by kernel_rfl) ?_
        refine O_len (l := a2) cI_i64 (by kernel_rfl) (by kernel_rfl) ?_
        refine O_ps 2 (by kernel_rfl) ?_
        refine O_nil ?_
        refine Gh_end (s1 := ⟨⟨81, [(1, .ro (a1.map cI_i64)), (2, .ro (a2.map cI_i64)), (3, .pown 0 1 0 0), (27, .bool (decide ((a2.length : Int) > 50)))]⟩, [.live false 2 [[.int .i64 a0.N, .ro (a0.Most.map (cL cI_i64))]]]⟩) _ (by kernel_rfl) ?_
        replace h := Option.some.inj h; subst h
        show _ = _
        kernel_rfl
  · refine W_gh ?_
    refine W_cond (c := w1) (by kernel_rfl) (fun c5 => ?_) (fun c5 => ?_)
    · replace h := fork_t c5 h
      refine W_seq ?_
      refine W_gh ?_
      refine W_reg ?_
      refine O_call (fun v => .bool v) h (.inr rfl) (ys := []) (fun _ e => p13  _ e) (by kernel_rfl) (by kernel_rfl) rfl (fun v6 e_v6 h => ?_)
      refine O_ps 1 (by kernel_rfl) ?_
      refine O_nil ?_
      refine Gh_end (s1 := ⟨⟨81, [(1, .ro (a1.map cI_i64)), (2, .ro (a2.map cI_i64)), (3, .pown 0 1 0 0), (6, .bool v6), (27, .bool w1)]⟩, [.live false 2 [[.int .i64 a0.N, .ro (a0.Most.map (cL cI_i64))]]]⟩) _ (by kernel_rfl) ?_
      refine W_ret ?_
      replace h := Option.some.inj h; subst h
      exact Fin_free (l := [.bool v6]) (by kernel_rfl) (by kernel_rfl) rfl
    · replace h := fork_f c5 h
      refine W_skip ?_
      refine Gh_end (s1 := ⟨⟨81, [(1, .ro (a1.map cI_i64)), (2, .ro (a2.map cI_i64)), (3, .pown 0 1 0 0)]⟩, [.live false 2 [[.int .i64 a0.N, .ro (a0.Most.map (cL cI_i64))]]]⟩) _ (by kernel_rfl) ?_
      refine W_seq ?_
      refine W_gh ?_
      refine W_reg ?_
      refine O_ps 2 (by kernel_rfl) ?_
      refine O_call (fun v => .tup [.bool v.1, .int .i64 v.2]) h (.inr rfl) (ys := [.agg (cSBounds a0), .ro (a1.map cI_i64)]) (fun _ e => p29 _ _ _ e) (by kernel_rfl) (by kernel_rfl) (bels_cons (okSBounds.bel _) (bels_cons (ro_bel okI_i64.bel _) rfl)) (fun v7 e_v7 h => ?_)
      refine O_ps 5 (by kernel_rfl) ?_
      refine O_nil ?_
      refine Gh_end (s1 := ⟨⟨81, [(1, .ro (a1.map cI_i64)), (2, .ro (a2.map cI_i64)), (3, .pown 0 1 0 0), (7, .bool v7.1), (8, .int .i64 v7.2)]⟩, [.live false 2 [[.int .i64 a0.N, .ro (a0.Most.map (cL cI_i64))]]]⟩) _ (by kernel_rfl) ?_
      refine W_seq ?_
      refine W_gh ?_
      refine W_reg ?_
      refine O_ps 2 (by kernel_rfl) ?_
      refine O_call (fun v => .tup [.bool v.1, .int .i64 v.2]) h (.inr rfl) (ys := [.agg (cSBounds a0), .ro (a1.map cI_i64)]) (fun _ e => p17 _ _ _ e) (by kernel_rfl) (by kernel_rfl) (bels_cons (okSBounds.bel _) (bels_cons (ro_bel okI_i64.bel _) rfl)) (fun v8 e_v8 h => ?_)
      refine O_ps 5 (by kernel_rfl) ?_
      refine O_nil ?_
      refine Gh_end (s1 := ⟨⟨81, [(2, .ro (a2.map cI_i64)), (3, .pown 0 1 0 0), (7, .bool v7.1), (8, .int .i64 v7.2), (9, .bool v8.1), (10, .int .i64 v8.2)]⟩, [.live false 2 [[.int .i64 a0.N, .ro (a0.Most.map (cL cI_i64))]]]⟩) _ (by kernel_rfl) ?_
      refine W_seq ?_
      refine W_gh ?_
      refine W_reg ?_
      refine O_ps 2 (by kernel_rfl) ?_
      refine O_call (fun v => .tup [.bool v.1, .int .i64 v.2]) h (.inr rfl) (ys := [.agg (cSBounds a0), .ro (a2.map cI_i64)]) (fun _ e => p30 _ _ _ e) (by kernel_rfl) (by kernel_rfl) (bels_cons (okSBounds.bel _) (bels_cons (ro_bel okI_i64.bel _) rfl)) (fun v9 e_v9 h => ?_)
      refine O_ps 5 (by kernel_rfl) ?_
      refine O_nil ?_
      refine Gh_end (s1 := ⟨⟨81, [(2, .ro (a2.map cI_i64)), (3, .pown 0 1 0 0), (7, .bool v7.1), (8, .int .i64 v7.2), (9, .bool v8.1), (10, .int .i64 v8.2), (11, .bool v9.1), (12, .int .i64 v9.2)]⟩, [.live false 2 [[.int .i64 a0.N, .ro (a0.Most.map (cL cI_i64))]]]⟩) _ (by kernel_rfl) ?_
      refine W_seq ?_
      refine W_gh ?_
      refine W_reg ?_
      refine O_ps 2 (by kernel_rfl) ?_
      refine O_call (fun v => .tup [.bool v.1, .int .i64 v.2]) h (.inr rfl) (ys := [.agg (cSBounds a0), .ro (a2.map cI_i64)]) (fun _ e => p31 _ _ _ e) (by kernel_rfl) (by kernel_rfl) (bels_cons (okSBounds.bel _) (bels_cons (ro_bel okI_i64.bel _) rfl)) (fun v10 e_v10 h => ?_)
      refine O_ps 5 (by kernel_rfl) ?_
      refine O_nil ?_
      refine Gh_end (s1 := ⟨⟨81, [(3, .pown 0 1 0 0), (7, .bool v7.1), (8, .int .i64 v7.2), (9, .bool v8.1), (10, .int .i64 v8.2), (11, .bool v9.1), (12, .int .i64 v9.2), (13, .bool v10.1), (14, .int .i64 v10.2)]⟩, [.live false 2 [[.int .i64 a0.N, .ro (a0.Most.map (cL cI_i64))]]]⟩) _ (by kernel_rfl) ?_
      refine W_seq ?_
      refine W_joinS (fun v : Bool => ⟨⟨81, [(6, .bool v)]⟩, [.live false 2 [[.int .i64 a0.N, .ro (a0.Most.map (cL cI_i64))]]]⟩) h (fun w h => ?_) (fun w11 e_w11 h => ?_)
      · refine W_gh ?_
        refine W_draw ?_
        refine O_call (fun v => .bool v) h (.inr rfl) (ys := []) (fun _ e => p13  _ e) (by kernel_rfl) (by kernel_rfl) rfl (fun v12 e_v12 h => ?_)
        refine O_ps 1 (by kernel_rfl) ?_
        refine O_fork (n := 54) v12 (by kernel_rfl) (fun c13 => ?_) (fun c13 => ?_)
        · replace h := fork_t c13 h
          refine O_ps 1 (by kernel_rfl) ?_
          refine O_call (fun v => .int .i64 v) h (.inr rfl) (ys := [.agg (cSBounds a0)]) (fun _ e => p32 _ _ e) (by kernel_rfl) (by kernel_rfl) (bels_cons (okSBounds.bel _) rfl) (fun v14 e_v14 h => ?_)
          refine O_ps 1 (by kernel_rfl) ?_
          refine O_call (fun v => .int .i64 v) h (.inr rfl) (ys := [.agg (cSBounds a0)]) (fun _ e => p28 _ _ e) (by kernel_rfl) (by kernel_rfl) (bels_cons (okSBounds.bel _) rfl) (fun v15 e_v15 h => ?_)
          refine O_ps 3 (by kernel_rfl) ?_
          refine O_fork (n := 61) (v14 == v15) (by kernel_rfl) (fun c16 => ?_) (fun c16 => ?_)
          · replace h := fork_t c16 h
            refine O_ps 5 (by kernel_rfl) ?_
            refine O_fork (n := 66) ((v7.1 == v8.1) != false) (by kernel_rfl) (fun c17 => ?_) (fun c17 => ?_)
            · replace h := fork_t c17 h
              refine O_ps 5 (by kernel_rfl) ?_
              refine O_fork (n := 71) (v7.2 == v8.2) (by kernel_rfl) (fun c18 => ?_) (fun c18 => ?_)
              · replace h := fork_t c18 h
                refine O_ps 5 (by kernel_rfl) ?_
                refine O_fork (n := 76) ((v9.1 == v10.1) != false) (by kernel_rfl) (fun c19 => ?_) (fun c19 => ?_)
                · replace h := fork_t c19 h
                  refine O_ps 5 (by kernel_rfl) ?_
                  refine O_nil ?_
                  refine Gh_end (s1 := ⟨⟨81, [(6, .bool (v9.2 == v10.2))]⟩, [.live false 2 [[.int .i64 a0.N, .ro (a0.Most.map (cL cI_i64))]]]⟩) _ (by kernel_rfl) ?_
                  replace h := Option.some.inj h; subst h
                  show _ = _
                  kernel_rfl
                · replace h := fork_f c19 h
                  refine O_ps 5 (by kernel_rfl) ?_
                  refine O_nil ?_
                  refine Gh_end (s1 := ⟨⟨81, [(6, .bool false)]⟩, [.live false 2 [[.int .i64 a0.N, .ro (a0.Most.map (cL cI_i64))]]]⟩) _ (by kernel_rfl) ?_
                  replace h := Option.some.inj h; subst h
                  show _ = _
                  kernel_rfl
              · replace h := fork_f c18 h
                refine O_ps 10 (by kernel_rfl) ?_
                refine O_nil ?_
                refine Gh_end (s1 := ⟨⟨81, [(6, .bool false)]⟩, [.live false 2 [[.int .i64 a0.N, .ro (a0.Most.map (cL cI_i64))]]]⟩) _ (by kernel_rfl) ?_
                replace h := Option.some.inj h; subst h
                show _ = _
                kernel_rfl
            · replace h := fork_f c17 h
              refine O_ps 15 (by kernel_rfl) ?_
              refine O_nil ?_
              refine Gh_end (s1 := ⟨⟨81, [(6, .bool false)]⟩, [.live false 2 [[.int .i64 a0.N, .ro (a0.Most.map (cL cI_i64))]]]⟩) _ (by kernel_rfl) ?_
              replace h := Option.some.inj h; subst h
              show _ = _
              kernel_rfl
          · replace h := fork_f c16 h
            refine O_ps 20 (by kernel_rfl) ?_
            refine O_nil ?_
            refine Gh_end (s1 := ⟨⟨81, [(6, .bool false)]⟩, [.live false 2 [[.int .i64 a0.N, .ro (a0.Most.map (cL cI_i64))]]]⟩) _ (by kernel_rfl) ?_
            replace h := Option.some.inj h; subst h
            show _ = _
            kernel_rfl
        · replace h := fork_f c13 h
          refine O_ps 27 (by kernel_rfl) ?_
          refine O_nil ?_
          refine Gh_end (s1 := ⟨⟨81, [(6, .bool false)]⟩, [.live false 2 [[.int .i64 a0.N, .ro (a0.Most.map (cL cI_i64))]]]⟩) _ (by kernel_rfl) ?_
          replace h := Option.some.inj h; subst h
          show _ = _
          kernel_rfl
      · refine W_ret ?_
        replace h := Option.some.inj h; subst h
        exact Fin_free (l := [.bool w11]) (by kernel_rfl) (by kernel_rfl) rfl
end G11
