/- The code computes the models, printed by a program of mine (dec.py). No condition. -/
import Derived.Test.YteoiegapifoboaaG11p0
import Derived.Test.YteoiegapifoboaaG11x
import Derived.Test.YteoiegapifoboaaG11a
namespace G11
open Go Go.Pl Go.Am Go.Am.As
set_option linter.unusedVariables false
set_option linter.unusedSimpArgs false
set_option maxHeartbeats 1000000

theorem p65 (a0 : Int) (r : Bool) (h : m65 a0 = some r) : Pt E0 hp 65 [.i a0] (.bool r) := by
  unfold m65 at h
  refine Pt_W (fn65) rfl (by decide) ?_
  refine W_seq ?_
  refine W_gh ?_
  refine W_reg ?_
  refine O_p 1 ?_
  refine O_nil ?_
  refine Gh_e ⟨⟨9, [(0, .i a0)]⟩, []⟩ ?_
  refine W_seq ?_
  refine W_cut ⟨⟨9, [(2, .bool ((decide (a0 ≥ (-64000000))) && (decide (a0 ≤ 64000000))))]⟩, []⟩ ?_ ?_
  · generalize e_g1 : ((decide (a0 ≥ (-64000000))) && (decide (a0 ≤ 64000000))) = g1
    refine W_gh ?_
    refine W_reg ?_
    refine O_p 3 ?_
    refine O_fork (n := 5) (decide (a0 ≥ (-64000000))) (by kernel_rfl) (fun c2 => ?_) (fun c2 => ?_)
    · skip
      refine O_p 4 ?_
      refine O_nil ?_
      refine Gh_e ⟨⟨9, [(2, .bool (decide (a0 ≤ 64000000)))]⟩, []⟩ ?_
      have q := e_g1; simp only [c2, cond_true, cond_false, Bool.true_and, Bool.false_and, Bool.true_or, Bool.false_or] at q; subst q
      show _ = _
      kernel_rfl
    · skip
      refine O_p 4 ?_
      refine O_nil ?_
      refine Gh_e ⟨⟨9, [(2, .bool false)]⟩, []⟩ ?_
      have q := e_g1; simp only [c2, cond_true, cond_false, Bool.true_and, Bool.false_and, Bool.true_or, Bool.false_or] at q; subst q
      show _ = _
      kernel_rfl
  · refine W_ret ?_
    replace h := Option.some.inj h; subst h
    exact Fin_free (l := [.bool ((decide (a0 ≥ (-64000000))) && (decide (a0 ≤ 64000000)))]) (by kernel_rfl) (by kernel_rfl) rfl

theorem p28 (a0 : SBounds) (r : Int) (h : m28 a0 = some r) : Pt E0 hp 28 [.agg (cSBounds a0)] (.i r) := by
  unfold m28 at h
  refine Pt_W (fn28) rfl (by decide) ?_
  refine W_seq ?_
  refine W_gh ?_
  refine W_reg ?_
  refine O_p 2 ?_
  refine O_nil ?_
  refine Gh_e ⟨⟨80, [(1, .po 0 0)]⟩, [.lv 2 [.i a0.N, .ro (a0.Most.map (cL cI_i64))]]⟩ ?_
  refine W_seq ?_
  refine W_seq ?_
  refine W_cut ⟨⟨80, [(1, .po 0 0), (14, .bool ((decide (a0.N < 0)) || (decide (a0.N > 12))))]⟩, [.lv 2 [.i a0.N, .ro (a0.Most.map (cL cI_i64))]]⟩ ?_ ?_
  · generalize e_g1 : ((decide (a0.N < 0)) || (decide (a0.N > 12))) = g1
    refine W_gh ?_
    refine W_reg ?_
    refine O_p 4 ?_
    refine O_fork (n := 10) (decide (a0.N < 0)) (by kernel_rfl) (fun c2 => ?_) (fun c2 => ?_)
    · skip
      refine O_p 4 ?_
      refine O_nil ?_
      refine Gh_e ⟨⟨80, [(1, .po 0 0), (14, .bool true)]⟩, [.lv 2 [.i a0.N, .ro (a0.Most.map (cL cI_i64))]]⟩ ?_
      have q := e_g1; simp only [c2, cond_true, cond_false, Bool.true_and, Bool.false_and, Bool.true_or, Bool.false_or] at q; subst q
      show _ = _
      kernel_rfl
    · skip
      refine O_p 4 ?_
      refine O_nil ?_
      refine Gh_e ⟨⟨80, [(1, .po 0 0), (14, .bool (decide (a0.N > 12)))]⟩, [.lv 2 [.i a0.N, .ro (a0.Most.map (cL cI_i64))]]⟩ ?_
      have q := e_g1; simp only [c2, cond_true, cond_false, Bool.true_and, Bool.false_and, Bool.true_or, Bool.false_or] at q; subst q
      show _ = _
      kernel_rfl
  · refine W_gh ?_
    refine W_cond (c := ((decide (a0.N < 0)) || (decide (a0.N > 12)))) (by kernel_rfl) (fun c3 => ?_) (fun c3 => ?_)
    · replace h := fork_t c3 h
      refine W_seq ?_
      refine W_reg ?_
      refine O_p 1 ?_
      refine O_nil ?_
      refine W_ret ?_
      replace h := Option.some.inj h; subst h
      exact Fin_free (l := [.i 2]) (by kernel_rfl) (by kernel_rfl) rfl
    · replace h := fork_f c3 h
      refine W_skip ?_
      refine Gh_e ⟨⟨80, [(1, .po 0 0)]⟩, [.lv 2 [.i a0.N, .ro (a0.Most.map (cL cI_i64))]]⟩ ?_
      refine W_seq ?_
      refine W_seq ?_
      refine W_gh ?_
      refine W_reg ?_
      refine O_p 2 ?_
      refine O_len (l := a0.Most) (cL cI_i64) (by kernel_rfl) (by kernel_rfl) ?_
      refine O_p 4 ?_
      refine O_nil ?_
      refine Gh_e ⟨⟨80, [(1, .po 0 0), (21, .bool ((a0.Most.length : Int) != (addI .i64 a0.N 1)))]⟩, [.lv 2 [.i a0.N, .ro (a0.Most.map (cL cI_i64))]]⟩ ?_
      refine W_gh ?_
      refine W_cond (c := ((a0.Most.length : Int) != (addI .i64 a0.N 1))) (by kernel_rfl) (fun c4 => ?_) (fun c4 => ?_)
      · replace h := fork_t c4 h
        refine W_seq ?_
        refine W_reg ?_
        refine O_p 1 ?_
        refine O_nil ?_
        refine W_ret ?_
        replace h := Option.some.inj h; subst h
        exact Fin_free (l := [.i 8]) (by kernel_rfl) (by kernel_rfl) rfl
      · replace h := fork_f c4 h
        refine W_skip ?_
        refine Gh_e ⟨⟨80, [(1, .po 0 0)]⟩, [.lv 2 [.i a0.N, .ro (a0.Most.map (cL cI_i64))]]⟩ ?_
        refine W_seq ?_
        refine W_seq ?_
        refine W_reg ?_
        refine O_p 1 ?_
        refine O_nil ?_
        refine W_loop (fun s5 : Int => ⟨⟨80, [(1, .po 0 0), (3, .i s5)]⟩, [.lv 2 [.i a0.N, .ro (a0.Most.map (cL cI_i64))]]⟩) (fun w6 : Unit => ⟨⟨80, [(1, .po 0 0)]⟩, [.lv 2 [.i a0.N, .ro (a0.Most.map (cL cI_i64))]]⟩) h (by kernel_rfl) (fun s5 c h => ?_) (fun w6 h => ?_)
        · refine W_gh ?_
          refine W_seq ?_
          refine W_seq ?_
          refine W_gh ?_
          refine W_reg ?_
          refine O_p 3 ?_
          refine O_len (l := a0.Most) (cL cI_i64) (by kernel_rfl) (by kernel_rfl) ?_
          refine O_p 1 ?_
          refine O_nil ?_
          refine Gh_e ⟨⟨80, [(1, .po 0 0), (3, .i s5), (26, .bool (decide (s5 < (a0.Most.length : Int))))]⟩, [.lv 2 [.i a0.N, .ro (a0.Most.map (cL cI_i64))]]⟩ ?_
          refine W_gh ?_
          refine W_cond (c := (decide (s5 < (a0.Most.length : Int)))) (by kernel_rfl) (fun c7 => ?_) (fun c7 => ?_)
          · replace h := fork_t c7 h
            refine W_skip ?_
            refine Gh_e ⟨⟨80, [(1, .po 0 0), (3, .i s5)]⟩, [.lv 2 [.i a0.N, .ro (a0.Most.map (cL cI_i64))]]⟩ ?_
            refine W_seq ?_
            refine W_gh ?_
            refine W_block ?_
            refine W_seq ?_
            refine W_gh ?_
            refine W_draw ?_
            refine O_p 3 ?_
            refine O_idx (kd := .i64) (cL cI_i64) h (fun _ => rfl) (by kernel_rfl) (by kernel_rfl) (by kernel_rfl) (fun v8 e_v8 h => ?_)
            refine O_p 1 ?_
            refine O_len (l := v8) cI_i64 (by kernel_rfl) (by kernel_rfl) ?_
            refine O_p 4 ?_
            refine O_nil ?_
            refine Gh_e ⟨⟨80, [(1, .po 0 0), (3, .i s5), (38, .bool ((v8.length : Int) != (addI .i64 a0.N 1)))]⟩, [.lv 2 [.i a0.N, .ro (a0.Most.map (cL cI_i64))]]⟩ ?_
            refine W_gh ?_
            refine W_cond (c := ((v8.length : Int) != (addI .i64 a0.N 1))) (by kernel_rfl) (fun c9 => ?_) (fun c9 => ?_)
            · replace h := fork_t c9 h
              refine W_seq ?_
              refine W_reg ?_
              refine O_p 1 ?_
              refine O_nil ?_
              refine W_ret ?_
              replace h := Option.some.inj h; subst h
              refine ⟨_, rfl, fun h => ?_⟩
              replace h := Option.some.inj h; subst h
              exact Fin_free (l := [.i 8]) (by kernel_rfl) (by kernel_rfl) rfl
            · replace h := fork_f c9 h
              refine W_skip ?_
              refine Gh_e ⟨⟨80, [(1, .po 0 0), (3, .i s5)]⟩, [.lv 2 [.i a0.N, .ro (a0.Most.map (cL cI_i64))]]⟩ ?_
              refine Gh_e ⟨⟨80, [(1, .po 0 0), (3, .i s5)]⟩, [.lv 2 [.i a0.N, .ro (a0.Most.map (cL cI_i64))]]⟩ ?_
              refine W_gh ?_
              refine W_reg ?_
              refine O_p 3 ?_
              refine O_nil ?_
              refine Gh_e ⟨⟨80, [(1, .po 0 0), (3, .i (addI .i64 s5 1))]⟩, [.lv 2 [.i a0.N, .ro (a0.Most.map (cL cI_i64))]]⟩ ?_
              refine Gh_e ⟨⟨80, [(1, .po 0 0), (3, .i (addI .i64 s5 1))]⟩, [.lv 2 [.i a0.N, .ro (a0.Most.map (cL cI_i64))]]⟩ ?_
              replace h := Option.some.inj h; subst h
              exact ⟨_, rfl, by kernel_rfl⟩
          · replace h := fork_f c7 h
            refine W_exit ?_
            refine X_hit ?_
            refine Gh_e ⟨⟨80, [(1, .po 0 0)]⟩, [.lv 2 [.i a0.N, .ro (a0.Most.map (cL cI_i64))]]⟩ ?_
            replace h := Option.some.inj h; subst h
            exact ⟨_, rfl, by kernel_rfl⟩
        · refine W_seq ?_
          refine W_seq ?_
          refine W_reg ?_
          refine O_p 1 ?_
          refine O_nil ?_
          refine W_loop (fun s10 : Int => ⟨⟨80, [(1, .po 0 0), (4, .i s10)]⟩, [.lv 2 [.i a0.N, .ro (a0.Most.map (cL cI_i64))]]⟩) (fun w11 : Unit => ⟨⟨80, []⟩, [.lv 2 [.i a0.N, .ro (a0.Most.map (cL cI_i64))]]⟩) h (by kernel_rfl) (fun s10 c h => ?_) (fun w11 h => ?_)
          · refine W_gh ?_
            refine W_seq ?_
            refine W_seq ?_
            refine W_gh ?_
            refine W_reg ?_
            refine O_p 4 ?_
            refine O_nil ?_
            refine Gh_e ⟨⟨80, [(1, .po 0 0), (4, .i s10), (42, .bool (decide (s10 ≤ a0.N)))]⟩, [.lv 2 [.i a0.N, .ro (a0.Most.map (cL cI_i64))]]⟩ ?_
            refine W_gh ?_
            refine W_cond (c := (decide (s10 ≤ a0.N))) (by kernel_rfl) (fun c12 => ?_) (fun c12 => ?_)
            · replace h := fork_t c12 h
              refine W_skip ?_
              refine Gh_e ⟨⟨80, [(1, .po 0 0), (4, .i s10)]⟩, [.lv 2 [.i a0.N, .ro (a0.Most.map (cL cI_i64))]]⟩ ?_
              refine W_seq ?_
              refine W_gh ?_
              refine W_block ?_
              refine W_seq ?_
              refine W_reg ?_
              refine O_p 1 ?_
              refine O_nil ?_
              refine W_loop (fun s13 : Int => ⟨⟨80, [(1, .po 0 0), (4, .i s10), (5, .i s13)]⟩, [.lv 2 [.i a0.N, .ro (a0.Most.map (cL cI_i64))]]⟩) (fun w14 : Unit => ⟨⟨80, [(1, .po 0 0), (4, .i s10)]⟩, [.lv 2 [.i a0.N, .ro (a0.Most.map (cL cI_i64))]]⟩) h (by kernel_rfl) (fun s13 c h => ?_) (fun w14 h => ?_)
              · refine W_gh ?_
                refine W_seq ?_
                refine W_seq ?_
                refine W_gh ?_
                refine W_reg ?_
                refine O_p 4 ?_
                refine O_nil ?_
                refine Gh_e ⟨⟨80, [(1, .po 0 0), (4, .i s10), (5, .i s13), (48, .bool (decide (s13 ≤ a0.N)))]⟩, [.lv 2 [.i a0.N, .ro (a0.Most.map (cL cI_i64))]]⟩ ?_
                refine W_gh ?_
                refine W_cond (c := (decide (s13 ≤ a0.N))) (by kernel_rfl) (fun c15 => ?_) (fun c15 => ?_)
                · replace h := fork_t c15 h
                  refine W_skip ?_
                  refine Gh_e ⟨⟨80, [(1, .po 0 0), (4, .i s10), (5, .i s13)]⟩, [.lv 2 [.i a0.N, .ro (a0.Most.map (cL cI_i64))]]⟩ ?_
                  refine W_seq ?_
                  refine W_gh ?_
                  refine W_block ?_
                  refine W_seq ?_
                  refine W_seq ?_
                  refine W_gh ?_
                  refine W_reg ?_
                  refine O_p 3 ?_
                  refine O_idx (kd := .i64) (cL cI_i64) h (fun _ => rfl) (by kernel_rfl) (by kernel_rfl) (by kernel_rfl) (fun v16 e_v16 h => ?_)
                  refine O_p 2 ?_
                  refine O_idx (kd := .i64) cI_i64 h (fun _ => rfl) (by kernel_rfl) (by kernel_rfl) (by kernel_rfl) (fun v17 e_v17 h => ?_)
                  refine O_p 2 ?_
                  refine O_nil ?_
                  refine Gh_e ⟨⟨80, [(1, .po 0 0), (4, .i s10), (5, .i s13), (6, .i v17)]⟩, [.lv 2 [.i a0.N, .ro (a0.Most.map (cL cI_i64))]]⟩ ?_
                  refine W_seq ?_
                  refine W_joinS (fun v : Bool => ⟨⟨80, [(1, .po 0 0), (4, .i s10), (5, .i s13), (65, .bool v)]⟩, [.lv 2 [.i a0.N, .ro (a0.Most.map (cL cI_i64))]]⟩) h (fun w h => ?_) (fun w18 e_w18 h => ?_)
                  · refine W_gh ?_
                    refine W_reg ?_
                    refine O_p 3 ?_
                    refine O_fork (n := 61) (v17 != (-1099511627776)) (by kernel_rfl) (fun c19 => ?_) (fun c19 => ?_)
                    · replace h := fork_t c19 h
                      refine O_p 1 ?_
                      refine O_call (fun v => .bool v) h (.inr rfl) (ys := [.i v17]) (fun _ e => p65 _ _ e) (by kernel_rfl) (by kernel_rfl) (bels_cons rfl rfl) (fun v20 e_v20 h => ?_)
                      refine O_p 2 ?_
                      refine O_nil ?_
                      refine Gh_e ⟨⟨80, [(1, .po 0 0), (4, .i s10), (5, .i s13), (65, .bool (!v20))]⟩, [.lv 2 [.i a0.N, .ro (a0.Most.map (cL cI_i64))]]⟩ ?_
                      replace h := Option.some.inj h; subst h
                      show _ = _
                      kernel_rfl
                    · replace h := fork_f c19 h
                      refine O_p 4 ?_
                      refine O_nil ?_
                      refine Gh_e ⟨⟨80, [(1, .po 0 0), (4, .i s10), (5, .i s13), (65, .bool false)]⟩, [.lv 2 [.i a0.N, .ro (a0.Most.map (cL cI_i64))]]⟩ ?_
                      replace h := Option.some.inj h; subst h
                      show _ = _
                      kernel_rfl
                  · refine W_gh ?_
                    refine W_cond (c := w18) (by kernel_rfl) (fun c21 => ?_) (fun c21 => ?_)
                    · replace h := fork_t c21 h
                      refine W_seq ?_
                      refine W_reg ?_
                      refine O_p 1 ?_
                      refine O_nil ?_
                      refine W_ret ?_
                      replace h := Option.some.inj h; subst h
                      refine ⟨_, rfl, fun h => ?_⟩
                      replace h := Option.some.inj h; subst h
                      refine ⟨_, rfl, fun h => ?_⟩
                      replace h := Option.some.inj h; subst h
                      exact Fin_free (l := [.i 2]) (by kernel_rfl) (by kernel_rfl) rfl
                    · replace h := fork_f c21 h
                      refine W_skip ?_
                      refine Gh_e ⟨⟨80, [(1, .po 0 0), (4, .i s10), (5, .i s13)]⟩, [.lv 2 [.i a0.N, .ro (a0.Most.map (cL cI_i64))]]⟩ ?_
                      refine W_seq ?_
                      refine W_joinS (fun v : Bool => ⟨⟨80, [(1, .po 0 0), (4, .i s10), (5, .i s13), (79, .bool v)]⟩, [.lv 2 [.i a0.N, .ro (a0.Most.map (cL cI_i64))]]⟩) h (fun w h => ?_) (fun w22 e_w22 h => ?_)
                      · refine W_gh ?_
                        refine W_reg ?_
                        refine O_p 4 ?_
                        refine O_fork (n := 69) (s10 == s13) (by kernel_rfl) (fun c23 => ?_) (fun c23 => ?_)
                        · replace h := fork_t c23 h
                          refine O_p 3 ?_
                          refine O_idx (kd := .i64) (cL cI_i64) h (fun _ => rfl) (by kernel_rfl) (by kernel_rfl) (by kernel_rfl) (fun v24 e_v24 h => ?_)
                          refine O_p 2 ?_
                          refine O_idx (kd := .i64) cI_i64 h (fun _ => rfl) (by kernel_rfl) (by kernel_rfl) (by kernel_rfl) (fun v25 e_v25 h => ?_)
                          refine O_p 3 ?_
                          refine O_nil ?_
                          refine Gh_e ⟨⟨80, [(1, .po 0 0), (4, .i s10), (5, .i s13), (79, .bool (v25 != 0))]⟩, [.lv 2 [.i a0.N, .ro (a0.Most.map (cL cI_i64))]]⟩ ?_
                          replace h := Option.some.inj h; subst h
                          show _ = _
                          kernel_rfl
                        · replace h := fork_f c23 h
                          refine O_p 10 ?_
                          refine O_nil ?_
                          refine Gh_e ⟨⟨80, [(1, .po 0 0), (4, .i s10), (5, .i s13), (79, .bool false)]⟩, [.lv 2 [.i a0.N, .ro (a0.Most.map (cL cI_i64))]]⟩ ?_
                          replace h := Option.some.inj h; subst h
                          show _ = _
                          kernel_rfl
                      · refine W_gh ?_
                        refine W_cond (c := w22) (by kernel_rfl) (fun c26 => ?_) (fun c26 => ?_)
                        · replace h := fork_t c26 h
                          refine W_seq ?_
                          refine W_reg ?_
                          refine O_p 1 ?_
                          refine O_nil ?_
                          refine W_ret ?_
                          replace h := Option.some.inj h; subst h
                          refine ⟨_, rfl, fun h => ?_⟩
                          replace h := Option.some.inj h; subst h
                          refine ⟨_, rfl, fun h => ?_⟩
                          replace h := Option.some.inj h; subst h
                          exact Fin_free (l := [.i 3]) (by kernel_rfl) (by kernel_rfl) rfl
                        · replace h := fork_f c26 h
                          refine W_skip ?_
                          refine Gh_e ⟨⟨80, [(1, .po 0 0), (4, .i s10), (5, .i s13)]⟩, [.lv 2 [.i a0.N, .ro (a0.Most.map (cL cI_i64))]]⟩ ?_
                          refine Gh_e ⟨⟨80, [(1, .po 0 0), (4, .i s10), (5, .i s13)]⟩, [.lv 2 [.i a0.N, .ro (a0.Most.map (cL cI_i64))]]⟩ ?_
                          refine W_gh ?_
                          refine W_reg ?_
                          refine O_p 3 ?_
                          refine O_nil ?_
                          refine Gh_e ⟨⟨80, [(1, .po 0 0), (4, .i s10), (5, .i (addI .i64 s13 1))]⟩, [.lv 2 [.i a0.N, .ro (a0.Most.map (cL cI_i64))]]⟩ ?_
                          refine Gh_e ⟨⟨80, [(1, .po 0 0), (4, .i s10), (5, .i (addI .i64 s13 1))]⟩, [.lv 2 [.i a0.N, .ro (a0.Most.map (cL cI_i64))]]⟩ ?_
                          replace h := Option.some.inj h; subst h
                          exact ⟨_, rfl, by kernel_rfl⟩
                · replace h := fork_f c15 h
                  refine W_exit ?_
                  refine X_hit ?_
                  refine Gh_e ⟨⟨80, [(1, .po 0 0), (4, .i s10)]⟩, [.lv 2 [.i a0.N, .ro (a0.Most.map (cL cI_i64))]]⟩ ?_
                  replace h := Option.some.inj h; subst h
                  exact ⟨_, rfl, by kernel_rfl⟩
              · refine Gh_e ⟨⟨80, [(1, .po 0 0), (4, .i s10)]⟩, [.lv 2 [.i a0.N, .ro (a0.Most.map (cL cI_i64))]]⟩ ?_
                refine W_gh ?_
                refine W_reg ?_
                refine O_p 3 ?_
                refine O_nil ?_
                refine Gh_e ⟨⟨80, [(1, .po 0 0), (4, .i (addI .i64 s10 1))]⟩, [.lv 2 [.i a0.N, .ro (a0.Most.map (cL cI_i64))]]⟩ ?_
                refine Gh_e ⟨⟨80, [(1, .po 0 0), (4, .i (addI .i64 s10 1))]⟩, [.lv 2 [.i a0.N, .ro (a0.Most.map (cL cI_i64))]]⟩ ?_
                replace h := Option.some.inj h; subst h
                exact ⟨_, rfl, by kernel_rfl⟩
            · replace h := fork_f c12 h
              refine W_exit ?_
              refine X_hit ?_
              refine Gh_e ⟨⟨80, []⟩, [.lv 2 [.i a0.N, .ro (a0.Most.map (cL cI_i64))]]⟩ ?_
              replace h := Option.some.inj h; subst h
              exact ⟨_, rfl, by kernel_rfl⟩
          · refine W_seq ?_
            refine W_reg ?_
            refine O_p 1 ?_
            refine O_nil ?_
            refine W_ret ?_
            replace h := Option.some.inj h; subst h
            exact Fin_free (l := [.i 0]) (by kernel_rfl) (by kernel_rfl) rfl

theorem p64 (a0 : Int) (r : Bool) (h : m64 a0 = some r) : Pt E0 hp 64 [.i a0] (.bool r) := by
  unfold m64 at h
  refine Pt_W (fn64) rfl (by decide) ?_
  refine W_seq ?_
  refine W_gh ?_
  refine W_reg ?_
  refine O_p 1 ?_
  refine O_nil ?_
  refine Gh_e ⟨⟨13, [(0, .i a0)]⟩, []⟩ ?_
  refine W_seq ?_
  refine W_cut ⟨⟨13, [(2, .bool ((a0 != (-1099511627776)) && ((decide (a0 < (-1000000))) || (decide (a0 > 1000000)))))]⟩, []⟩ ?_ ?_
  · generalize e_g1 : ((a0 != (-1099511627776)) && ((decide (a0 < (-1000000))) || (decide (a0 > 1000000)))) = g1
    refine W_gh ?_
    refine W_reg ?_
    refine O_p 3 ?_
    refine O_fork (n := 5) (a0 != (-1099511627776)) (by kernel_rfl) (fun c2 => ?_) (fun c2 => ?_)
    · skip
      refine O_p 3 ?_
      refine O_fork (n := 8) (decide (a0 < (-1000000))) (by kernel_rfl) (fun c3 => ?_) (fun c3 => ?_)
      · skip
        refine O_p 5 ?_
        refine O_nil ?_
        refine Gh_e ⟨⟨13, [(2, .bool true)]⟩, []⟩ ?_
        have q := e_g1; simp only [c2, c3, cond_true, cond_false, Bool.true_and, Bool.false_and, Bool.true_or, Bool.false_or] at q; subst q
        show _ = _
        kernel_rfl
      · skip
        refine O_p 5 ?_
        refine O_nil ?_
        refine Gh_e ⟨⟨13, [(2, .bool (decide (a0 > 1000000)))]⟩, []⟩ ?_
        have q := e_g1; simp only [c2, c3, cond_true, cond_false, Bool.true_and, Bool.false_and, Bool.true_or, Bool.false_or] at q; subst q
        show _ = _
        kernel_rfl
    · skip
      refine O_p 8 ?_
      refine O_nil ?_
      refine Gh_e ⟨⟨13, [(2, .bool false)]⟩, []⟩ ?_
      have q := e_g1; simp only [c2, cond_true, cond_false, Bool.true_and, Bool.false_and, Bool.true_or, Bool.false_or] at q; subst q
      show _ = _
      kernel_rfl
  · refine W_ret ?_
    replace h := Option.some.inj h; subst h
    exact Fin_free (l := [.bool ((a0 != (-1099511627776)) && ((decide (a0 < (-1000000))) || (decide (a0 > 1000000))))]) (by kernel_rfl) (by kernel_rfl) rfl

theorem p77_64 (a0 : (List Int)) (r : Int) (h : m77_64 a0 = some r) : Pt E0 hp 77 [.ro (a0.map cI_i64), .fn 64 []] (.i r) := by
  unfold m77_64 at h
  refine Pt_W (fn77) rfl (by decide) ?_
  refine W_seq ?_
  refine W_gh ?_
  refine W_reg ?_
  refine O_p 1 ?_
  refine O_nil ?_
  refine Gh_e ⟨⟨19, [(0, .ro (a0.map cI_i64)), (1, .fn 64 [])]⟩, []⟩ ?_
  refine W_seq ?_
  refine W_seq ?_
  refine W_gh ?_
  refine W_reg ?_
  refine O_p 1 ?_
  refine O_len (l := a0) cI_i64 (by kernel_rfl) (by kernel_rfl) ?_
  refine O_p 1 ?_
  refine O_nil ?_
  refine Gh_e ⟨⟨19, [(0, .ro (a0.map cI_i64)), (1, .fn 64 []), (7, .i (a0.length : Int)), (8, .i 0)]⟩, []⟩ ?_
  refine W_loop (fun s1 : Int => ⟨⟨19, [(0, .ro (a0.map cI_i64)), (1, .fn 64 []), (7, .i (a0.length : Int)), (8, .i s1)]⟩, []⟩) (fun w2 : Unit => ⟨⟨19, []⟩, []⟩) h (by kernel_rfl) (fun s1 c h => ?_) (fun w2 h => ?_)
  · refine W_gh ?_
    refine W_seq ?_
    refine W_reg ?_
    refine O_p 1 ?_
    refine O_nil ?_
    refine W_seq ?_
    refine W_gh ?_
    refine W_cond (c := (decide (s1 < (a0.length : Int)))) (by kernel_rfl) (fun c3 => ?_) (fun c3 => ?_)
    · replace h := fork_t c3 h
      refine W_skip ?_
      refine Gh_e ⟨⟨19, [(0, .ro (a0.map cI_i64)), (1, .fn 64 []), (7, .i (a0.length : Int)), (8, .i s1)]⟩, []⟩ ?_
      refine W_seq ?_
      refine W_gh ?_
      refine W_block ?_
      refine W_seq ?_
      refine W_gh ?_
      refine W_reg ?_
      refine O_p 2 ?_
      refine O_nil ?_
      refine Gh_e ⟨⟨19, [(0, .ro (a0.map cI_i64)), (1, .fn 64 []), (5, .i s1), (7, .i (a0.length : Int)), (8, .i s1)]⟩, []⟩ ?_
      refine W_seq ?_
      refine W_gh ?_
      refine W_reg ?_
      refine O_p 3 ?_
      refine O_idx (kd := .i64) cI_i64 h (fun _ => rfl) (by kernel_rfl) (by kernel_rfl) (by kernel_rfl) (fun v4 e_v4 h => ?_)
      refine O_p 1 ?_
      refine O_callv (f := 64) (cap := []) (fun v => .bool v) h (.inr rfl) (by kernel_rfl) (ys := [.i v4]) (fun _ e => p64 _ _ e) (by kernel_rfl) (by kernel_rfl) (bels_cons rfl rfl) (fun v5 e_v5 h => ?_)
      refine O_nil ?_
      refine Gh_one (s1 := ⟨⟨19, [(0, .ro (a0.map cI_i64)), (1, .fn 64 []), (5, .i s1), (7, .i (a0.length : Int)), (8, .i s1), (16, .bool v5)]⟩, []⟩) (by kernel_rfl) ?_
      refine Gh_trunc0 (by kernel_rfl) ?_
      refine Gh_nil ?_
      refine W_gh ?_
      refine W_cond (c := v5) (by kernel_rfl) (fun c6 => ?_) (fun c6 => ?_)
      · replace h := fork_t c6 h
        refine W_seq ?_
        refine W_gh ?_
        refine W_reg ?_
        refine O_p 2 ?_
        refine O_nil ?_
        refine Gh_e ⟨⟨19, [(0, .ro (a0.map cI_i64)), (1, .fn 64 []), (4, .i s1), (7, .i (a0.length : Int)), (8, .i s1), (16, .bool v5)]⟩, []⟩ ?_
        refine W_ret ?_
        replace h := Option.some.inj h; subst h
        refine ⟨_, rfl, fun h => ?_⟩
        replace h := Option.some.inj h; subst h
        exact Fin_free (l := [.i s1]) (by kernel_rfl) (by kernel_rfl) rfl
      · replace h := fork_f c6 h
        refine W_skip ?_
        refine Gh_e ⟨⟨19, [(0, .ro (a0.map cI_i64)), (1, .fn 64 []), (7, .i (a0.length : Int)), (8, .i s1)]⟩, []⟩ ?_
        refine Gh_one (s1 := ⟨⟨19, [(0, .ro (a0.map cI_i64)), (1, .fn 64 []), (7, .i (a0.length : Int)), (8, .i s1)]⟩, []⟩) (by kernel_rfl) ?_
        refine Gh_trunc0 (by kernel_rfl) ?_
        refine Gh_nil ?_
        refine W_gh ?_
        refine W_reg ?_
        refine O_p 2 ?_
        refine O_nil ?_
        refine Gh_e ⟨⟨19, [(0, .ro (a0.map cI_i64)), (1, .fn 64 []), (7, .i (a0.length : Int)), (8, .i (addI .i64 s1 1))]⟩, []⟩ ?_
        refine Gh_one (s1 := ⟨⟨19, [(0, .ro (a0.map cI_i64)), (1, .fn 64 []), (7, .i (a0.length : Int)), (8, .i (addI .i64 s1 1))]⟩, []⟩) (by kernel_rfl) ?_
        refine Gh_trunc0 (by kernel_rfl) ?_
        refine Gh_nil ?_
        replace h := Option.some.inj h; subst h
        exact ⟨_, rfl, by kernel_rfl⟩
    · replace h := fork_f c3 h
      refine W_exit ?_
      refine X_hit ?_
      refine Gh_one (s1 := ⟨⟨19, []⟩, []⟩) (by kernel_rfl) ?_
      refine Gh_trunc0 (by kernel_rfl) ?_
      refine Gh_nil ?_
      replace h := Option.some.inj h; subst h
      exact ⟨_, rfl, by kernel_rfl⟩
  · refine W_seq ?_
    refine W_reg ?_
    refine O_p 1 ?_
    refine O_nil ?_
    refine W_ret ?_
    replace h := Option.some.inj h; subst h
    exact Fin_free (l := [.i (-1)]) (by kernel_rfl) (by kernel_rfl) rfl

theorem p39_64 (a0 : (List Int)) (r : Bool) (h : m39_64 a0 = some r) : Pt E0 hp 39 [.ro (a0.map cI_i64), .fn 64 []] (.bool r) := by
  unfold m39_64 at h
  refine Pt_W (fn39) rfl (by decide) ?_
  refine W_seq ?_
  refine W_gh ?_
  refine W_reg ?_
  refine O_p 1 ?_
  refine O_nil ?_
  refine Gh_e ⟨⟨9, [(0, .ro (a0.map cI_i64)), (1, .fn 64 [])]⟩, []⟩ ?_
  refine W_seq ?_
  refine W_gh ?_
  refine W_reg ?_
  refine O_p 2 ?_
  refine O_call (fun v => .i v) h (.inr rfl) (ys := [.ro (a0.map cI_i64), .fn 64 []]) (fun _ e => p77_64 _ _ e) (by kernel_rfl) (by kernel_rfl) (bels_cons (ro_bel okI_i64.bel _) (bels_cons rfl rfl)) (fun v1 e_v1 h => ?_)
  refine O_p 2 ?_
  refine O_nil ?_
  refine Gh_e ⟨⟨9, [(4, .bool (decide (v1 ≥ 0)))]⟩, []⟩ ?_
  refine W_ret ?_
  replace h := Option.some.inj h; subst h
  exact Fin_free (l := [.bool (decide (v1 ≥ 0))]) (by kernel_rfl) (by kernel_rfl) rfl

theorem p63 (a0 : (List Int)) (r : Bool) (h : m63 a0 = some r) : Pt E0 hp 63 [.ro (a0.map cI_i64)] (.bool r) := by
  unfold m63 at h
  refine Pt_W (fn63) rfl (by decide) ?_
  refine W_seq ?_
  refine W_gh ?_
  refine W_reg ?_
  refine O_p 1 ?_
  refine O_nil ?_
  refine Gh_e ⟨⟨5, [(0, .ro (a0.map cI_i64))]⟩, []⟩ ?_
  refine W_seq ?_
  refine W_gh ?_
  refine W_reg ?_
  refine O_p 1 ?_
  refine O_call (fun v => .bool v) h (.inr rfl) (ys := [.ro (a0.map cI_i64), .fn 64 []]) (fun _ e => p39_64 _ _ e) (by kernel_rfl) (by kernel_rfl) (bels_cons (ro_bel okI_i64.bel _) (bels_cons rfl rfl)) (fun v1 e_v1 h => ?_)
  refine O_p 1 ?_
  refine O_nil ?_
  refine Gh_e ⟨⟨5, [(2, .bool v1)]⟩, []⟩ ?_
  refine W_ret ?_
  replace h := Option.some.inj h; subst h
  exact Fin_free (l := [.bool v1]) (by kernel_rfl) (by kernel_rfl) rfl

theorem p90_63 (a0 : (List (List Int))) (r : Int) (h : m90_63 a0 = some r) : Pt E0 hp 90 [.ro (a0.map (cL cI_i64)), .fn 63 []] (.i r) := by
  unfold m90_63 at h
  refine Pt_W (fn90) rfl (by decide) ?_
  refine W_seq ?_
  refine W_gh ?_
  refine W_reg ?_
  refine O_p 1 ?_
  refine O_nil ?_
  refine Gh_e ⟨⟨19, [(0, .ro (a0.map (cL cI_i64))), (1, .fn 63 [])]⟩, []⟩ ?_
  refine W_seq ?_
  refine W_seq ?_
  refine W_gh ?_
  refine W_reg ?_
  refine O_p 1 ?_
  refine O_len (l := a0) (cL cI_i64) (by kernel_rfl) (by kernel_rfl) ?_
  refine O_p 1 ?_
  refine O_nil ?_
  refine Gh_e ⟨⟨19, [(0, .ro (a0.map (cL cI_i64))), (1, .fn 63 []), (7, .i (a0.length : Int)), (8, .i 0)]⟩, []⟩ ?_
  refine W_loop (fun s1 : Int => ⟨⟨19, [(0, .ro (a0.map (cL cI_i64))), (1, .fn 63 []), (7, .i (a0.length : Int)), (8, .i s1)]⟩, []⟩) (fun w2 : Unit => ⟨⟨19, []⟩, []⟩) h (by kernel_rfl) (fun s1 c h => ?_) (fun w2 h => ?_)
  · refine W_gh ?_
    refine W_seq ?_
    refine W_reg ?_
    refine O_p 1 ?_
    refine O_nil ?_
    refine W_seq ?_
    refine W_gh ?_
    refine W_cond (c := (decide (s1 < (a0.length : Int)))) (by kernel_rfl) (fun c3 => ?_) (fun c3 => ?_)
    · replace h := fork_t c3 h
      refine W_skip ?_
      refine Gh_e ⟨⟨19, [(0, .ro (a0.map (cL cI_i64))), (1, .fn 63 []), (7, .i (a0.length : Int)), (8, .i s1)]⟩, []⟩ ?_
      refine W_seq ?_
      refine W_gh ?_
      refine W_block ?_
      refine W_seq ?_
      refine W_gh ?_
      refine W_reg ?_
      refine O_p 2 ?_
      refine O_nil ?_
      refine Gh_e ⟨⟨19, [(0, .ro (a0.map (cL cI_i64))), (1, .fn 63 []), (5, .i s1), (7, .i (a0.length : Int)), (8, .i s1)]⟩, []⟩ ?_
      refine W_seq ?_
      refine W_gh ?_
      refine W_reg ?_
      refine O_p 3 ?_
      refine O_idx (kd := .i64) (cL cI_i64) h (fun _ => rfl) (by kernel_rfl) (by kernel_rfl) (by kernel_rfl) (fun v4 e_v4 h => ?_)
      refine O_p 1 ?_
      refine O_callv (f := 63) (cap := []) (fun v => .bool v) h (.inr rfl) (by kernel_rfl) (ys := [.ro (v4.map cI_i64)]) (fun _ e => p63 _ _ e) (by kernel_rfl) (by kernel_rfl) (bels_cons (ro_bel okI_i64.bel _) rfl) (fun v5 e_v5 h => ?_)
      refine O_nil ?_
      refine Gh_one (s1 := ⟨⟨19, [(0, .ro (a0.map (cL cI_i64))), (1, .fn 63 []), (5, .i s1), (7, .i (a0.length : Int)), (8, .i s1), (16, .bool v5)]⟩, []⟩) (by kernel_rfl) ?_
      refine Gh_trunc0 (by kernel_rfl) ?_
      refine Gh_nil ?_
      refine W_gh ?_
      refine W_cond (c := v5) (by kernel_rfl) (fun c6 => ?_) (fun c6 => ?_)
      · replace h := fork_t c6 h
        refine W_seq ?_
        refine W_gh ?_
        refine W_reg ?_
        refine O_p 2 ?_
        refine O_nil ?_
        refine Gh_e ⟨⟨19, [(0, .ro (a0.map (cL cI_i64))), (1, .fn 63 []), (4, .i s1), (7, .i (a0.length : Int)), (8, .i s1), (16, .bool v5)]⟩, []⟩ ?_
        refine W_ret ?_
        replace h := Option.some.inj h; subst h
        refine ⟨_, rfl, fun h => ?_⟩
        replace h := Option.some.inj h; subst h
        exact Fin_free (l := [.i s1]) (by kernel_rfl) (by kernel_rfl) rfl
      · replace h := fork_f c6 h
        refine W_skip ?_
        refine Gh_e ⟨⟨19, [(0, .ro (a0.map (cL cI_i64))), (1, .fn 63 []), (7, .i (a0.length : Int)), (8, .i s1)]⟩, []⟩ ?_
        refine Gh_one (s1 := ⟨⟨19, [(0, .ro (a0.map (cL cI_i64))), (1, .fn 63 []), (7, .i (a0.length : Int)), (8, .i s1)]⟩, []⟩) (by kernel_rfl) ?_
        refine Gh_trunc0 (by kernel_rfl) ?_
        refine Gh_nil ?_
        refine W_gh ?_
        refine W_reg ?_
        refine O_p 2 ?_
        refine O_nil ?_
        refine Gh_e ⟨⟨19, [(0, .ro (a0.map (cL cI_i64))), (1, .fn 63 []), (7, .i (a0.length : Int)), (8, .i (addI .i64 s1 1))]⟩, []⟩ ?_
        refine Gh_one (s1 := ⟨⟨19, [(0, .ro (a0.map (cL cI_i64))), (1, .fn 63 []), (7, .i (a0.length : Int)), (8, .i (addI .i64 s1 1))]⟩, []⟩) (by kernel_rfl) ?_
        refine Gh_trunc0 (by kernel_rfl) ?_
        refine Gh_nil ?_
        replace h := Option.some.inj h; subst h
        exact ⟨_, rfl, by kernel_rfl⟩
    · replace h := fork_f c3 h
      refine W_exit ?_
      refine X_hit ?_
      refine Gh_one (s1 := ⟨⟨19, []⟩, []⟩) (by kernel_rfl) ?_
      refine Gh_trunc0 (by kernel_rfl) ?_
      refine Gh_nil ?_
      replace h := Option.some.inj h; subst h
      exact ⟨_, rfl, by kernel_rfl⟩
  · refine W_seq ?_
    refine W_reg ?_
    refine O_p 1 ?_
    refine O_nil ?_
    refine W_ret ?_
    replace h := Option.some.inj h; subst h
    exact Fin_free (l := [.i (-1)]) (by kernel_rfl) (by kernel_rfl) rfl

theorem p62_63 (a0 : (List (List Int))) (r : Bool) (h : m62_63 a0 = some r) : Pt E0 hp 62 [.ro (a0.map (cL cI_i64)), .fn 63 []] (.bool r) := by
  unfold m62_63 at h
  refine Pt_W (fn62) rfl (by decide) ?_
  refine W_seq ?_
  refine W_gh ?_
  refine W_reg ?_
  refine O_p 1 ?_
  refine O_nil ?_
  refine Gh_e ⟨⟨9, [(0, .ro (a0.map (cL cI_i64))), (1, .fn 63 [])]⟩, []⟩ ?_
  refine W_seq ?_
  refine W_gh ?_
  refine W_reg ?_
  refine O_p 2 ?_
  refine O_call (fun v => .i v) h (.inr rfl) (ys := [.ro (a0.map (cL cI_i64)), .fn 63 []]) (fun _ e => p90_63 _ _ e) (by kernel_rfl) (by kernel_rfl) (bels_cons (ro_bel (okL okI_i64).bel _) (bels_cons rfl rfl)) (fun v1 e_v1 h => ?_)
  refine O_p 2 ?_
  refine O_nil ?_
  refine Gh_e ⟨⟨9, [(4, .bool (decide (v1 ≥ 0)))]⟩, []⟩ ?_
  refine W_ret ?_
  replace h := Option.some.inj h; subst h
  exact Fin_free (l := [.bool (decide (v1 ≥ 0))]) (by kernel_rfl) (by kernel_rfl) rfl

theorem p27 (a0 : SBounds) (r : Bool) (h : m27 a0 = some r) : Pt E0 hp 27 [.agg (cSBounds a0)] (.bool r) := by
  unfold m27 at h
  refine Pt_W (fn27) rfl (by decide) ?_
  refine W_seq ?_
  refine W_gh ?_
  refine W_reg ?_
  refine O_p 2 ?_
  refine O_nil ?_
  refine Gh_e ⟨⟨15, [(1, .po 0 0)]⟩, [.lv 2 [.i a0.N, .ro (a0.Most.map (cL cI_i64))]]⟩ ?_
  refine W_seq ?_
  refine W_seq ?_
  refine W_joinS (fun v : Bool => ⟨⟨15, [(1, .po 0 0), (10, .bool v)]⟩, [.lv 2 [.i a0.N, .ro (a0.Most.map (cL cI_i64))]]⟩) h (fun w h => ?_) (fun w1 e_w1 h => ?_)
  · refine W_gh ?_
    refine W_reg ?_
    refine O_p 4 ?_
    refine O_fork (n := 6) (decide (a0.N > 6)) (by kernel_rfl) (fun c2 => ?_) (fun c2 => ?_)
    · replace h := fork_t c2 h
      refine O_p 4 ?_
      refine O_nil ?_
      refine Gh_e ⟨⟨15, [(1, .po 0 0), (10, .bool true)]⟩, [.lv 2 [.i a0.N, .ro (a0.Most.map (cL cI_i64))]]⟩ ?_
      replace h := Option.some.inj h; subst h
      show _ = _
      kernel_rfl
    · replace h := fork_f c2 h
      refine O_p 1 ?_
      refine O_call (fun v => .i v) h (.inr rfl) (ys := [.agg (cSBounds a0)]) (fun _ e => p28 _ _ e) (by kernel_rfl) (by kernel_rfl) (bels_cons (okSBounds.bel _) rfl) (fun v3 e_v3 h => ?_)
      refine O_p 2 ?_
      refine O_nil ?_
      refine Gh_e ⟨⟨15, [(1, .po 0 0), (10, .bool (v3 != 0))]⟩, [.lv 2 [.i a0.N, .ro (a0.Most.map (cL cI_i64))]]⟩ ?_
      replace h := Option.some.inj h; subst h
      show _ = _
      kernel_rfl
  · refine W_gh ?_
    refine W_cond (c := w1) (by kernel_rfl) (fun c4 => ?_) (fun c4 => ?_)
    · replace h := fork_t c4 h
      refine W_seq ?_
      refine W_reg ?_
      refine O_p 1 ?_
      refine O_nil ?_
      refine W_ret ?_
      replace h := Option.some.inj h; subst h
      exact Fin_free (l := [.bool false]) (by kernel_rfl) (by kernel_rfl) rfl
    · replace h := fork_f c4 h
      refine W_skip ?_
      refine Gh_e ⟨⟨15, [(1, .po 0 0)]⟩, [.lv 2 [.i a0.N, .ro (a0.Most.map (cL cI_i64))]]⟩ ?_
      refine W_seq ?_
      refine W_gh ?_
      refine W_reg ?_
      refine O_p 2 ?_
      refine O_call (fun v => .bool v) h (.inr rfl) (ys := [.ro (a0.Most.map (cL cI_i64)), .fn 63 []]) (fun _ e => p62_63 _ _ e) (by kernel_rfl) (by kernel_rfl) (bels_cons (ro_bel (okL okI_i64).bel _) (bels_cons rfl rfl)) (fun v5 e_v5 h => ?_)
      refine O_p 2 ?_
      refine O_nil ?_
      refine Gh_e ⟨⟨15, [(2, .bool (!v5))]⟩, [.lv 2 [.i a0.N, .ro (a0.Most.map (cL cI_i64))]]⟩ ?_
      refine W_ret ?_
      replace h := Option.some.inj h; subst h
      exact Fin_free (l := [.bool (!v5)]) (by kernel_rfl) (by kernel_rfl) rfl

theorem p6 (a0 : SBounds) (a1 : Int) (r : Bool) (h : m6 a0 a1 = some r) : Pt E0 hp 6 [.agg (cSBounds a0), .int .u8 a1] (.bool r) := by
  unfold m6 at h
  refine Pt_W (fn6) rfl (by decide) ?_
  refine W_seq ?_
  refine W_gh ?_
  refine W_reg ?_
  refine O_p 2 ?_
  refine O_nil ?_
  refine Gh_e ⟨⟨192, [(1, .int .u8 a1), (2, .po 0 0)]⟩, [.lv 2 [.i a0.N, .ro (a0.Most.map (cL cI_i64))]]⟩ ?_
  refine W_seq ?_
  refine W_seq ?_
  refine W_joinS (fun v : Bool => ⟨⟨192, [(1, .int .u8 a1), (2, .po 0 0), (29, .bool v)]⟩, [.lv 2 [.i a0.N, .ro (a0.Most.map (cL cI_i64))]]⟩) h (fun w h => ?_) (fun w1 e_w1 h => ?_)
  · refine W_gh ?_
    refine W_reg ?_
    refine O_p 1 ?_
    refine O_call (fun v => .bool v) h (.inr rfl) (ys := [.agg (cSBounds a0)]) (fun _ e => p27 _ _ e) (by kernel_rfl) (by kernel_rfl) (bels_cons (okSBounds.bel _) rfl) (fun v2 e_v2 h => ?_)
    refine O_p 2 ?_
    refine O_fork (n := 25) (!v2) (by kernel_rfl) (fun c3 => ?_) (fun c3 => ?_)
    · replace h := fork_t c3 h
      refine O_p 4 ?_
      refine O_nil ?_
      refine Gh_e ⟨⟨192, [(1, .int .u8 a1), (2, .po 0 0), (29, .bool true)]⟩, [.lv 2 [.i a0.N, .ro (a0.Most.map (cL cI_i64))]]⟩ ?_
      replace h := Option.some.inj h; subst h
      show _ = _
      kernel_rfl
    · replace h := fork_f c3 h
      refine O_p 4 ?_
      refine O_nil ?_
      refine Gh_e ⟨⟨192, [(1, .int .u8 a1), (2, .po 0 0), (29, .bool (a0.N == 0))]⟩, [.lv 2 [.i a0.N, .ro (a0.Most.map (cL cI_i64))]]⟩ ?_
      replace h := Option.some.inj h; subst h
      show _ = _
      kernel_rfl
  · refine W_gh ?_
    refine W_cond (c := w1) (by kernel_rfl) (fun c4 => ?_) (fun c4 => ?_)
    · replace h := fork_t c4 h
      refine W_seq ?_
      refine W_gh ?_
      refine W_reg ?_
      refine O_call (fun v => .bool v) h (.inr rfl) (ys := []) (fun _ e => p13  _ e) (by kernel_rfl) (by kernel_rfl) rfl (fun v5 e_v5 h => ?_)
      refine O_p 1 ?_
      refine O_nil ?_
      refine Gh_e ⟨⟨192, [(1, .int .u8 a1), (2, .po 0 0), (4, .bool v5), (29, .bool w1)]⟩, [.lv 2 [.i a0.N, .ro (a0.Most.map (cL cI_i64))]]⟩ ?_
      refine W_ret ?_
      replace h := Option.some.inj h; subst h
      exact Fin_free (l := [.bool v5]) (by kernel_rfl) (by kernel_rfl) rfl
    · replace h := fork_f c4 h
      refine W_skip ?_
      refine Gh_e ⟨⟨192, [(1, .int .u8 a1), (2, .po 0 0)]⟩, [.lv 2 [.i a0.N, .ro (a0.Most.map (cL cI_i64))]]⟩ ?_
      refine W_seq ?_
      refine W_gh ?_
      refine W_reg ?_
      refine O_p 4 ?_
      refine O_rem (kd := .i64) h (by kernel_rfl) (by kernel_rfl) (by kernel_rfl) (fun v6 e_v6 h => ?_)
      refine O_p 2 ?_
      refine O_nil ?_
      refine Gh_e ⟨⟨192, [(2, .po 0 0), (5, .i (addI .i64 1 v6))]⟩, [.lv 2 [.i a0.N, .ro (a0.Most.map (cL cI_i64))]]⟩ ?_
      refine W_seq ?_
      refine W_gh ?_
      refine W_reg ?_
      refine O_p 1 ?_
      refine O_call (fun v => .tup [.agg [.i v.1.N, .ro (v.1.Most.map (cL cI_i64))], .ro (v.2.1.map cI_i64), .bool v.2.2.1, .i v.2.2.2]) h (.inr rfl) (ys := [.agg (cSBounds a0)]) (fun _ e => p14 _ _ e) (by kernel_rfl) (by kernel_rfl) (bels_cons (okSBounds.bel _) rfl) (fun v7 e_v7 h => ?_)
      refine O_p 10 ?_
      refine O_nil ?_
      refine Gh_e ⟨⟨192, [(2, .po 0 0), (5, .i (addI .i64 1 v6)), (6, .po 1 0), (8, .bool v7.2.2.1), (9, .i v7.2.2.2)]⟩, [.lv 2 [.i a0.N, .ro (a0.Most.map (cL cI_i64))], .lv 2 [.i v7.1.N, .ro (v7.1.Most.map (cL cI_i64))]]⟩ ?_
      refine W_seq ?_
      refine W_gh ?_
      refine W_reg ?_
      refine O_p 2 ?_
      refine O_call (fun v => .tup [.agg [.i v.1.N, .ro (v.1.Most.map (cL cI_i64))], .i v.2]) h (.inr rfl) (ys := [.agg (cSBounds a0), .i (addI .i64 1 v6)]) (fun _ e => p23 _ _ _ e) (by kernel_rfl) (by kernel_rfl) (bels_cons (okSBounds.bel _) (bels_cons rfl rfl)) (fun v8 e_v8 h => ?_)
      refine O_p 6 ?_
      refine O_nil ?_
      refine Gh_e ⟨⟨192, [(2, .po 0 0), (5, .i (addI .i64 1 v6)), (6, .po 1 0), (8, .bool v7.2.2.1), (9, .i v7.2.2.2), (10, .po 2 0), (11, .i v8.2)]⟩, [.lv 2 [.i a0.N, .ro (a0.Most.map (cL cI_i64))], .lv 2 [.i v7.1.N, .ro (v7.1.Most.map (cL cI_i64))], .lv 2 [.i v8.1.N, .ro (v8.1.Most.map (cL cI_i64))]]⟩ ?_
      refine W_seq ?_
      refine W_gh ?_
      refine W_reg ?_
      refine O_p 2 ?_
      refine O_call (fun v => .tup [.agg [.i v.1.N, .ro (v.1.Most.map (cL cI_i64))], .i v.2]) h (.inr rfl) (ys := [.agg (cSBounds a0), .i (addI .i64 1 v6)]) (fun _ e => p25 _ _ _ e) (by kernel_rfl) (by kernel_rfl) (bels_cons (okSBounds.bel _) (bels_cons rfl rfl)) (fun v9 e_v9 h => ?_)
      refine O_p 6 ?_
      refine O_nil ?_
      refine Gh_e ⟨⟨192, [(2, .po 0 0), (5, .i (addI .i64 1 v6)), (6, .po 1 0), (8, .bool v7.2.2.1), (9, .i v7.2.2.2), (10, .po 2 0), (11, .i v8.2), (12, .po 3 0), (13, .i v9.2)]⟩, [.lv 2 [.i a0.N, .ro (a0.Most.map (cL cI_i64))], .lv 2 [.i v7.1.N, .ro (v7.1.Most.map (cL cI_i64))], .lv 2 [.i v8.1.N, .ro (v8.1.Most.map (cL cI_i64))], .lv 2 [.i v9.1.N, .ro (v9.1.Most.map (cL cI_i64))]]⟩ ?_
      refine W_seq ?_
      refine W_seq ?_
      refine W_cut ⟨⟨192, [(2, .po 0 0), (5, .i (addI .i64 1 v6)), (6, .po 1 0), (9, .i v7.2.2.2), (10, .po 2 0), (11, .i v8.2), (12, .po 3 0), (13, .i v9.2), (61, .bool ((v7.2.2.2 != 0) || (!v7.2.2.1)))]⟩, [.lv 2 [.i a0.N, .ro (a0.Most.map (cL cI_i64))], .lv 2 [.i v7.1.N, .ro (v7.1.Most.map (cL cI_i64))], .lv 2 [.i v8.1.N, .ro (v8.1.Most.map (cL cI_i64))], .lv 2 [.i v9.1.N, .ro (v9.1.Most.map (cL cI_i64))]]⟩ ?_ ?_
      · generalize e_g10 : ((v7.2.2.2 != 0) || (!v7.2.2.1)) = g10
        refine W_gh ?_
        refine W_reg ?_
        refine O_p 3 ?_
        refine O_fork (n := 58) (v7.2.2.2 != 0) (by kernel_rfl) (fun c11 => ?_) (fun c11 => ?_)
        · skip
          refine O_p 3 ?_
          refine O_nil ?_
          refine Gh_e ⟨⟨192, [(2, .po 0 0), (5, .i (addI .i64 1 v6)), (6, .po 1 0), (9, .i v7.2.2.2), (10, .po 2 0), (11, .i v8.2), (12, .po 3 0), (13, .i v9.2), (61, .bool true)]⟩, [.lv 2 [.i a0.N, .ro (a0.Most.map (cL cI_i64))], .lv 2 [.i v7.1.N, .ro (v7.1.Most.map (cL cI_i64))], .lv 2 [.i v8.1.N, .ro (v8.1.Most.map (cL cI_i64))], .lv 2 [.i v9.1.N, .ro (v9.1.Most.map (cL cI_i64))]]⟩ ?_
          have q := e_g10; simp only [c4, c11, cond_true, cond_false, Bool.true_and, Bool.false_and, Bool.true_or, Bool.false_or] at q; subst q
          show _ = _
          kernel_rfl
        · skip
          refine O_p 3 ?_
          refine O_nil ?_
          refine Gh_e ⟨⟨192, [(2, .po 0 0), (5, .i (addI .i64 1 v6)), (6, .po 1 0), (9, .i v7.2.2.2), (10, .po 2 0), (11, .i v8.2), (12, .po 3 0), (13, .i v9.2), (61, .bool (!v7.2.2.1))]⟩, [.lv 2 [.i a0.N, .ro (a0.Most.map (cL cI_i64))], .lv 2 [.i v7.1.N, .ro (v7.1.Most.map (cL cI_i64))], .lv 2 [.i v8.1.N, .ro (v8.1.Most.map (cL cI_i64))], .lv 2 [.i v9.1.N, .ro (v9.1.Most.map (cL cI_i64))]]⟩ ?_
          have q := e_g10; simp only [c4, c11, cond_true, cond_false, Bool.true_and, Bool.false_and, Bool.true_or, Bool.false_or] at q; subst q
          show _ = _
          kernel_rfl
      · refine W_gh ?_
        refine W_cond (c := ((v7.2.2.2 != 0) || (!v7.2.2.1))) (by kernel_rfl) (fun c12 => ?_) (fun c12 => ?_)
        · replace h := fork_t c12 h
          refine W_seq ?_
          refine W_joinS (fun v : Bool => ⟨⟨192, [(2, .po 0 0), (4, .bool v), (5, .i (addI .i64 1 v6)), (6, .po 1 0), (10, .po 2 0), (12, .po 3 0), (61, .bool ((v7.2.2.2 != 0) || (!v7.2.2.1)))]⟩, [.lv 2 [.i a0.N, .ro (a0.Most.map (cL cI_i64))], .lv 2 [.i v7.1.N, .ro (v7.1.Most.map (cL cI_i64))], .lv 2 [.i v8.1.N, .ro (v8.1.Most.map (cL cI_i64))], .lv 2 [.i v9.1.N, .ro (v9.1.Most.map (cL cI_i64))]]⟩) h (fun w h => ?_) (fun w13 e_w13 h => ?_)
          · refine W_gh ?_
            refine W_reg ?_
            refine O_p 3 ?_
            refine O_fork (n := 64) (v7.2.2.2 == 0) (by kernel_rfl) (fun c14 => ?_) (fun c14 => ?_)
            · replace h := fork_t c14 h
              refine O_p 4 ?_
              refine O_fork (n := 68) (v8.2 == 16) (by kernel_rfl) (fun c15 => ?_) (fun c15 => ?_)
              · replace h := fork_t c15 h
                refine O_p 4 ?_
                refine O_fork (n := 72) (v9.2 == 16) (by kernel_rfl) (fun c16 => ?_) (fun c16 => ?_)
                · replace h := fork_t c16 h
                  refine O_call (fun v => .bool v) h (.inr rfl) (ys := []) (fun _ e => p13  _ e) (by kernel_rfl) (by kernel_rfl) rfl (fun v17 e_v17 h => ?_)
                  refine O_p 2 ?_
                  refine O_nil ?_
                  refine Gh_e ⟨⟨192, [(2, .po 0 0), (4, .bool v17), (5, .i (addI .i64 1 v6)), (6, .po 1 0), (10, .po 2 0), (12, .po 3 0), (61, .bool ((v7.2.2.2 != 0) || (!v7.2.2.1)))]⟩, [.lv 2 [.i a0.N, .ro (a0.Most.map (cL cI_i64))], .lv 2 [.i v7.1.N, .ro (v7.1.Most.map (cL cI_i64))], .lv 2 [.i v8.1.N, .ro (v8.1.Most.map (cL cI_i64))], .lv 2 [.i v9.1.N, .ro (v9.1.Most.map (cL cI_i64))]]⟩ ?_
                  replace h := Option.some.inj h; subst h
                  show _ = _
                  kernel_rfl
                · replace h := fork_f c16 h
                  refine O_p 3 ?_
                  refine O_nil ?_
                  refine Gh_e ⟨⟨192, [(2, .po 0 0), (4, .bool false), (5, .i (addI .i64 1 v6)), (6, .po 1 0), (10, .po 2 0), (12, .po 3 0), (61, .bool ((v7.2.2.2 != 0) || (!v7.2.2.1)))]⟩, [.lv 2 [.i a0.N, .ro (a0.Most.map (cL cI_i64))], .lv 2 [.i v7.1.N, .ro (v7.1.Most.map (cL cI_i64))], .lv 2 [.i v8.1.N, .ro (v8.1.Most.map (cL cI_i64))], .lv 2 [.i v9.1.N, .ro (v9.1.Most.map (cL cI_i64))]]⟩ ?_
                  replace h := Option.some.inj h; subst h
                  show _ = _
                  kernel_rfl
              · replace h := fork_f c15 h
                refine O_p 7 ?_
                refine O_nil ?_
                refine Gh_e ⟨⟨192, [(2, .po 0 0), (4, .bool false), (5, .i (addI .i64 1 v6)), (6, .po 1 0), (10, .po 2 0), (12, .po 3 0), (61, .bool ((v7.2.2.2 != 0) || (!v7.2.2.1)))]⟩, [.lv 2 [.i a0.N, .ro (a0.Most.map (cL cI_i64))], .lv 2 [.i v7.1.N, .ro (v7.1.Most.map (cL cI_i64))], .lv 2 [.i v8.1.N, .ro (v8.1.Most.map (cL cI_i64))], .lv 2 [.i v9.1.N, .ro (v9.1.Most.map (cL cI_i64))]]⟩ ?_
                replace h := Option.some.inj h; subst h
                show _ = _
                kernel_rfl
            · replace h := fork_f c14 h
              refine O_p 11 ?_
              refine O_nil ?_
              refine Gh_e ⟨⟨192, [(2, .po 0 0), (4, .bool false), (5, .i (addI .i64 1 v6)), (6, .po 1 0), (10, .po 2 0), (12, .po 3 0), (61, .bool ((v7.2.2.2 != 0) || (!v7.2.2.1)))]⟩, [.lv 2 [.i a0.N, .ro (a0.Most.map (cL cI_i64))], .lv 2 [.i v7.1.N, .ro (v7.1.Most.map (cL cI_i64))], .lv 2 [.i v8.1.N, .ro (v8.1.Most.map (cL cI_i64))], .lv 2 [.i v9.1.N, .ro (v9.1.Most.map (cL cI_i64))]]⟩ ?_
              replace h := Option.some.inj h; subst h
              show _ = _
              kernel_rfl
          · refine W_ret ?_
            replace h := Option.some.inj h; subst h
            exact Fin_free (l := [.bool w13]) (by kernel_rfl) (by kernel_rfl) rfl
        · replace h := fork_f c12 h
          refine W_skip ?_
          refine Gh_e ⟨⟨192, [(2, .po 0 0), (5, .i (addI .i64 1 v6)), (6, .po 1 0), (10, .po 2 0), (11, .i v8.2), (12, .po 3 0), (13, .i v9.2)]⟩, [.lv 2 [.i a0.N, .ro (a0.Most.map (cL cI_i64))], .lv 2 [.i v7.1.N, .ro (v7.1.Most.map (cL cI_i64))], .lv 2 [.i v8.1.N, .ro (v8.1.Most.map (cL cI_i64))], .lv 2 [.i v9.1.N, .ro (v9.1.Most.map (cL cI_i64))]]⟩ ?_
          refine W_seq ?_
          refine W_seq ?_
          refine W_joinS (fun v : Bool => ⟨⟨192, [(2, .po 0 0), (5, .i (addI .i64 1 v6)), (6, .po 1 0), (10, .po 2 0), (12, .po 3 0), (105, .bool v)]⟩, [.lv 2 [.i a0.N, .ro (a0.Most.map (cL cI_i64))], .lv 2 [.i v7.1.N, .ro (v7.1.Most.map (cL cI_i64))], .lv 2 [.i v8.1.N, .ro (v8.1.Most.map (cL cI_i64))], .lv 2 [.i v9.1.N, .ro (v9.1.Most.map (cL cI_i64))]]⟩) h (fun w h => ?_) (fun w18 e_w18 h => ?_)
          · refine W_gh ?_
            refine W_reg ?_
            refine O_p 3 ?_
            refine O_fork (n := 77) (v8.2 != 0) (by kernel_rfl) (fun c19 => ?_) (fun c19 => ?_)
            · replace h := fork_t c19 h
              refine O_p 28 ?_
              refine O_nil ?_
              refine Gh_e ⟨⟨192, [(2, .po 0 0), (5, .i (addI .i64 1 v6)), (6, .po 1 0), (10, .po 2 0), (12, .po 3 0), (105, .bool true)]⟩, [.lv 2 [.i a0.N, .ro (a0.Most.map (cL cI_i64))], .lv 2 [.i v7.1.N, .ro (v7.1.Most.map (cL cI_i64))], .lv 2 [.i v8.1.N, .ro (v8.1.Most.map (cL cI_i64))], .lv 2 [.i v9.1.N, .ro (v9.1.Most.map (cL cI_i64))]]⟩ ?_
              replace h := Option.some.inj h; subst h
              show _ = _
              kernel_rfl
            · replace h := fork_f c19 h
              refine O_p 4 ?_
              refine O_fork (n := 81) (v9.2 != 0) (by kernel_rfl) (fun c20 => ?_) (fun c20 => ?_)
              · replace h := fork_t c20 h
                refine O_p 24 ?_
                refine O_nil ?_
                refine Gh_e ⟨⟨192, [(2, .po 0 0), (5, .i (addI .i64 1 v6)), (6, .po 1 0), (10, .po 2 0), (12, .po 3 0), (105, .bool true)]⟩, [.lv 2 [.i a0.N, .ro (a0.Most.map (cL cI_i64))], .lv 2 [.i v7.1.N, .ro (v7.1.Most.map (cL cI_i64))], .lv 2 [.i v8.1.N, .ro (v8.1.Most.map (cL cI_i64))], .lv 2 [.i v9.1.N, .ro (v9.1.Most.map (cL cI_i64))]]⟩ ?_
                replace h := Option.some.inj h; subst h
                show _ = _
                kernel_rfl
              · replace h := fork_f c20 h
                refine O_p 8 ?_
                refine O_fork (n := 89) (v9.1.N != (subI .i64 a0.N 1)) (by kernel_rfl) (fun c21 => ?_) (fun c21 => ?_)
                · replace h := fork_t c21 h
                  refine O_p 16 ?_
                  refine O_nil ?_
                  refine Gh_e ⟨⟨192, [(2, .po 0 0), (5, .i (addI .i64 1 v6)), (6, .po 1 0), (10, .po 2 0), (12, .po 3 0), (105, .bool true)]⟩, [.lv 2 [.i a0.N, .ro (a0.Most.map (cL cI_i64))], .lv 2 [.i v7.1.N, .ro (v7.1.Most.map (cL cI_i64))], .lv 2 [.i v8.1.N, .ro (v8.1.Most.map (cL cI_i64))], .lv 2 [.i v9.1.N, .ro (v9.1.Most.map (cL cI_i64))]]⟩ ?_
                  replace h := Option.some.inj h; subst h
                  show _ = _
                  kernel_rfl
                · replace h := fork_f c21 h
                  refine O_p 1 ?_
                  refine O_call (fun v => .i v) h (.inr rfl) (ys := [.agg (cSBounds v9.1)]) (fun _ e => p28 _ _ e) (by kernel_rfl) (by kernel_rfl) (bels_cons (okSBounds.bel _) rfl) (fun v22 e_v22 h => ?_)
                  refine O_p 3 ?_
                  refine O_fork (n := 94) (v22 != 0) (by kernel_rfl) (fun c23 => ?_) (fun c23 => ?_)
                  · replace h := fork_t c23 h
                    refine O_p 11 ?_
                    refine O_nil ?_
                    refine Gh_e ⟨⟨192, [(2, .po 0 0), (5, .i (addI .i64 1 v6)), (6, .po 1 0), (10, .po 2 0), (12, .po 3 0), (105, .bool true)]⟩, [.lv 2 [.i a0.N, .ro (a0.Most.map (cL cI_i64))], .lv 2 [.i v7.1.N, .ro (v7.1.Most.map (cL cI_i64))], .lv 2 [.i v8.1.N, .ro (v8.1.Most.map (cL cI_i64))], .lv 2 [.i v9.1.N, .ro (v9.1.Most.map (cL cI_i64))]]⟩ ?_
                    replace h := Option.some.inj h; subst h
                    show _ = _
                    kernel_rfl
                  · replace h := fork_f c23 h
                    refine O_p 1 ?_
                    refine O_call (fun v => .i v) h (.inr rfl) (ys := [.agg (cSBounds v7.1)]) (fun _ e => p28 _ _ e) (by kernel_rfl) (by kernel_rfl) (bels_cons (okSBounds.bel _) rfl) (fun v24 e_v24 h => ?_)
                    refine O_p 3 ?_
                    refine O_fork (n := 99) (v24 != 0) (by kernel_rfl) (fun c25 => ?_) (fun c25 => ?_)
                    · replace h := fork_t c25 h
                      refine O_p 6 ?_
                      refine O_nil ?_
                      refine Gh_e ⟨⟨192, [(2, .po 0 0), (5, .i (addI .i64 1 v6)), (6, .po 1 0), (10, .po 2 0), (12, .po 3 0), (105, .bool true)]⟩, [.lv 2 [.i a0.N, .ro (a0.Most.map (cL cI_i64))], .lv 2 [.i v7.1.N, .ro (v7.1.Most.map (cL cI_i64))], .lv 2 [.i v8.1.N, .ro (v8.1.Most.map (cL cI_i64))], .lv 2 [.i v9.1.N, .ro (v9.1.Most.map (cL cI_i64))]]⟩ ?_
                      replace h := Option.some.inj h; subst h
                      show _ = _
                      kernel_rfl
                    · replace h := fork_f c25 h
                      refine O_p 6 ?_
                      refine O_nil ?_
                      refine Gh_e ⟨⟨192, [(2, .po 0 0), (5, .i (addI .i64 1 v6)), (6, .po 1 0), (10, .po 2 0), (12, .po 3 0), (105, .bool (v7.1.N != a0.N))]⟩, [.lv 2 [.i a0.N, .ro (a0.Most.map (cL cI_i64))], .lv 2 [.i v7.1.N, .ro (v7.1.Most.map (cL cI_i64))], .lv 2 [.i v8.1.N, .ro (v8.1.Most.map (cL cI_i64))], .lv 2 [.i v9.1.N, .ro (v9.1.Most.map (cL cI_i64))]]⟩ ?_
                      replace h := Option.some.inj h; subst h
                      show _ = _
                      kernel_rfl
          · refine W_gh ?_
            refine W_cond (c := w18) (by kernel_rfl) (fun c26 => ?_) (fun c26 => ?_)
            · replace h := fork_t c26 h
              refine W_seq ?_
              refine W_reg ?_
              refine O_p 1 ?_
              refine O_nil ?_
              refine W_ret ?_
              replace h := Option.some.inj h; subst h
              exact Fin_free (l := [.bool false]) (by kernel_rfl) (by kernel_rfl) rfl
            · replace h := fork_f c26 h
              refine W_skip ?_
              refine Gh_e ⟨⟨192, [(2, .po 0 0), (5, .i (addI .i64 1 v6)), (6, .po 1 0), (10, .po 2 0), (12, .po 3 0)]⟩, [.lv 2 [.i a0.N, .ro (a0.Most.map (cL cI_i64))], .lv 2 [.i v7.1.N, .ro (v7.1.Most.map (cL cI_i64))], .lv 2 [.i v8.1.N, .ro (v8.1.Most.map (cL cI_i64))], .lv 2 [.i v9.1.N, .ro (v9.1.Most.map (cL cI_i64))]]⟩ ?_
              refine W_seq ?_
              refine W_seq ?_
              refine W_reg ?_
              refine O_p 1 ?_
              refine O_nil ?_
              refine W_loop (fun s27 : Int => ⟨⟨192, [(2, .po 0 0), (5, .i (addI .i64 1 v6)), (6, .po 1 0), (10, .po 2 0), (12, .po 3 0), (14, .i s27)]⟩, [.lv 2 [.i a0.N, .ro (a0.Most.map (cL cI_i64))], .lv 2 [.i v7.1.N, .ro (v7.1.Most.map (cL cI_i64))], .lv 2 [.i v8.1.N, .ro (v8.1.Most.map (cL cI_i64))], .lv 2 [.i v9.1.N, .ro (v9.1.Most.map (cL cI_i64))]]⟩) (fun w28 : Unit => ⟨⟨192, []⟩, [.lv 2 [.i a0.N, .ro (a0.Most.map (cL cI_i64))], .lv 2 [.i v7.1.N, .ro (v7.1.Most.map (cL cI_i64))], .lv 2 [.i v8.1.N, .ro (v8.1.Most.map (cL cI_i64))], .lv 2 [.i v9.1.N, .ro (v9.1.Most.map (cL cI_i64))]]⟩) h (by kernel_rfl) (fun s27 c h => ?_) (fun w28 h => ?_)
              · refine W_gh ?_
                refine W_seq ?_
                refine W_seq ?_
                refine W_gh ?_
                refine W_reg ?_
                refine O_p 4 ?_
                refine O_nil ?_
                refine Gh_e ⟨⟨192, [(2, .po 0 0), (5, .i (addI .i64 1 v6)), (6, .po 1 0), (10, .po 2 0), (12, .po 3 0), (14, .i s27), (109, .bool (decide (s27 ≤ a0.N)))]⟩, [.lv 2 [.i a0.N, .ro (a0.Most.map (cL cI_i64))], .lv 2 [.i v7.1.N, .ro (v7.1.Most.map (cL cI_i64))], .lv 2 [.i v8.1.N, .ro (v8.1.Most.map (cL cI_i64))], .lv 2 [.i v9.1.N, .ro (v9.1.Most.map (cL cI_i64))]]⟩ ?_
                refine W_gh ?_
                refine W_cond (c := (decide (s27 ≤ a0.N))) (by kernel_rfl) (fun c29 => ?_) (fun c29 => ?_)
                · replace h := fork_t c29 h
                  refine W_skip ?_
                  refine Gh_e ⟨⟨192, [(2, .po 0 0), (5, .i (addI .i64 1 v6)), (6, .po 1 0), (10, .po 2 0), (12, .po 3 0), (14, .i s27)]⟩, [.lv 2 [.i a0.N, .ro (a0.Most.map (cL cI_i64))], .lv 2 [.i v7.1.N, .ro (v7.1.Most.map (cL cI_i64))], .lv 2 [.i v8.1.N, .ro (v8.1.Most.map (cL cI_i64))], .lv 2 [.i v9.1.N, .ro (v9.1.Most.map (cL cI_i64))]]⟩ ?_
                  refine W_seq ?_
                  refine W_join (fun v : Unit => ⟨⟨192, [(2, .po 0 0), (5, .i (addI .i64 1 v6)), (6, .po 1 0), (10, .po 2 0), (12, .po 3 0), (14, .i s27)]⟩, [.lv 2 [.i a0.N, .ro (a0.Most.map (cL cI_i64))], .lv 2 [.i v7.1.N, .ro (v7.1.Most.map (cL cI_i64))], .lv 2 [.i v8.1.N, .ro (v8.1.Most.map (cL cI_i64))], .lv 2 [.i v9.1.N, .ro (v9.1.Most.map (cL cI_i64))]]⟩) h (fun w h h0 => ?_) (fun w30 h => ?_)
                  · refine W_gh ?_
                    refine W_block ?_
                    refine W_seq ?_
                    refine W_gh ?_
                    refine W_reg ?_
                    refine O_p 2 ?_
                    refine O_call (fun v => .tup [.i v.1, .i v.2.1, .i v.2.2]) h (.inr rfl) (ys := [.agg (cSBounds v8.1), .i s27]) (fun _ e => p18 _ _ _ e) (by kernel_rfl) (by kernel_rfl) (bels_cons (okSBounds.bel _) (bels_cons rfl rfl)) (fun v31 e_v31 h => ?_)
                    refine O_p 7 ?_
                    refine O_nil ?_
                    refine Gh_e ⟨⟨192, [(2, .po 0 0), (5, .i (addI .i64 1 v6)), (6, .po 1 0), (10, .po 2 0), (12, .po 3 0), (14, .i s27), (15, .i v31.1), (16, .i v31.2.1), (17, .i v31.2.2)]⟩, [.lv 2 [.i a0.N, .ro (a0.Most.map (cL cI_i64))], .lv 2 [.i v7.1.N, .ro (v7.1.Most.map (cL cI_i64))], .lv 2 [.i v8.1.N, .ro (v8.1.Most.map (cL cI_i64))], .lv 2 [.i v9.1.N, .ro (v9.1.Most.map (cL cI_i64))]]⟩ ?_
                    refine W_seq ?_
                    refine W_gh ?_
                    refine W_reg ?_
                    refine O_p 2 ?_
                    refine O_call (fun v => .tup [.i v.1, .i v.2.1, .i v.2.2]) h (.inr rfl) (ys := [.agg (cSBounds a0), .i s27]) (fun _ e => p18 _ _ _ e) (by kernel_rfl) (by kernel_rfl) (bels_cons (okSBounds.bel _) (bels_cons rfl rfl)) (fun v32 e_v32 h => ?_)
                    refine O_p 7 ?_
                    refine O_nil ?_
                    refine Gh_e ⟨⟨192, [(2, .po 0 0), (5, .i (addI .i64 1 v6)), (6, .po 1 0), (10, .po 2 0), (12, .po 3 0), (14, .i s27), (15, .i v31.1), (16, .i v31.2.1), (17, .i v31.2.2), (18, .i v32.1), (19, .i v32.2.1), (20, .i v32.2.2)]⟩, [.lv 2 [.i a0.N, .ro (a0.Most.map (cL cI_i64))], .lv 2 [.i v7.1.N, .ro (v7.1.Most.map (cL cI_i64))], .lv 2 [.i v8.1.N, .ro (v8.1.Most.map (cL cI_i64))], .lv 2 [.i v9.1.N, .ro (v9.1.Most.map (cL cI_i64))]]⟩ ?_
                    refine W_seq ?_
                    refine W_seq ?_
                    refine W_cut ⟨⟨192, [(2, .po 0 0), (5, .i (addI .i64 1 v6)), (6, .po 1 0), (10, .po 2 0), (12, .po 3 0), (14, .i s27), (15, .i v31.1), (16, .i v31.2.1), (18, .i v32.1), (19, .i v32.2.1), (131, .bool ((v31.2.2 != 0) || (v32.2.2 != 0)))]⟩, [.lv 2 [.i a0.N, .ro (a0.Most.map (cL cI_i64))], .lv 2 [.i v7.1.N, .ro (v7.1.Most.map (cL cI_i64))], .lv 2 [.i v8.1.N, .ro (v8.1.Most.map (cL cI_i64))], .lv 2 [.i v9.1.N, .ro (v9.1.Most.map (cL cI_i64))]]⟩ ?_ ?_
                    · generalize e_g33 : ((v31.2.2 != 0) || (v32.2.2 != 0)) = g33
                      refine W_gh ?_
                      refine W_reg ?_
                      refine O_p 3 ?_
                      refine O_fork (n := 128) (v31.2.2 != 0) (by kernel_rfl) (fun c34 => ?_) (fun c34 => ?_)
                      · skip
                        refine O_p 3 ?_
                        refine O_nil ?_
                        refine Gh_e ⟨⟨192, [(2, .po 0 0), (5, .i (addI .i64 1 v6)), (6, .po 1 0), (10, .po 2 0), (12, .po 3 0), (14, .i s27), (15, .i v31.1), (16, .i v31.2.1), (18, .i v32.1), (19, .i v32.2.1), (131, .bool true)]⟩, [.lv 2 [.i a0.N, .ro (a0.Most.map (cL cI_i64))], .lv 2 [.i v7.1.N, .ro (v7.1.Most.map (cL cI_i64))], .lv 2 [.i v8.1.N, .ro (v8.1.Most.map (cL cI_i64))], .lv 2 [.i v9.1.N, .ro (v9.1.Most.map (cL cI_i64))]]⟩ ?_
                        have q := e_g33; simp only [c4, c12, c26, c29, c34, cond_true, cond_false, Bool.true_and, Bool.false_and, Bool.true_or, Bool.false_or] at q; subst q
                        show _ = _
                        kernel_rfl
                      · skip
                        refine O_p 3 ?_
                        refine O_nil ?_
                        refine Gh_e ⟨⟨192, [(2, .po 0 0), (5, .i (addI .i64 1 v6)), (6, .po 1 0), (10, .po 2 0), (12, .po 3 0), (14, .i s27), (15, .i v31.1), (16, .i v31.2.1), (18, .i v32.1), (19, .i v32.2.1), (131, .bool (v32.2.2 != 0))]⟩, [.lv 2 [.i a0.N, .ro (a0.Most.map (cL cI_i64))], .lv 2 [.i v7.1.N, .ro (v7.1.Most.map (cL cI_i64))], .lv 2 [.i v8.1.N, .ro (v8.1.Most.map (cL cI_i64))], .lv 2 [.i v9.1.N, .ro (v9.1.Most.map (cL cI_i64))]]⟩ ?_
                        have q := e_g33; simp only [c4, c12, c26, c29, c34, cond_true, cond_false, Bool.true_and, Bool.false_and, Bool.true_or, Bool.false_or] at q; subst q
                        show _ = _
                        kernel_rfl
                    · refine W_gh ?_
                      refine W_cond (c := ((v31.2.2 != 0) || (v32.2.2 != 0))) (by kernel_rfl) (fun c35 => ?_) (fun c35 => ?_)
                      · replace h := fork_t c35 h
                        refine W_seq ?_
                        refine W_reg ?_
                        refine O_p 1 ?_
                        refine O_nil ?_
                        refine W_ret ?_
                        replace h := Option.some.inj h; subst h
                        replace h : some _ = some _ := h0
                        replace h := Option.some.inj h; subst h
                        refine ⟨_, rfl, fun h => ?_⟩
                        replace h := Option.some.inj h; subst h
                        exact Fin_free (l := [.bool false]) (by kernel_rfl) (by kernel_rfl) rfl
                      · replace h := fork_f c35 h
                        refine W_skip ?_
                        refine Gh_e ⟨⟨192, [(2, .po 0 0), (5, .i (addI .i64 1 v6)), (6, .po 1 0), (10, .po 2 0), (12, .po 3 0), (14, .i s27), (15, .i v31.1), (16, .i v31.2.1), (18, .i v32.1), (19, .i v32.2.1)]⟩, [.lv 2 [.i a0.N, .ro (a0.Most.map (cL cI_i64))], .lv 2 [.i v7.1.N, .ro (v7.1.Most.map (cL cI_i64))], .lv 2 [.i v8.1.N, .ro (v8.1.Most.map (cL cI_i64))], .lv 2 [.i v9.1.N, .ro (v9.1.Most.map (cL cI_i64))]]⟩ ?_
                        refine W_seq ?_
                        refine W_seq ?_
                        refine W_gh ?_
                        refine W_reg ?_
                        refine O_p 3 ?_
                        refine O_nil ?_
                        refine Gh_e ⟨⟨192, [(2, .po 0 0), (5, .i (addI .i64 1 v6)), (6, .po 1 0), (10, .po 2 0), (12, .po 3 0), (14, .i s27), (15, .i v31.1), (16, .i v31.2.1), (18, .i v32.1), (19, .i v32.2.1), (134, .bool (s27 == (addI .i64 1 v6)))]⟩, [.lv 2 [.i a0.N, .ro (a0.Most.map (cL cI_i64))], .lv 2 [.i v7.1.N, .ro (v7.1.Most.map (cL cI_i64))], .lv 2 [.i v8.1.N, .ro (v8.1.Most.map (cL cI_i64))], .lv 2 [.i v9.1.N, .ro (v9.1.Most.map (cL cI_i64))]]⟩ ?_
                        refine W_gh ?_
                        refine W_cond (c := (s27 == (addI .i64 1 v6))) (by kernel_rfl) (fun c36 => ?_) (fun c36 => ?_)
                        · replace h := fork_t c36 h
                          refine W_seq ?_
                          refine W_seq ?_
                          refine W_cut ⟨⟨192, [(2, .po 0 0), (5, .i (addI .i64 1 v6)), (6, .po 1 0), (10, .po 2 0), (12, .po 3 0), (14, .i s27), (18, .i v32.1), (19, .i v32.2.1), (134, .bool (s27 == (addI .i64 1 v6))), (140, .bool ((v31.1 != (-1099511627776)) || (v31.2.1 != (-1099511627776))))]⟩, [.lv 2 [.i a0.N, .ro (a0.Most.map (cL cI_i64))], .lv 2 [.i v7.1.N, .ro (v7.1.Most.map (cL cI_i64))], .lv 2 [.i v8.1.N, .ro (v8.1.Most.map (cL cI_i64))], .lv 2 [.i v9.1.N, .ro (v9.1.Most.map (cL cI_i64))]]⟩ ?_ ?_
                          · generalize e_g37 : ((v31.1 != (-1099511627776)) || (v31.2.1 != (-1099511627776))) = g37
                            refine W_gh ?_
                            refine W_reg ?_
                            refine O_p 3 ?_
                            refine O_fork (n := 137) (v31.1 != (-1099511627776)) (by kernel_rfl) (fun c38 => ?_) (fun c38 => ?_)
                            · skip
                              refine O_p 3 ?_
                              refine O_nil ?_
                              refine Gh_e ⟨⟨192, [(2, .po 0 0), (5, .i (addI .i64 1 v6)), (6, .po 1 0), (10, .po 2 0), (12, .po 3 0), (14, .i s27), (18, .i v32.1), (19, .i v32.2.1), (134, .bool (s27 == (addI .i64 1 v6))), (140, .bool true)]⟩, [.lv 2 [.i a0.N, .ro (a0.Most.map (cL cI_i64))], .lv 2 [.i v7.1.N, .ro (v7.1.Most.map (cL cI_i64))], .lv 2 [.i v8.1.N, .ro (v8.1.Most.map (cL cI_i64))], .lv 2 [.i v9.1.N, .ro (v9.1.Most.map (cL cI_i64))]]⟩ ?_
                              have q := e_g37; simp only [c4, c12, c26, c29, c35, c36, c38, cond_true, cond_false, Bool.true_and, Bool.false_and, Bool.true_or, Bool.false_or] at q; subst q
                              show _ = _
                              kernel_rfl
                            · skip
                              refine O_p 3 ?_
                              refine O_nil ?_
                              refine Gh_e ⟨⟨192, [(2, .po 0 0), (5, .i (addI .i64 1 v6)), (6, .po 1 0), (10, .po 2 0), (12, .po 3 0), (14, .i s27), (18, .i v32.1), (19, .i v32.2.1), (134, .bool (s27 == (addI .i64 1 v6))), (140, .bool (v31.2.1 != (-1099511627776)))]⟩, [.lv 2 [.i a0.N, .ro (a0.Most.map (cL cI_i64))], .lv 2 [.i v7.1.N, .ro (v7.1.Most.map (cL cI_i64))], .lv 2 [.i v8.1.N, .ro (v8.1.Most.map (cL cI_i64))], .lv 2 [.i v9.1.N, .ro (v9.1.Most.map (cL cI_i64))]]⟩ ?_
                              have q := e_g37; simp only [c4, c12, c26, c29, c35, c36, c38, cond_true, cond_false, Bool.true_and, Bool.false_and, Bool.true_or, Bool.false_or] at q; subst q
                              show _ = _
                              kernel_rfl
                          · refine W_gh ?_
                            refine W_cond (c := ((v31.1 != (-1099511627776)) || (v31.2.1 != (-1099511627776)))) (by kernel_rfl) (fun c39 => ?_) (fun c39 => ?_)
                            · replace h := fork_t c39 h
                              refine W_seq ?_
                              refine W_reg ?_
                              refine O_p 1 ?_
                              refine O_nil ?_
                              refine W_ret ?_
                              replace h := Option.some.inj h; subst h
                              replace h : some _ = some _ := h0
                              replace h := Option.some.inj h; subst h
                              refine ⟨_, rfl, fun h => ?_⟩
                              replace h := Option.some.inj h; subst h
                              exact Fin_free (l := [.bool false]) (by kernel_rfl) (by kernel_rfl) rfl
                            · replace h := fork_f c39 h
                              refine W_skip ?_
                              refine Gh_e ⟨⟨192, [(2, .po 0 0), (5, .i (addI .i64 1 v6)), (6, .po 1 0), (10, .po 2 0), (12, .po 3 0), (14, .i s27), (18, .i v32.1), (19, .i v32.2.1), (134, .bool (s27 == (addI .i64 1 v6)))]⟩, [.lv 2 [.i a0.N, .ro (a0.Most.map (cL cI_i64))], .lv 2 [.i v7.1.N, .ro (v7.1.Most.map (cL cI_i64))], .lv 2 [.i v8.1.N, .ro (v8.1.Most.map (cL cI_i64))], .lv 2 [.i v9.1.N, .ro (v9.1.Most.map (cL cI_i64))]]⟩ ?_
                              refine W_exit ?_
                              refine X_hit ?_
                              refine Gh_e ⟨⟨192, [(2, .po 0 0), (5, .i (addI .i64 1 v6)), (6, .po 1 0), (10, .po 2 0), (12, .po 3 0), (14, .i s27)]⟩, [.lv 2 [.i a0.N, .ro (a0.Most.map (cL cI_i64))], .lv 2 [.i v7.1.N, .ro (v7.1.Most.map (cL cI_i64))], .lv 2 [.i v8.1.N, .ro (v8.1.Most.map (cL cI_i64))], .lv 2 [.i v9.1.N, .ro (v9.1.Most.map (cL cI_i64))]]⟩ ?_
                              replace h := Option.some.inj h; subst h
                              exact ⟨_, rfl, by kernel_rfl⟩
                        · replace h := fork_f c36 h
                          refine W_skip ?_
                          refine Gh_e ⟨⟨192, [(2, .po 0 0), (5, .i (addI .i64 1 v6)), (6, .po 1 0), (10, .po 2 0), (12, .po 3 0), (14, .i s27), (15, .i v31.1), (16, .i v31.2.1), (18, .i v32.1), (19, .i v32.2.1)]⟩, [.lv 2 [.i a0.N, .ro (a0.Most.map (cL cI_i64))], .lv 2 [.i v7.1.N, .ro (v7.1.Most.map (cL cI_i64))], .lv 2 [.i v8.1.N, .ro (v8.1.Most.map (cL cI_i64))], .lv 2 [.i v9.1.N, .ro (v9.1.Most.map (cL cI_i64))]]⟩ ?_
                          refine W_seq ?_
                          refine W_gh ?_
                          refine W_reg ?_
                          refine O_p 2 ?_
                          refine O_nil ?_
                          refine Gh_e ⟨⟨192, [(2, .po 0 0), (5, .i (addI .i64 1 v6)), (6, .po 1 0), (10, .po 2 0), (12, .po 3 0), (14, .i s27), (15, .i v31.1), (16, .i v31.2.1), (18, .i v32.1), (19, .i v32.2.1), (21, .i s27)]⟩, [.lv 2 [.i a0.N, .ro (a0.Most.map (cL cI_i64))], .lv 2 [.i v7.1.N, .ro (v7.1.Most.map (cL cI_i64))], .lv 2 [.i v8.1.N, .ro (v8.1.Most.map (cL cI_i64))], .lv 2 [.i v9.1.N, .ro (v9.1.Most.map (cL cI_i64))]]⟩ ?_
                          refine W_seq ?_
                          refine W_seq ?_
                          refine W_gh ?_
                          refine W_reg ?_
                          refine O_p 3 ?_
                          refine O_nil ?_
                          refine Gh_e ⟨⟨192, [(2, .po 0 0), (5, .i (addI .i64 1 v6)), (6, .po 1 0), (10, .po 2 0), (12, .po 3 0), (14, .i s27), (15, .i v31.1), (16, .i v31.2.1), (18, .i v32.1), (19, .i v32.2.1), (21, .i s27), (144, .bool (decide (s27 > (addI .i64 1 v6))))]⟩, [.lv 2 [.i a0.N, .ro (a0.Most.map (cL cI_i64))], .lv 2 [.i v7.1.N, .ro (v7.1.Most.map (cL cI_i64))], .lv 2 [.i v8.1.N, .ro (v8.1.Most.map (cL cI_i64))], .lv 2 [.i v9.1.N, .ro (v9.1.Most.map (cL cI_i64))]]⟩ ?_
                          refine W_cut ⟨⟨192, [(2, .po 0 0), (5, .i (addI .i64 1 v6)), (6, .po 1 0), (10, .po 2 0), (12, .po 3 0), (14, .i s27), (15, .i v31.1), (16, .i v31.2.1), (18, .i v32.1), (19, .i v32.2.1), (21, .i (bif (decide (s27 > (addI .i64 1 v6))) then (subI .i64 s27 1) else s27))]⟩, [.lv 2 [.i a0.N, .ro (a0.Most.map (cL cI_i64))], .lv 2 [.i v7.1.N, .ro (v7.1.Most.map (cL cI_i64))], .lv 2 [.i v8.1.N, .ro (v8.1.Most.map (cL cI_i64))], .lv 2 [.i v9.1.N, .ro (v9.1.Most.map (cL cI_i64))]]⟩ ?_ ?_
                          · generalize e_g40 : (bif (decide (s27 > (addI .i64 1 v6))) then (subI .i64 s27 1) else s27) = g40
                            refine W_gh ?_
                            refine W_cond (c := (decide (s27 > (addI .i64 1 v6)))) (by kernel_rfl) (fun c41 => ?_) (fun c41 => ?_)
                            · skip
                              refine W_gh ?_
                              refine W_reg ?_
                              refine O_p 3 ?_
                              refine O_nil ?_
                              refine Gh_e ⟨⟨192, [(2, .po 0 0), (5, .i (addI .i64 1 v6)), (6, .po 1 0), (10, .po 2 0), (12, .po 3 0), (14, .i s27), (15, .i v31.1), (16, .i v31.2.1), (18, .i v32.1), (19, .i v32.2.1), (21, .i (subI .i64 s27 1)), (144, .bool (decide (s27 > (addI .i64 1 v6))))]⟩, [.lv 2 [.i a0.N, .ro (a0.Most.map (cL cI_i64))], .lv 2 [.i v7.1.N, .ro (v7.1.Most.map (cL cI_i64))], .lv 2 [.i v8.1.N, .ro (v8.1.Most.map (cL cI_i64))], .lv 2 [.i v9.1.N, .ro (v9.1.Most.map (cL cI_i64))]]⟩ ?_
                              refine Gh_e ⟨⟨192, [(2, .po 0 0), (5, .i (addI .i64 1 v6)), (6, .po 1 0), (10, .po 2 0), (12, .po 3 0), (14, .i s27), (15, .i v31.1), (16, .i v31.2.1), (18, .i v32.1), (19, .i v32.2.1), (21, .i (subI .i64 s27 1))]⟩, [.lv 2 [.i a0.N, .ro (a0.Most.map (cL cI_i64))], .lv 2 [.i v7.1.N, .ro (v7.1.Most.map (cL cI_i64))], .lv 2 [.i v8.1.N, .ro (v8.1.Most.map (cL cI_i64))], .lv 2 [.i v9.1.N, .ro (v9.1.Most.map (cL cI_i64))]]⟩ ?_
                              have q := e_g40; simp only [c4, c12, c26, c29, c35, c36, c41, cond_true, cond_false, Bool.true_and, Bool.false_and, Bool.true_or, Bool.false_or] at q; subst q
                              show _ = _
                              kernel_rfl
                            · skip
                              refine W_skip ?_
                              refine Gh_e ⟨⟨192, [(2, .po 0 0), (5, .i (addI .i64 1 v6)), (6, .po 1 0), (10, .po 2 0), (12, .po 3 0), (14, .i s27), (15, .i v31.1), (16, .i v31.2.1), (18, .i v32.1), (19, .i v32.2.1), (21, .i s27)]⟩, [.lv 2 [.i a0.N, .ro (a0.Most.map (cL cI_i64))], .lv 2 [.i v7.1.N, .ro (v7.1.Most.map (cL cI_i64))], .lv 2 [.i v8.1.N, .ro (v8.1.Most.map (cL cI_i64))], .lv 2 [.i v9.1.N, .ro (v9.1.Most.map (cL cI_i64))]]⟩ ?_
                              have q := e_g40; simp only [c4, c12, c26, c29, c35, c36, c41, cond_true, cond_false, Bool.true_and, Bool.false_and, Bool.true_or, Bool.false_or] at q; subst q
                              show _ = _
                              kernel_rfl
                          · refine W_seq ?_
                            refine W_joinS (fun v : Bool => ⟨⟨192, [(2, .po 0 0), (5, .i (addI .i64 1 v6)), (6, .po 1 0), (10, .po 2 0), (12, .po 3 0), (14, .i s27), (190, .bool v)]⟩, [.lv 2 [.i a0.N, .ro (a0.Most.map (cL cI_i64))], .lv 2 [.i v7.1.N, .ro (v7.1.Most.map (cL cI_i64))], .lv 2 [.i v8.1.N, .ro (v8.1.Most.map (cL cI_i64))], .lv 2 [.i v9.1.N, .ro (v9.1.Most.map (cL cI_i64))]]⟩) h (fun w h => ?_) (fun w42 e_w42 h => ?_)
                            · refine W_gh ?_
                              refine W_draw ?_
                              refine O_p 4 ?_
                              refine O_fork (n := 150) (v31.1 != v32.1) (by kernel_rfl) (fun c43 => ?_) (fun c43 => ?_)
                              · replace h := fork_t c43 h
                                refine O_p 40 ?_
                                refine O_nil ?_
                                refine Gh_e ⟨⟨192, [(2, .po 0 0), (5, .i (addI .i64 1 v6)), (6, .po 1 0), (10, .po 2 0), (12, .po 3 0), (14, .i s27), (190, .bool true)]⟩, [.lv 2 [.i a0.N, .ro (a0.Most.map (cL cI_i64))], .lv 2 [.i v7.1.N, .ro (v7.1.Most.map (cL cI_i64))], .lv 2 [.i v8.1.N, .ro (v8.1.Most.map (cL cI_i64))], .lv 2 [.i v9.1.N, .ro (v9.1.Most.map (cL cI_i64))]]⟩ ?_
                                replace h := Option.some.inj h; subst h
                                show _ = _
                                kernel_rfl
                              · replace h := fork_f c43 h
                                refine O_p 5 ?_
                                refine O_fork (n := 155) (v31.2.1 != v32.2.1) (by kernel_rfl) (fun c44 => ?_) (fun c44 => ?_)
                                · replace h := fork_t c44 h
                                  refine O_p 35 ?_
                                  refine O_nil ?_
                                  refine Gh_e ⟨⟨192, [(2, .po 0 0), (5, .i (addI .i64 1 v6)), (6, .po 1 0), (10, .po 2 0), (12, .po 3 0), (14, .i s27), (190, .bool true)]⟩, [.lv 2 [.i a0.N, .ro (a0.Most.map (cL cI_i64))], .lv 2 [.i v7.1.N, .ro (v7.1.Most.map (cL cI_i64))], .lv 2 [.i v8.1.N, .ro (v8.1.Most.map (cL cI_i64))], .lv 2 [.i v9.1.N, .ro (v9.1.Most.map (cL cI_i64))]]⟩ ?_
                                  replace h := Option.some.inj h; subst h
                                  show _ = _
                                  kernel_rfl
                                · replace h := fork_f c44 h
                                  refine O_p 2 ?_
                                  refine O_idx (kd := .i64) (cL cI_i64) h (fun _ => rfl) (by kernel_rfl) (by kernel_rfl) (by kernel_rfl) (fun v45 e_v45 h => ?_)
                                  refine O_p 2 ?_
                                  refine O_idx (kd := .i64) cI_i64 h (fun _ => rfl) (by kernel_rfl) (by kernel_rfl) (by kernel_rfl) (fun v46 e_v46 h => ?_)
                                  refine O_p 4 ?_
                                  refine O_idx (kd := .i64) (cL cI_i64) h (fun _ => rfl) (by kernel_rfl) (by kernel_rfl) (by kernel_rfl) (fun v47 e_v47 h => ?_)
                                  refine O_p 2 ?_
                                  refine O_idx (kd := .i64) cI_i64 h (fun _ => rfl) (by kernel_rfl) (by kernel_rfl) (by kernel_rfl) (fun v48 e_v48 h => ?_)
                                  refine O_p 4 ?_
                                  refine O_fork (n := 173) (v46 != v48) (by kernel_rfl) (fun c49 => ?_) (fun c49 => ?_)
                                  · replace h := fork_t c49 h
                                    refine O_p 17 ?_
                                    refine O_nil ?_
                                    refine Gh_e ⟨⟨192, [(2, .po 0 0), (5, .i (addI .i64 1 v6)), (6, .po 1 0), (10, .po 2 0), (12, .po 3 0), (14, .i s27), (190, .bool true)]⟩, [.lv 2 [.i a0.N, .ro (a0.Most.map (cL cI_i64))], .lv 2 [.i v7.1.N, .ro (v7.1.Most.map (cL cI_i64))], .lv 2 [.i v8.1.N, .ro (v8.1.Most.map (cL cI_i64))], .lv 2 [.i v9.1.N, .ro (v9.1.Most.map (cL cI_i64))]]⟩ ?_
                                    replace h := Option.some.inj h; subst h
                                    show _ = _
                                    kernel_rfl
                                  · replace h := fork_f c49 h
                                    refine O_p 3 ?_
                                    refine O_idx (kd := .i64) (cL cI_i64) h (fun _ => rfl) (by kernel_rfl) (by kernel_rfl) (by kernel_rfl) (fun v50 e_v50 h => ?_)
                                    refine O_p 1 ?_
                                    refine O_idx (kd := .i64) cI_i64 h (fun _ => rfl) (by kernel_rfl) (by kernel_rfl) (by kernel_rfl) (fun v51 e_v51 h => ?_)
                                    refine O_p 4 ?_
                                    refine O_idx (kd := .i64) (cL cI_i64) h (fun _ => rfl) (by kernel_rfl) (by kernel_rfl) (by kernel_rfl) (fun v52 e_v52 h => ?_)
                                    refine O_p 2 ?_
                                    refine O_idx (kd := .i64) cI_i64 h (fun _ => rfl) (by kernel_rfl) (by kernel_rfl) (by kernel_rfl) (fun v53 e_v53 h => ?_)
                                    refine O_p 3 ?_
                                    refine O_nil ?_
                                    refine Gh_e ⟨⟨192, [(2, .po 0 0), (5, .i (addI .i64 1 v6)), (6, .po 1 0), (10, .po 2 0), (12, .po 3 0), (14, .i s27), (190, .bool (v51 != v53))]⟩, [.lv 2 [.i a0.N, .ro (a0.Most.map (cL cI_i64))], .lv 2 [.i v7.1.N, .ro (v7.1.Most.map (cL cI_i64))], .lv 2 [.i v8.1.N, .ro (v8.1.Most.map (cL cI_i64))], .lv 2 [.i v9.1.N, .ro (v9.1.Most.map (cL cI_i64))]]⟩ ?_
                                    replace h := Option.some.inj h; subst h
                                    show _ = _
                                    kernel_rfl
                            · refine W_gh ?_
                              refine W_cond (c := w42) (by kernel_rfl) (fun c54 => ?_) (fun c54 => ?_)
                              · replace h := fork_t c54 h
                                refine W_seq ?_
                                refine W_reg ?_
                                refine O_p 1 ?_
                                refine O_nil ?_
                                refine W_ret ?_
                                replace h := Option.some.inj h; subst h
                                replace h : some _ = some _ := h0
                                replace h := Option.some.inj h; subst h
                                refine ⟨_, rfl, fun h => ?_⟩
                                replace h := Option.some.inj h; subst h
                                exact Fin_free (l := [.bool false]) (by kernel_rfl) (by kernel_rfl) rfl
                              · replace h := fork_f c54 h
                                refine W_skip ?_
                                refine Gh_e ⟨⟨192, [(2, .po 0 0), (5, .i (addI .i64 1 v6)), (6, .po 1 0), (10, .po 2 0), (12, .po 3 0), (14, .i s27)]⟩, [.lv 2 [.i a0.N, .ro (a0.Most.map (cL cI_i64))], .lv 2 [.i v7.1.N, .ro (v7.1.Most.map (cL cI_i64))], .lv 2 [.i v8.1.N, .ro (v8.1.Most.map (cL cI_i64))], .lv 2 [.i v9.1.N, .ro (v9.1.Most.map (cL cI_i64))]]⟩ ?_
                                refine Gh_e ⟨⟨192, [(2, .po 0 0), (5, .i (addI .i64 1 v6)), (6, .po 1 0), (10, .po 2 0), (12, .po 3 0), (14, .i s27)]⟩, [.lv 2 [.i a0.N, .ro (a0.Most.map (cL cI_i64))], .lv 2 [.i v7.1.N, .ro (v7.1.Most.map (cL cI_i64))], .lv 2 [.i v8.1.N, .ro (v8.1.Most.map (cL cI_i64))], .lv 2 [.i v9.1.N, .ro (v9.1.Most.map (cL cI_i64))]]⟩ ?_
                                replace h := Option.some.inj h; subst h
                                exact ⟨_, rfl, by kernel_rfl⟩
                  · refine W_gh ?_
                    refine W_reg ?_
                    refine O_p 3 ?_
                    refine O_nil ?_
                    refine Gh_e ⟨⟨192, [(2, .po 0 0), (5, .i (addI .i64 1 v6)), (6, .po 1 0), (10, .po 2 0), (12, .po 3 0), (14, .i (addI .i64 s27 1))]⟩, [.lv 2 [.i a0.N, .ro (a0.Most.map (cL cI_i64))], .lv 2 [.i v7.1.N, .ro (v7.1.Most.map (cL cI_i64))], .lv 2 [.i v8.1.N, .ro (v8.1.Most.map (cL cI_i64))], .lv 2 [.i v9.1.N, .ro (v9.1.Most.map (cL cI_i64))]]⟩ ?_
                    refine Gh_e ⟨⟨192, [(2, .po 0 0), (5, .i (addI .i64 1 v6)), (6, .po 1 0), (10, .po 2 0), (12, .po 3 0), (14, .i (addI .i64 s27 1))]⟩, [.lv 2 [.i a0.N, .ro (a0.Most.map (cL cI_i64))], .lv 2 [.i v7.1.N, .ro (v7.1.Most.map (cL cI_i64))], .lv 2 [.i v8.1.N, .ro (v8.1.Most.map (cL cI_i64))], .lv 2 [.i v9.1.N, .ro (v9.1.Most.map (cL cI_i64))]]⟩ ?_
                    replace h := Option.some.inj h; subst h
                    exact ⟨_, rfl, by kernel_rfl⟩
                · replace h := fork_f c29 h
                  refine W_exit ?_
                  refine X_hit ?_
                  refine Gh_e ⟨⟨192, []⟩, [.lv 2 [.i a0.N, .ro (a0.Most.map (cL cI_i64))], .lv 2 [.i v7.1.N, .ro (v7.1.Most.map (cL cI_i64))], .lv 2 [.i v8.1.N, .ro (v8.1.Most.map (cL cI_i64))], .lv 2 [.i v9.1.N, .ro (v9.1.Most.map (cL cI_i64))]]⟩ ?_
                  replace h := Option.some.inj h; subst h
                  exact ⟨_, rfl, by kernel_rfl⟩
              · refine W_seq ?_
                refine W_gh ?_
                refine W_reg ?_
                refine O_call (fun v => .bool v) h (.inr rfl) (ys := []) (fun _ e => p13  _ e) (by kernel_rfl) (by kernel_rfl) rfl (fun v55 e_v55 h => ?_)
                refine O_p 1 ?_
                refine O_nil ?_
                refine Gh_e ⟨⟨192, [(4, .bool v55)]⟩, [.lv 2 [.i a0.N, .ro (a0.Most.map (cL cI_i64))], .lv 2 [.i v7.1.N, .ro (v7.1.Most.map (cL cI_i64))], .lv 2 [.i v8.1.N, .ro (v8.1.Most.map (cL cI_i64))], .lv 2 [.i v9.1.N, .ro (v9.1.Most.map (cL cI_i64))]]⟩ ?_
                refine W_ret ?_
                replace h := Option.some.inj h; subst h
                exact Fin_free (l := [.bool v55]) (by kernel_rfl) (by kernel_rfl) rfl
end G11
