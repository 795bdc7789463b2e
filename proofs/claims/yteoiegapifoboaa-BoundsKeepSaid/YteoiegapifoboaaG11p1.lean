/- The code computes the models, printed by a program of mine (dec.py). No condition. -/
import Derived.Test.YteoiegapifoboaaG11p0
import Derived.Test.YteoiegapifoboaaG11x
import Derived.Test.YteoiegapifoboaaG11a
namespace G11
open Go Go.Pl Go.Am Go.Am.As
set_option linter.unusedVariables false
set_option linter.unusedSimpArgs false
set_option maxHeartbeats 1000000

theorem p65 (a0 : Int) (r : Bool) (h : m65 a0 = some r) : Pt E0 hp 65 [.i a0] (.bool r) := by
  unfold m65 at h
  refine Pt_W (fn65) rfl (by decide) ?_
  refine W_seq ?_
  refine W_gh ?_
  refine W_reg ?_
  refine O_p 1 ?_
  refine O_nil ?_
  refine Gh_e ⟨⟨9, [(0, .i a0)]⟩, []⟩ ?_
  refine W_seq ?_
  refine W_cut ⟨⟨9, [(2, .bool ((decide (a0 ≥ (-64000000))) && (decide (a0 ≤ 64000000))))]⟩, []⟩ ?_ ?_
  · generalize e_g1 : ((decide (a0 ≥ (-64000000))) && (decide (a0 ≤ 64000000))) = g1
    refine W_gh ?_
    refine W_reg ?_
    refine O_p 3 ?_
    refine O_fork (n := 5) (decide (a0 ≥ (-64000000))) (by kernel_rfl) (fun c2 => ?_) (fun c2 => ?_)
    · skip
      refine O_p 4 ?_
      refine O_nil ?_
      refine Gh_e ⟨⟨9, [(2, .bool (decide (a0 ≤ 64000000)))]⟩, []⟩ ?_
      have q := e_g1; simp only [c2, cond_true, cond_false, Bool.true_and, Bool.false_and, Bool.true_or, Bool.false_or] at q; subst q
      show _ = _
      kernel_rfl
    · skip
      refine O_p 4 ?_
      refine O_nil ?_
      refine Gh_e ⟨⟨9, [(2, .bool false)]⟩, []⟩ ?_
      have q := e_g1; simp only [c2, cond_true, cond_false, Bool.true_and, Bool.false_and, Bool.true_or, Bool.false_or] at q; subst q
      show _ = _
      kernel_rfl
  · refine W_ret ?_
    replace h := Option.some.inj h; subst h
    exact Fin_free (l := [.bool ((decide (a0 ≥ (-64000000))) && (decide (a0 ≤ 64000000)))]) (by kernel_rfl) (by kernel_rfl) rfl

theorem p28 (a0 : SBounds) (r : Int) (h : m28 a0 = some r) : Pt E0 hp 28 [.agg (cSBounds a0)] (.i r) := by
  unfold m28 at h
  refine Pt_W (fn28) rfl (by decide) ?_
  refine W_seq ?_
  refine W_gh ?_
  refine W_reg ?_
  refine O_p 2 ?_
  refine O_nil ?_
  refine Gh_e ⟨⟨80, [(1, .po 0 0)]⟩, [.lv 2 [.i a0.N, .ro (a0.Most.map (cL cI_i64))]]⟩ ?_
  refine W_seq ?_
  refine W_seq ?_
  refine W_cut ⟨⟨80, [(1, .po 0 0), (14, .bool ((decide (a0.N < 0)) || (decide (a0.N > 12))))]⟩, [.lv 2 [.i a0.N, .ro (a0.Most.map (cL cI_i64))]]⟩ ?_ ?_
  · generalize e_g1 : ((decide (a0.N < 0)) || (decide (a0.N > 12))) = g1
    refine W_gh ?_
    refine W_reg ?_
    refine O_p 4 ?_
    refine O_fork (n := 10) (decide (a0.N < 0)) (by kernel_rfl) (fun c2 => ?_) (fun c2 => ?_)
    · skip
      refine O_p 4 ?_
      refine O_nil ?_
      refine Gh_e ⟨⟨80, [(1, .po 0 0), (14, .bool true)]⟩, [.lv 2 [.i a0.N, .ro (a0.Most.map (cL cI_i64))]]⟩ ?_
      have q := e_g1; simp only [c2, cond_true, cond_false, Bool.true_and, Bool.false_and, Bool.true_or, Bool.false_or] at q; subst q
      show _ = _
      kernel_rfl
    · skip
      refine O_p 4 ?_
      refine O_nil ?_
      refine Gh_e ⟨⟨80, [(1, .po 0 0), (14, .bool (decide (a0.N > 12)))]⟩, [.lv 2 [.i a0.N, .ro (a0.Most.map (cL cI_i64))]]⟩ ?_
      have q := e_g1; simp only [c2, cond_true, cond_false, Bool.true_and, Bool.false_and, Bool.true_or, Bool.false_or] at q; subst q
      show _ = _
      kernel_rfl
  · refine W_gh ?_
    refine W_cond (c := ((decide (a0.N < 0)) || (decide (a0.N > 12)))) (by kernel_rfl) (fun c3 => ?_) (fun c3 => ?_)
    · replace h := fork_t c3 h
      refine W_seq ?_
      refine W_reg ?_
      refine O_p 1 ?_
      refine O_nil ?_
      refine W_ret ?_
      replace h := Option.some.inj h; subst h
      exact Fin_free (l := [.i 2]) (by kernel_rfl) (by kernel_rfl) rfl
    · replace h := fork_f c3 h
      refine W_skip ?_
      refine Gh_e ⟨⟨80, [(1, .po 0 0)]⟩, [.lv 2 [.i a0.N, .ro (a0.Most.map (cL cI_i64))]]⟩ ?_
      refine W_seq ?_
      refine W_seq ?_
      refine W_gh ?_
      refine W_reg ?_
      refine O_p 2 ?_
      refine O_len (l := a0.Most) (cL cI_i64) (by kernel_rfl) (by kernel_rfl) ?_
      refine O_p 4 ?_
      refine O_nil ?_
      refine Gh_e ⟨⟨80, [(1, .po 0 0), (21, .bool ((a0.Most.length : Int) != (addI .i64 a0.N 1)))]⟩, [.lv 2 [.i a0.N, .ro (a0.Most.map (cL cI_i64))]]⟩ ?_
      refine W_gh ?_
      refine W_cond (c := ((a0.Most.length : Int) != (addI .i64 a0.N 1))) (by kernel_rfl) (fun c4 => ?_) (fun c4 => ?_)
      · replace h := fork_t c4 h
        refine W_seq ?_
        refine W_reg ?_
        refine O_p 1 ?_
        refine O_nil ?_
        refine W_ret ?_
        replace h := Option.some.inj h; subst h
        exact Fin_free (l := [.i 8]) (by kernel_rfl) (by kernel_rfl) rfl
      · replace h := fork_f c4 h
        refine W_skip ?_
        refine Gh_e ⟨⟨80, [(1, .po 0 0)]⟩, [.lv 2 [.i a0.N, .ro (a0.Most.map (cL cI_i64))]]⟩ ?_
        refine W_seq ?_
        refine W_seq ?_
        refine W_reg ?_
        refine O_p 1 ?_
        refine O_nil ?_
        refine W_loop (fun s5 : Int => ⟨⟨80, [(1, .po 0 0), (3, .i s5)]⟩, [.lv 2 [.i a0.N, .ro (a0.Most.map (cL cI_i64))]]⟩) (fun w6 : Unit => ⟨⟨80, [(1, .po 0 0)]⟩, [.lv 2 [.i a0.N, .ro (a0.Most.map (cL cI_i64))]]⟩) h (by kernel_rfl) (fun s5 c h => ?_) (fun w6 h => ?_)
        · refine W_gh ?_
          refine W_seq ?_
          refine W_seq ?_
          refine W_gh ?_
          refine W_reg ?_
          refine O_p 3 ?_
          refine O_len (l := a0.Most) (cL cI_i64) (by kernel_rfl) (by kernel_rfl) ?_
          refine O_p 1 ?_
          refine O_nil ?_
          refine Gh_e ⟨⟨80, [(1, .po 0 0), (3, .i s5), (26, .bool (decide (s5 < (a0.Most.length : Int))))]⟩, [.lv 2 [.i a0.N, .ro (a0.Most.map (cL cI_i64))]]⟩ ?_
          refine W_gh ?_
          refine W_cond (c := (decide (s5 < (a0.Most.length : Int)))) (by kernel_rfl) (fun c7 => ?_) (fun c7 => ?_)
          · replace h := fork_t c7 h
            refine W_skip ?_
            refine Gh_e ⟨⟨80, [(1, .po 0 0), (3, .i s5)]⟩, [.lv 2 [.i a0.N, .ro (a0.Most.map (cL cI_i64))]]⟩ ?_
            refine W_seq ?_
            refine W_gh ?_
            refine W_block ?_
            refine W_seq ?_
            refine W_gh ?_
            refine W_draw ?_
            refine O_p 3 ?_
            refine O_idx (kd := .i64) (cL cI_i64) h (fun _ => rfl) (by kernel_rfl) (by kernel_rfl) (by kernel_rfl) (fun v8 e_v8 h => ?_)
            refine O_p 1 ?_
            refine O_len (l := v8) cI_i64 (by kernel_rfl) (by kernel_rfl) ?_
            refine O_p 4 ?_
            refine O_nil ?_
            refine Gh_e ⟨⟨80, [(1, .po 0 0), (3, .i s5), (38, .bool ((v8.length : Int) != (addI .i64 a0.N 1)))]⟩, [.lv 2 [.i a0.N, .ro (a0.Most.map (cL cI_i64))]]⟩ ?_
            refine W_gh ?_
            refine W_cond (c := ((v8.length : Int) != (addI .i64 a0.N 1))) (by kernel_rfl) (fun c9 => ?_) (fun c9 => ?_)
            · replace h := fork_t c9 h
              refine W_seq ?_
              refine W_reg ?_
              refine O_p 1 ?_
              refine O_nil ?_
              refine W_ret ?_
              replace h := Option.some.inj h; subst h
              refine ⟨_, rfl, fun h => ?_⟩
              replace h := Option.some.inj h; subst h
              exact Fin_free (l := [.i 8]) (by kernel_rfl) (by kernel_rfl) rfl
            · replace h := fork_f c9 h
              refine W_skip ?_
              refine Gh_e ⟨⟨80, [(1, .po 0 0), (3, .i s5)]⟩, [.lv 2 [.i a0.N, .ro (a0.Most.map (cL cI_i64))]]⟩ ?_
              refine Gh_e ⟨⟨80, [(1, .po 0 0), (3, .i s5)]⟩, [.lv 2 [.i a0.N, .ro (a0.Most.map (cL cI_i64))]]⟩ ?_
              refine W_gh ?_
              refine W_reg ?_
              refine O_p 3 ?_
              refine O_nil ?_
              refine Gh_e ⟨⟨80, [(1, .po 0 0), (3, .i (addI .i64 s5 1))]⟩, [.lv 2 [.i a0.N, .ro (a0.Most.map (cL cI_i64))]]⟩ ?_
              refine Gh_e ⟨⟨80, [(1, .po 0 0), (3, .i (addI .i64 s5 1))]⟩, [.lv 2 [.i a0.N, .ro (a0.Most.map (cL cI_i64))]]⟩ ?_
              replace h := Option.some.inj h; subst h
              exact ⟨_, rfl, by kernel_rfl⟩
          · replace h := fork_f c7 h
            refine W_exit ?_
            refine X_hit ?_
            refine Gh_e ⟨⟨80, [(1, .po 0 0)]⟩, [.lv 2 [.i a0.N, .ro (a0.Most.map (cL cI_i64))]]⟩ ?_
            replace h := Option.some.inj h; subst h
            exact ⟨_, rfl, by kernel_rfl⟩
        · refine W_seq ?_
          refine W_seq ?_
          refine W_reg ?_
          refine O_p 1 ?_
          refine O_nil ?_
          refine W_loop (fun s10 : Int => ⟨⟨80, [(1, .po 0 0), (4, .i s10)]⟩, [.lv 2 [.i a0.N, .ro (a0.Most.map (cL cI_i64))]]⟩) (fun w11 : Unit => ⟨⟨80, []⟩, [.lv 2 [.i a0.N, .ro (a0.Most.map (cL cI_i64))]]⟩) h (by kernel_rfl) (fun s10 c h => ?_) (fun w11 h => ?_)
          · refine W_gh ?_
            refine W_seq ?_
            refine W_seq ?_
            refine W_gh ?_
            refine W_reg ?_
            refine O_p 4 ?_
            refine O_nil ?_
            refine Gh_e ⟨⟨80, [(1, .po 0 0), (4, .i s10), (42, .bool (decide (s10 ≤ a0.N)))]⟩, [.lv 2 [.i a0.N, .ro (a0.Most.map (cL cI_i64))]]⟩ ?_
            refine W_gh ?_
            refine W_cond (c := (decide (s10 ≤ a0.N))) (by kernel_rfl) (fun c12 => ?_) (fun c12 => ?_)
            · replace h := fork_t c12 h
              refine W_skip ?_
              refine Gh_e ⟨⟨80, [(1, .po 0 0), (4, .i s10)]⟩, [.lv 2 [.i a0.N, .ro (a0.Most.map (cL cI_i64))]]⟩ ?_
              refine W_seq ?_
              refine W_gh ?_
              refine W_block ?_
              refine W_seq ?_
              refine W_reg ?_
              refine O_p 1 ?_
              refine O_nil ?_
              refine W_loop (fun s13 : Int => ⟨⟨80, [(1, .po 0 0), (4, .i s10), (5, .i s13)]⟩, [.lv 2 [.i a0.N, .ro (a0.Most.map (cL cI_i64))]]⟩) (fun w14 : Unit => ⟨⟨80, [(1, .po 0 0), (4, .i s10)]⟩, [.lv 2 [.i a0.N, .ro (a0.Most.map (cL cI_i64))]]⟩) h (by kernel_rfl) (fun s13 c h => ?_) (fun w14 h => ?_)
              · refine W_gh ?_
                refine W_seq ?_
                refine W_seq ?_
                refine W_gh ?_
                refine W_reg ?_
                refine O_p 4 ?_
                refine O_nil ?_
                refine Gh_e ⟨⟨80, [(1, .po 0 0), (4, .i s10), (5, .i s13), (48, .bool (decide (s13 ≤ a0.N)))]⟩, [.lv 2 [.i a0.N, .ro (a0.Most.map (cL cI_i64))]]⟩ ?_
                refine W_gh ?_
                refine W_cond (c := (decide (s13 ≤ a0.N))) (by kernel_rfl) (fun c15 => ?_) (fun c15 => ?_)
                · replace h := fork_t c15 h
                  refine W_skip ?_
                  refine Gh_e ⟨⟨80, [(1, .po 0 0), (4, .i s10), (5, .i s13)]⟩, [.lv 2 [.i a0.N, .ro (a0.Most.map (cL cI_i64))]]⟩ ?_
                  refine W_seq ?_
                  refine W_gh ?_
                  refine W_block ?_
                  refine W_seq ?_
                  refine W_seq ?_
                  refine W_gh ?_
                  refine W_reg ?_
                  refine O_p 3 ?_
                  refine O_idx (kd := .i64) (cL cI_i64) h (fun _ => rfl) (by kernel_rfl) (by kernel_rfl) (by kernel_rfl) (fun v16 e_v16 h => ?_)
                  refine O_p 2 ?_
                  refine O_idx (kd := .i64) cI_i64 h (fun _ => rfl) (by kernel_rfl) (by kernel_rfl) (by kernel_rfl) (fun v17 e_v17 h => ?_)
                  refine O_p 2 ?_
                  refine O_nil ?_
                  refine Gh_e ⟨⟨80, [(1, .po 0 0), (4, .i s10), (5, .i s13), (6, .i v17)]⟩, [.lv 2 [.i a0.N, .ro (a0.Most.map (cL cI_i64))]]⟩ ?_
                  refine W_seq ?_
                  refine W_joinS (fun v : Bool => ⟨⟨80, [(1, .po 0 0), (4, .i s10), (5, .i s13), (65, .bool v)]⟩, [.lv 2 [.i a0.N, .ro (a0.Most.map (cL cI_i64))]]⟩) h (fun w h => ?_) (fun w18 e_w18 h => ?_)
                  · refine W_gh ?_
                    refine W_reg ?_
                    refine O_p 3 ?_
                    refine O_fork (n := 61) (v17 != (-1099511627776)) (by kernel_rfl) (fun c19 => ?_) (fun c19 => ?_)
                    · replace h := fork_t c19 h
                      refine O_p 1 ?_
                      refine O_call (fun v => .bool v) h (.inr rfl) (ys := [.i v17]) (fun _ e => p65 _ _ e) (by kernel_rfl) (by kernel_rfl) (bels_cons rfl rfl) (fun v20 e_v20 h => ?_)
                      refine O_p 2 ?_
                      refine O_nil ?_
                      refine Gh_e ⟨⟨80, [(1, .po 0 0), (4, .i s10), (5, .i s13), (65, .bool (!v20))]⟩, [.lv 2 [.i a0.N, .ro (a0.Most.map (cL cI_i64))]]⟩ ?_
                      replace h := Option.some.inj h; subst h
                      show _ = _
                      kernel_rfl
                    · replace h := fork_f c19 h
                      refine O_p 4 ?_
                      refine O_nil ?_
                      refine Gh_e ⟨⟨80, [(1, .po 0 0), (4, .i s10), (5, .i s13), (65, .bool false)]⟩, [.lv 2 [.i a0.N, .ro (a0.Most.map (cL cI_i64))]]⟩ ?_
                      replace h := Option.some.inj h; subst h
                      show _ = _
                      kernel_rfl
                  · refine W_gh ?_
                    refine W_cond (c := w18) (by kernel_rfl) (fun c21 => ?_) (fun c21 => ?_)
                    · replace h := fork_t c21 h
                      refine W_seq ?_
                      refine W_reg ?_
                      refine O_p 1 ?_
                      refine O_nil ?_
                      refine W_ret ?_
                      replace h := Option.some.inj h; subst h
                      refine ⟨_, rfl, fun h => ?_⟩
                      replace h := Option.some.inj h; subst h
                      refine ⟨_, rfl, fun h => ?_⟩
                      replace h := Option.some.inj h; subst h
                      exact Fin_free (l := [.i 2]) (by kernel_rfl) (by kernel_rfl) rfl
                    · replace h := fork_f c21 h
                      refine W_skip ?_
                      refine Gh_e ⟨⟨80, [(1, .po 0 0), (4, .i s10), (5, .i s13)]⟩, [.lv 2 [.i a0.N, .ro (a0.Most.map (cL cI_i64))]]⟩ ?_
                      refine W_seq ?_
                      refine W_joinS (fun v : Bool => ⟨⟨80, [(1, .po 0 0), (4, .i s10), (5, .i s13), (79, .bool v)]⟩, [.lv 2 [.i a0.N, .ro (a0.Most.map (cL cI_i64))]]⟩) h (fun w h => ?_) (fun w22 e_w22 h => ?_)
                      · refine W_gh ?_
                        refine W_reg ?_
                        refine O_p 4 ?_
                        refine O_fork (n := 69) (s10 == s13) (by kernel_rfl) (fun c23 => ?_) (fun c23 => ?_)
                        · replace h := fork_t c23 h
                          refine O_p 3 ?_
                          refine O_idx (kd := .i64) (cL cI_i64) h (fun _ => rfl) (by kernel_rfl) (by kernel_rfl) (by kernel_rfl) (fun v24 e_v24 h => ?_)
                          refine O_p 2 ?_
                          refine O_idx (kd := .i64) cI_i64 h (fun _ => rfl) (by kernel_rfl) (by kernel_rfl) (by kernel_rfl) (fun v25 e_v25 h => ?_)
                          refine O_p 3 ?_
                          refine O_nil ?_
                          refine Gh_e ⟨⟨80, [(1, .po 0 0), (4, .i s10), (5, .i s13), (79, .bool (v25 != 0))]⟩, [.lv 2 [.i a0.N, .ro (a0.Most.map (cL cI_i64))]]⟩ ?_
                          replace h := Option.some.inj h; subst h
                          show _ = _
                          kernel_rfl
                        · replace h := fork_f c23 h
                          refine O_p 10 ?_
                          refine O_nil ?_
                          refine Gh_e ⟨⟨80, [(1, .po 0 0), (4, .i s10), (5, .i s13), (79, .bool false)]⟩, [.lv 2 [.i a0.N, .ro (a0.Most.map (cL cI_i64))]]⟩ ?_
                          replace h := Option.some.inj h; subst h
                          show _ = _
                          kernel_rfl
                      · refine W_gh ?_
                        refine W_cond (c := w22) (by kernel_rfl) (fun c26 => ?_) (fun c26 => ?_)
                        · replace h := fork_t c26 h
                          refine W_seq ?_
                          refine W_reg ?_
                          refine O_p 1 ?_
                          refine O_nil ?_
                          refine W_ret ?_
                          replace h := Option.some.inj h; subst h
                          refine ⟨_, rfl, fun h => ?_⟩
                          replace h := Option.some.inj h; subst h
                          refine ⟨_, rfl, fun h => ?_⟩
                          replace h := Option.some.inj h; subst h
                          exact Fin_free (l := [.i 3]) (by kernel_rfl) (by kernel_rfl) rfl
                        · replace h := fork_f c26 h
                          refine W_skip ?_
                          refine Gh_e ⟨⟨80, [(1, .po 0 0), (4, .i s10), (5, .i s13)]⟩, [.lv 2 [.i a0.N, .ro (a0.Most.map (cL cI_i64))]]⟩ ?_
                          refine Gh_e ⟨⟨80, [(1, .po 0 0), (4, .i s10), (5, .i s13)]⟩, [.lv 2 [.i a0.N, .ro (a0.Most.map (cL cI_i64))]]⟩ ?_
                          refine W_gh ?_
                          refine W_reg ?_
                          refine O_p 3 ?_
                          refine O_nil ?_
                          refine Gh_e ⟨⟨80, [(1, .po 0 0), (4, .i s10), (5, .i (addI .i64 s13 1))]⟩, [.lv 2 [.i a0.N, .ro (a0.Most.map (cL cI_i64))]]⟩ ?_
                          refine Gh_e ⟨⟨80, [(1, .po 0 0), (4, .i s10), (5, .i (addI .i64 s13 1))]⟩, [.lv 2 [.i a0.N, .ro (a0.Most.map (cL cI_i64))]]⟩ ?_
                          replace h := Option.some.inj h; subst h
                          exact ⟨_, rfl, by kernel_rfl⟩
                · replace h := fork_f c15 h
                  refine W_exit ?_
                  refine X_hit ?_
                  refine Gh_e ⟨⟨80, [(1, .po 0 0), (4, .i s10)]⟩, [.lv 2 [.i a0.N, .ro (a0.Most.map (cL cI_i64))]]⟩ ?_
                  replace h := Option.some.inj h; subst h
                  exact ⟨_, rfl, by kernel_rfl⟩
              · refine Gh_e ⟨⟨80, [(1, .po 0 0), (4, .i s10)]⟩, [.lv 2 [.i a0.N, .ro (a0.Most.map (cL cI_i64))]]⟩ ?_
                refine W_gh ?_
                refine W_reg ?_
                refine O_p 3 ?_
                refine O_nil ?_
                refine Gh_e ⟨⟨80, [(1, .po 0 0), (4, .i (addI .i64 s10 1))]⟩, [.lv 2 [.i a0.N, .ro (a0.Most.map (cL cI_i64))]]⟩ ?_
                refine Gh_e ⟨⟨80, [(1, .po 0 0), (4, .i (addI .i64 s10 1))]⟩, [.lv 2 [.i a0.N, .ro (a0.Most.map (cL cI_i64))]]⟩ ?_
                replace h := Option.some.inj h; subst h
                exact ⟨_, rfl, by kernel_rfl⟩
            · replace h := fork_f c12 h
              refine W_exit ?_
              refine X_hit ?_
              refine Gh_e ⟨⟨80, []⟩, [.lv 2 [.i a0.N, .ro (a0.Most.map (cL cI_i64))]]⟩ ?_
              replace h := Option.some.inj h; subst h
              exact ⟨_, rfl, by kernel_rfl⟩
          · refine W_seq ?_
            refine W_reg ?_
            refine O_p 1 ?_
            refine O_nil ?_
            refine W_ret ?_
            replace h := Option.some.inj h; subst h
            exact Fin_free (l := [.i 0]) (by kernel_rfl) (by kernel_rfl) rfl

theorem p64 (a0 : Int) (r : Bool) (h : m64 a0 = some r) : Pt E0 hp 64 [.i a0] (.bool r) := by
  unfold m64 at h
  refine Pt_W (fn64) rfl (by decide) ?_
  refine W_seq ?_
  refine W_gh ?_
  refine W_reg ?_
  refine O_p 1 ?_
  refine O_nil ?_
  refine Gh_e ⟨⟨13, [(0, .i a0)]⟩, []⟩ ?_
  refine W_seq ?_
  refine W_cut ⟨⟨13, [(2, .bool ((a0 != (-1099511627776)) && ((decide (a0 < (-1000000))) || (decide (a0 > 1000000)))))]⟩, []⟩ ?_ ?_
  · generalize e_g1 : ((a0 != (-1099511627776)) && ((decide (a0 < (-1000000))) || (decide (a0 > 1000000)))) = g1
    refine W_gh ?_
    refine W_reg ?_
    refine O_p 3 ?_
    refine O_fork (n := 5) (a0 != (-1099511627776)) (by kernel_rfl) (fun c2 => ?_) (fun c2 => ?_)
    · skip
      refine O_p 3 ?_
      refine O_fork (n := 8) (decide (a0 < (-1000000))) (by kernel_rfl) (fun c3 => ?_) (fun c3 => ?_)
      · skip
        refine O_p 5 ?_
        refine O_nil ?_
        refine Gh_e ⟨⟨13, [(2, .bool true)]⟩, []⟩ ?_
        have q := e_g1; simp only [c2, c3, cond_true, cond_false, Bool.true_and, Bool.false_and, Bool.true_or, Bool.false_or] at q; subst q
        show _ = _
        kernel_rfl
      · skip
        refine O_p 5 ?_
        refine O_nil ?_
        refine Gh_e ⟨⟨13, [(2, .bool (decide (a0 > 1000000)))]⟩, []⟩ ?_
        have q := e_g1; simp only [c2, c3, cond_true, cond_false, Bool.true_and, Bool.false_and, Bool.true_or, Bool.false_or] at q; subst q
        show _ = _
        kernel_rfl
    · skip
      refine O_p 8 ?_
      refine O_nil ?_
      refine Gh_e ⟨⟨13, [(2, .bool false)]⟩, []⟩ ?_
      have q := e_g1; simp only [c2, cond_true, cond_false, Bool.true_and, Bool.false_and, Bool.true_or, Bool.false_or] at q; subst q
      show _ = _
      kernel_rfl
  · refine W_ret ?_
    replace h := Option.some.inj h; subst h
    exact Fin_free (l := [.bool ((a0 != (-1099511627776)) && ((decide (a0 < (-1000000))) || (decide (a0 > 1000000))))]) (by kernel_rfl) (by kernel_rfl) rfl

theorem p77_64 (a0 : (List Int)) (r : Int) (h : m77_64 a0 = some r) : Pt E0 hp 77 [.ro (a0.map cI_i64), .fn 64 []] (.i r) := by
  unfold m77_64 at h
  refine Pt_W (fn77) rfl (by decide) ?_
  refine W_seq ?_
  refine W_gh ?_
  refine W_reg ?_
  refine O_p 1 ?_
  refine O_nil ?_
  refine Gh_e ⟨⟨19, [(0, .ro (a0.map cI_i64)), (1, .fn 64 [])]⟩, []⟩ ?_
  refine W_seq ?_
  refine W_seq ?_
  refine W_gh ?_
  refine W_reg ?_
  refine O_p 1 ?_
  refine O_len (l := a0) cI_i64 (by kernel_rfl) (by kernel_rfl) ?_
  refine O_p 1 ?_
  refine O_nil ?_
  refine Gh_e ⟨⟨19, [(0, .ro (a0.map cI_i64)), (1, .fn 64 []), (7, .i (a0.length : Int)), (8, .i 0)]⟩, []⟩ ?_
  refine W_loop (fun s1 : Int => ⟨⟨19, [(0, .ro (a0.map cI_i64)), (1, .fn 64 []), (7, .i (a0.length : Int)), (8, .i s1)]⟩, []⟩) (fun w2 : Unit => ⟨⟨19, []⟩, []⟩) h (by kernel_rfl) (fun s1 c h => ?_) (fun w2 h => ?_)
  · refine W_gh ?_
    refine W_seq ?_
    refine W_reg ?_
    refine O_p 1 ?_
    refine O_nil ?_
    refine W_seq ?_
    refine W_gh ?_
    refine W_cond (c := (decide (s1 < (a0.length : Int)))) (by kernel_rfl) (fun c3 => ?_) (fun c3 => ?_)
    · replace h := fork_t c3 h
      refine W_skip ?_
      refine Gh_e ⟨⟨19, [(0, .ro (a0.map cI_i64)), (1, .fn 64 []), (7, .i (a0.length : Int)), (8, .i s1)]⟩, []⟩ ?_
      refine W_seq ?_
      refine W_gh ?_
      refine W_block ?_
      refine W_seq ?_
      refine W_gh ?_
      refine W_reg ?_
      refine O_p 2 ?_
      refine O_nil ?_
      refine Gh_e ⟨⟨19, [(0, .ro (a0.map cI_i64)), (1, .fn 64 []), (5, .i s1), (7, .i (a0.length : Int)), (8, .i s1)]⟩, []⟩ ?_
      refine W_seq ?_
      refine W_gh ?_
      refine W_reg ?_
      refine O_p 3 ?_
      refine O_idx (kd := .i64) cI_i64 h (fun _ => rfl) (by kernel_rfl) (by kernel_rfl) (by kernel_rfl) (fun v4 e_v4 h => ?_)
      refine O_p 1 ?_
      refine O_callv (f := 64) (cap := []) (fun v => .bool v) h (.inr rfl) (by kernel_rfl) (ys := [.i v4]) (fun _ e => p64 _ _ e) (by kernel_rfl) (by kernel_rfl) (bels_cons rfl rfl) (fun v5 e_v5 h => ?_)
      refine O_nil ?_
      refine Gh_one (s1 := ⟨⟨19, [(0, .ro (a0.map cI_i64)), (1, .fn 64 []), (5, .i s1), (7, .i (a0.length : Int)), (8, .i s1), (16, .bool v5)]⟩, []⟩) (by kernel_rfl) ?_
      refine Gh_trunc0 (by kernel_rfl) ?_
      refine Gh_nil ?_
      refine W_gh ?_
      refine W_cond (c := v5) (by kernel_rfl) (fun c6 => ?_) (fun c6 => ?_)
      · replace h := fork_t c6 h
        refine W_seq ?_
        refine W_gh ?_
        refine W_reg ?_
        refine O_p 2 ?_
        refine O_nil ?_
        refine Gh_e ⟨⟨19, [(0, .ro (a0.map cI_i64)), (1, .fn 64 []), (4, .i s1), (7, .i (a0.length : Int)), (8, .i s1), (16, .bool v5)]⟩, []⟩ ?_
        refine W_ret ?_
        replace h := Option.some.inj h; subst h
        refine ⟨_, rfl, fun h => ?_⟩
        replace h := Option.some.inj h; subst h
        exact Fin_free (l := [.i s1]) (by kernel_rfl) (by kernel_rfl) rfl
      · replace h := fork_f c6 h
        refine W_skip ?_
        refine Gh_e ⟨⟨19, [(0, .ro (a0.map cI_i64)), (1, .fn 64 []), (7, .i (a0.length : Int)), (8, .i s1)]⟩, []⟩ ?_
        refine Gh_one (s1 := ⟨⟨19, [(0, .ro (a0.map cI_i64)), (1, .fn 64 []), (7, .i (a0.length : Int)), (8, .i s1)]⟩, []⟩) (by kernel_rfl) ?_
        refine Gh_trunc0 (by kernel_rfl) ?_
        refine Gh_nil ?_
        refine W_gh ?_
        refine W_reg ?_
        refine O_p 2 ?_
        refine O_nil ?_
        refine Gh_e ⟨⟨19, [(0, .ro (a0.map cI_i64)), (1, .fn 64 []), (7, .i (a0.length : Int)), (8, .i (addI .i64 s1 1))]⟩, []⟩ ?_
        refine Gh_one (s1 := ⟨⟨19, [(0, .ro (a0.map cI_i64)), (1, .fn 64 []), (7, .i (a0.length : Int)), (8, .i (addI .i64 s1 1))]⟩, []⟩) (by kernel_rfl) ?_
        refine Gh_trunc0 (by kernel_rfl) ?_
        refine Gh_nil ?_
        replace h := Option.some.inj h; subst h
        exact ⟨_, rfl, by kernel_rfl⟩
    · replace h := fork_f c3 h
      refine W_exit ?_
      refine X_hit ?_
      refine Gh_one (s1 := ⟨⟨19, []⟩, []⟩) (by kernel_rfl) ?_
      refine Gh_trunc0 (by kernel_rfl) ?_
      refine Gh_nil ?_
      replace h := Option.some.inj h; subst h
      exact ⟨_, rfl, by kernel_rfl⟩
  · refine W_seq ?_
    refine W_reg ?_
    refine O_p 1 ?_
    refine O_nil ?_
    refine W_ret ?_
    replace h := Option.some.inj h; subst h
    exact Fin_free (l := [.i (-1)]) (by kernel_rfl) (by kernel_rfl) rfl

theorem p39_64 (a0 : (List Int)) (r : Bool) (h : m39_64 a0 = some r) : Pt E0 hp 39 [.ro (a0.map cI_i64), .fn 64 []] (.bool r) := by
  unfold m39_64 at h
  refine Pt_W (fn39) rfl (by decide) ?_
  refine W_seq ?_
  refine W_gh ?_
  refine W_reg ?_
  refine O_p 1 ?_
  refine O_nil ?_
  refine Gh_e ⟨⟨9, [(0, .ro (a0.map cI_i64)), (1, .fn 64 [])]⟩, []⟩ ?_
  refine W_seq ?_
  refine W_gh ?_
  refine W_reg ?_
  refine O_p 2 ?_
  refine O_call (fun v => .i v) h (.inr rfl) (ys := [.ro (a0.map cI_i64), .fn 64 []]) (fun _ e => p77_64 _ _ e) (by kernel_rfl) (by kernel_rfl) (bels_cons (ro_bel okI_i64.bel _) (bels_cons rfl rfl)) (fun v1 e_v1 h => ?_)
  refine O_p 2 ?_
  refine O_nil ?_
  refine Gh_e ⟨⟨9, [(4, .bool (decide (v1 ≥ 0)))]⟩, []⟩ ?_
  refine W_ret ?_
  replace h := Option.some.inj h; subst h
  exact Fin_free (l := [.bool (decide (v1 ≥ 0))]) (by kernel_rfl) (by kernel_rfl) rfl

theorem p63 (a0 : (List Int)) (r : Bool) (h : m63 a0 = some r) : Pt E0 hp 63 [.ro (a0.map cI_i64)] (.bool r) := by
  unfold m63 at h
  refine Pt_W (fn63) rfl (by decide) ?_
  refine W_seq ?_
  refine W_gh ?_
  refine W_reg ?_
  refine O_p 1 ?_
  refine O_nil ?_
  refine Gh_e ⟨⟨5, [(0, .ro (a0.map cI_i64))]⟩, []⟩ ?_
  refine W_seq ?_
  refine W_gh ?_
  refine W_reg ?_
  refine O_p 1 ?_
  refine O_call (fun v => .bool v) h (.inr rfl) (ys := [.ro (a0.map cI_i64), .fn 64 []]) (fun _ e => p39_64 _ _ e) (by kernel_rfl) (by kernel_rfl) (bels_cons (ro_bel okI_i64.bel _) (bels_cons rfl rfl)) (fun v1 e_v1 h => ?_)
  refine O_p 1 ?_
  refine O_nil ?_
  refine Gh_e ⟨⟨5, [(2, .bool v1)]⟩, []⟩ ?_
  refine W_ret ?_
  replace h := Option.some.inj h; subst h
  exact Fin_free (l := [.bool v1]) (by kernel_rfl) (by kernel_rfl) rfl

theorem p90_63 (a0 : (List (List Int))) (r : Int) (h : m90_63 a0 = some r) : Pt E0 hp 90 [.ro (a0.map (cL cI_i64)), .fn 63 []] (.i r) := by
  unfold m90_63 at h
  refine Pt_W (fn90) rfl (by decide) ?_
  refine W_seq ?_
  refine W_gh ?_
  refine W_reg ?_
  refine O_p 1 ?_
  refine O_nil ?_
  refine Gh_e ⟨⟨19, [(0, .ro (a0.map (cL cI_i64))), (1, .fn 63 [])]⟩, []⟩ ?_
  refine W_seq ?_
  refine W_seq ?_
  refine W_gh ?_
  refine W_reg ?_
  refine O_p 1 ?_
  refine O_len (l := a0) (cL cI_i64) (by kernel_rfl) (by kernel_rfl) ?_
  refine O_p 1 ?_
  refine O_nil ?_
  refine Gh_e ⟨⟨19, [(0, .ro (a0.map (cL cI_i64))), (1, .fn 63 []), (7, .i (a0.length : Int)), (8, .i 0)]⟩, []⟩ ?_
  refine W_loop (fun s1 : Int => ⟨⟨19, [(0, .ro (a0.map (cL cI_i64))), (1, .fn 63 []), (7, .i (a0.length : Int)), (8, .i s1)]⟩, []⟩) (fun w2 : Unit => ⟨⟨19, []⟩, []⟩) h (by kernel_rfl) (fun s1 c h => ?_) (fun w2 h => ?_)
  · refine W_gh ?_
    refine W_seq ?_
    refine W_reg ?_
    refine O_p 1 ?_
    refine O_nil ?_
    refine W_seq ?_
    refine W_gh ?_
    refine W_cond (c := (decide (s1 < (a0.length : Int)))) (by kernel_rfl) (fun c3 => ?_) (fun c3 => ?_)
    · replace h := fork_t c3 h
      refine W_skip ?_
      refine Gh_e ⟨⟨19, [(0, .ro (a0.map (cL cI_i64))), (1, .fn 63 []), (7, .i (a0.length : Int)), (8, .i s1)]⟩, []⟩ ?_
      refine W_seq ?_
      refine W_gh ?_
      refine W_block ?_
      refine W_seq ?_
      refine W_gh ?_
      refine W_reg ?_
      refine O_p 2 ?_
      refine O_nil ?_
      refine Gh_e ⟨⟨19, [(0, .ro (a0.map (cL cI_i64))), (1, .fn 63 []), (5, .i s1), (7, .i (a0.length : Int)), (8, .i s1)]⟩, []⟩ ?_
      refine W_seq ?_
      refine W_gh ?_
      refine W_reg ?_
      refine O_p 3 ?_
      refine O_idx (kd := .i64) (cL cI_i64) h (fun _ => rfl) (by kernel_rfl) (by kernel_rfl) (by kernel_rfl) (fun v4 e_v4 h => ?_)
      refine O_p 1 ?_
      refine O_callv (f := 63) (cap := []) (fun v => .bool v) h (.inr rfl) (by kernel_rfl) (ys := [.ro (v4.map cI_i64)]) (fun _ e => p63 _ _ e) (by kernel_rfl) (by kernel_rfl) (bels_cons (ro_bel okI_i64.bel _) rfl) (fun v5 e_v5 h => ?_)
      refine O_nil ?_
      refine Gh_one (s1 := ⟨⟨19, [(0, .ro (a0.map (cL cI_i64))), (1, .fn 63 []), (5, .i s1), (7, .i (a0.length : Int)), (8, .i s1), (16, .bool v5)]⟩, []⟩) (by kernel_rfl) ?_
      refine Gh_trunc0 (by kernel_rfl) ?_
      refine Gh_nil ?_
      refine W_gh ?_
      refine W_cond (c := v5) (by kernel_rfl) (fun c6 => ?_) (fun c6 => ?_)
      · replace h := fork_t c6 h
        refine W_seq ?_
        refine W_gh ?_
        refine W_reg ?_
        refine O_p 2 ?_
        refine O_nil ?_
        refine Gh_e ⟨⟨19, [(0, .ro (a0.map (cL cI_i64))), (1, .fn 63 []), (4, .i s1), (7, .i (a0.length : Int)), (8, .i s1), (16, .bool v5)]⟩, []⟩ ?_
        refine W_ret ?_
        replace h := Option.some.inj h; subst h
        refine ⟨_, rfl, fun h => ?_⟩
        replace h := Option.some.inj h; subst h
        exact Fin_free (l := [.i s1]) (by kernel_rfl) (by kernel_rfl) rfl
      · replace h := fork_f c6 h
        refine W_skip ?_
        refine Gh_e ⟨⟨19, [(0, .ro (a0.map (cL cI_i64))), (1, .fn 63 []), (7, .i (a0.length : Int)), (8, .i s1)]⟩, []⟩ ?_
        refine Gh_one (s1 := ⟨⟨19, [(0, .ro (a0.map (cL cI_i64))), (1, .fn 63 []), (7, .i (a0.length : Int)), (8, .i s1)]⟩, []⟩) (by kernel_rfl) ?_
        refine Gh_trunc0 (by kernel_rfl) ?_
        refine Gh_nil ?_
        refine W_gh ?_
        refine W_reg ?_
        refine O_p 2 ?_
        refine O_nil ?_
        refine Gh_e ⟨⟨19, [(0, .ro (a0.map (cL cI_i64))), (1, .fn 63 []), (7, .i (a0.length : Int)), (8, .i (addI .i64 s1 1))]⟩, []⟩ ?_
        refine Gh_one (s1 := ⟨⟨19, [(0, .ro (a0.map (cL cI_i64))), (1, .fn 63 []), (7, .i (a0.length : Int)), (8, .i (addI .i64 s1 1))]⟩, []⟩) (by kernel_rfl) ?_
        refine Gh_trunc0 (by kernel_rfl) ?_
        refine Gh_nil ?_
        replace h := Option.some.inj h; subst h
        exact ⟨_, rfl, by kernel_rfl⟩
    · replace h := fork_f c3 h
      refine W_exit ?_
      refine X_hit ?_
      refine Gh_one (s1 := ⟨⟨19, []⟩, []⟩) (by kernel_rfl) ?_
      refine Gh_trunc0 (by kernel_rfl) ?_
      refine Gh_nil ?_
      replace h := Option.some.inj h; subst h
      exact ⟨_, rfl, by kernel_rfl⟩
  · refine W_seq ?_
    refine W_reg ?_
    refine O_p 1 ?_
    refine O_nil ?_
    refine W_ret ?_
    replace h := Option.some.inj h; subst h
    exact Fin_free (l := [.i (-1)]) (by kernel_rfl) (by kernel_rfl) rfl

theorem p62_63 (a0 : (List (List Int))) (r : Bool) (h : m62_63 a0 = some r) : Pt E0 hp 62 [.ro (a0.map (cL cI_i64)), .fn 63 []] (.bool r) := by
  unfold m62_63 at h
  refine Pt_W (fn62) rfl (by decide) ?_
  refine W_seq ?_
  refine W_gh ?_
  refine W_reg ?_
  refine O_p 1 ?_
  refine O_nil ?_
  refine Gh_e ⟨⟨9, [(0, .ro (a0.map (cL cI_i64))), (1, .fn 63 [])]⟩, []⟩ ?_
  refine W_seq ?_
  refine W_gh ?_
  refine W_reg ?_
  refine O_p 2 ?_
  refine O_call (fun v => .i v) h (.inr rfl) (ys := [.ro (a0.map (cL cI_i64)), .fn 63 []]) (fun _ e => p90_63 _ _ e) (by kernel_rfl) (by kernel_rfl) (bels_cons (ro_bel (okL okI_i64).bel _) (bels_cons rfl rfl)) (fun v1 e_v1 h => ?_)
  refine O_p 2 ?_
  refine O_nil ?_
  refine Gh_e ⟨⟨9, [(4, .bool (decide (v1 ≥ 0)))]⟩, []⟩ ?_
  refine W_ret ?_
  replace h := Option.some.inj h; subst h
  exact Fin_free (l := [.bool (decide (v1 ≥ 0))]) (by kernel_rfl) (by kernel_rfl) rfl

theorem p27 (a0 : SBounds) (r : Bool) (h : m27 a0 = some r) : Pt E0 hp 27 [.agg (cSBounds a0)] (.bool r) := by
  unfold m27 at h
  refine Pt_W (fn27) rfl (by decide) ?_
  refine W_seq ?_
  refine W_gh ?_
  refine W_reg ?_
  refine O_p 2 ?_
  refine O_nil ?_
  refine Gh_e ⟨⟨15, [(1, .po 0 0)]⟩, [.lv 2 [.i a0.N, .ro (a0.Most.map (cL cI_i64))]]⟩ ?_
  refine W_seq ?_
  refine W_seq ?_
  refine W_joinS (fun v : Bool => ⟨⟨15, [(1, .po 0 0), (10, .bool v)]⟩, [.lv 2 [.i a0.N, .ro (a0.Most.map (cL cI_i64))]]⟩) h (fun w h => ?_) (fun w1 e_w1 h => ?_)
  · refine W_gh ?_
    refine W_reg ?_
    refine O_p 4 ?_
    refine O_fork (n := 6) (decide (a0.N > 6)) (by kernel_rfl) (fun c2 => ?_) (fun c2 => ?_)
    · replace h := fork_t c2 h
      refine O_p 4 ?_
      refine O_nil ?_
      refine Gh_e ⟨⟨15, [(1, .po 0 0), (10, .bool true)]⟩, [.lv 2 [.i a0.N, .ro (a0.Most.map (cL cI_i64))]]⟩ ?_
      replace h := Option.some.inj h; subst h
      show _ = _
      kernel_rfl
    · replace h := fork_f c2 h
      refine O_p 1 ?_
      refine O_call (fun v => .i v) h (.inr rfl) (ys := [.agg (cSBounds a0)]) (fun _ e => p28 _ _ e) (by kernel_rfl) (by kernel_rfl) (bels_cons (okSBounds.bel _) rfl) (fun v3 e_v3 h => ?_)
      refine O_p 2 ?_
      refine O_nil ?_
      refine Gh_e ⟨⟨15, [(1, .po 0 0), (10, .bool (v3 != 0))]⟩, [.lv 2 [.i a0.N, .ro (a0.Most.map (cL cI_i64))]]⟩ ?_
      replace h := Option.some.inj h; subst h
      show _ = _
      kernel_rfl
  · refine W_gh ?_
    refine W_cond (c := w1) (by kernel_rfl) (fun c4 => ?_) (fun c4 => ?_)
    · replace h := fork_t c4 h
      refine W_seq ?_
      refine W_reg ?_
      refine O_p 1 ?_
      refine O_nil ?_
      refine W_ret ?_
      replace h := Option.some.inj h; subst h
      exact Fin_free (l := [.bool false]) (by kernel_rfl) (by kernel_rfl) rfl
    · replace h := fork_f c4 h
      refine W_skip ?_
      refine Gh_e ⟨⟨15, [(1, .po 0 0)]⟩, [.lv 2 [.i a0.N, .ro (a0.Most.map (cL cI_i64))]]⟩ ?_
      refine W_seq ?_
      refine W_gh ?_
      refine W_reg ?_
      refine O_p 2 ?_
      refine O_call (fun v => .bool v) h (.inr rfl) (ys := [.ro (a0.Most.map (cL cI_i64)), .fn 63 []]) (fun _ e => p62_63 _ _ e) (by kernel_rfl) (by kernel_rfl) (bels_cons (ro_bel (okL okI_i64).bel _) (bels_cons rfl rfl)) (fun v5 e_v5 h => ?_)
      refine O_p 2 ?_
      refine O_nil ?_
      refine Gh_e ⟨⟨15, [(2, .bool (!v5))]⟩, [.lv 2 [.i a0.N, .ro (a0.Most.map (cL cI_i64))]]⟩ ?_
      refine W_ret ?_
      replace h := Option.some.inj h; subst h
      exact Fin_free (l := [.bool (!v5)]) (by kernel_rfl) (by kernel_rfl) rfl

theorem p66 (a0 : Int) (r : Bool) (h : m66 a0 = some r) : Pt E0 hp 66 [.i a0] (.bool r) := by
  unfold m66 at h
  refine Pt_W (fn66) rfl (by decide) ?_
  refine W_seq ?_
  refine W_gh ?_
  refine W_reg ?_
  refine O_p 1 ?_
  refine O_nil ?_
  refine Gh_e ⟨⟨6, [(0, .i a0)]⟩, []⟩ ?_
  refine W_seq ?_
  refine W_gh ?_
  refine W_reg ?_
  refine O_p 1 ?_
  refine O_call (fun v => .bool v) h (.inr rfl) (ys := [.i a0]) (fun _ e => p67 _ _ e) (by kernel_rfl) (by kernel_rfl) (bels_cons rfl rfl) (fun v1 e_v1 h => ?_)
  refine O_p 2 ?_
  refine O_nil ?_
  refine Gh_e ⟨⟨6, [(2, .bool (!v1))]⟩, []⟩ ?_
  refine W_ret ?_
  replace h := Option.some.inj h; subst h
  exact Fin_free (l := [.bool (!v1)]) (by kernel_rfl) (by kernel_rfl) rfl

theorem p77_66 (a0 : (List Int)) (r : Int) (h : m77_66 a0 = some r) : Pt E0 hp 77 [.ro (a0.map cI_i64), .fn 66 []] (.i r) := by
  unfold m77_66 at h
  refine Pt_W (fn77) rfl (by decide) ?_
  refine W_seq ?_
  refine W_gh ?_
  refine W_reg ?_
  refine O_p 1 ?_
  refine O_nil ?_
  refine Gh_e ⟨⟨19, [(0, .ro (a0.map cI_i64)), (1, .fn 66 [])]⟩, []⟩ ?_
  refine W_seq ?_
  refine W_seq ?_
  refine W_gh ?_
  refine W_reg ?_
  refine O_p 1 ?_
  refine O_len (l := a0) cI_i64 (by kernel_rfl) (by kernel_rfl) ?_
  refine O_p 1 ?_
  refine O_nil ?_
  refine Gh_e ⟨⟨19, [(0, .ro (a0.map cI_i64)), (1, .fn 66 []), (7, .i (a0.length : Int)), (8, .i 0)]⟩, []⟩ ?_
  refine W_loop (fun s1 : Int => ⟨⟨19, [(0, .ro (a0.map cI_i64)), (1, .fn 66 []), (7, .i (a0.length : Int)), (8, .i s1)]⟩, []⟩) (fun w2 : Unit => ⟨⟨19, []⟩, []⟩) h (by kernel_rfl) (fun s1 c h => ?_) (fun w2 h => ?_)
  · refine W_gh ?_
    refine W_seq ?_
    refine W_reg ?_
    refine O_p 1 ?_
    refine O_nil ?_
    refine W_seq ?_
    refine W_gh ?_
    refine W_cond (c := (decide (s1 < (a0.length : Int)))) (by kernel_rfl) (fun c3 => ?_) (fun c3 => ?_)
    · replace h := fork_t c3 h
      refine W_skip ?_
      refine Gh_e ⟨⟨19, [(0, .ro (a0.map cI_i64)), (1, .fn 66 []), (7, .i (a0.length : Int)), (8, .i s1)]⟩, []⟩ ?_
      refine W_seq ?_
      refine W_gh ?_
      refine W_block ?_
      refine W_seq ?_
      refine W_gh ?_
      refine W_reg ?_
      refine O_p 2 ?_
      refine O_nil ?_
      refine Gh_e ⟨⟨19, [(0, .ro (a0.map cI_i64)), (1, .fn 66 []), (5, .i s1), (7, .i (a0.length : Int)), (8, .i s1)]⟩, []⟩ ?_
      refine W_seq ?_
      refine W_gh ?_
      refine W_reg ?_
      refine O_p 3 ?_
      refine O_idx (kd := .i64) cI_i64 h (fun _ => rfl) (by kernel_rfl) (by kernel_rfl) (by kernel_rfl) (fun v4 e_v4 h => ?_)
      refine O_p 1 ?_
      refine O_callv (f := 66) (cap := []) (fun v => .bool v) h (.inr rfl) (by kernel_rfl) (ys := [.i v4]) (fun _ e => p66 _ _ e) (by kernel_rfl) (by kernel_rfl) (bels_cons rfl rfl) (fun v5 e_v5 h => ?_)
      refine O_nil ?_
      refine Gh_one (s1 := ⟨⟨19, [(0, .ro (a0.map cI_i64)), (1, .fn 66 []), (5, .i s1), (7, .i (a0.length : Int)), (8, .i s1), (16, .bool v5)]⟩, []⟩) (by kernel_rfl) ?_
      refine Gh_trunc0 (by kernel_rfl) ?_
      refine Gh_nil ?_
      refine W_gh ?_
      refine W_cond (c := v5) (by kernel_rfl) (fun c6 => ?_) (fun c6 => ?_)
      · replace h := fork_t c6 h
        refine W_seq ?_
        refine W_gh ?_
        refine W_reg ?_
        refine O_p 2 ?_
        refine O_nil ?_
        refine Gh_e ⟨⟨19, [(0, .ro (a0.map cI_i64)), (1, .fn 66 []), (4, .i s1), (7, .i (a0.length : Int)), (8, .i s1), (16, .bool v5)]⟩, []⟩ ?_
        refine W_ret ?_
        replace h := Option.some.inj h; subst h
        refine ⟨_, rfl, fun h => ?_⟩
        replace h := Option.some.inj h; subst h
        exact Fin_free (l := [.i s1]) (by kernel_rfl) (by kernel_rfl) rfl
      · replace h := fork_f c6 h
        refine W_skip ?_
        refine Gh_e ⟨⟨19, [(0, .ro (a0.map cI_i64)), (1, .fn 66 []), (7, .i (a0.length : Int)), (8, .i s1)]⟩, []⟩ ?_
        refine Gh_one (s1 := ⟨⟨19, [(0, .ro (a0.map cI_i64)), (1, .fn 66 []), (7, .i (a0.length : Int)), (8, .i s1)]⟩, []⟩) (by kernel_rfl) ?_
        refine Gh_trunc0 (by kernel_rfl) ?_
        refine Gh_nil ?_
        refine W_gh ?_
        refine W_reg ?_
        refine O_p 2 ?_
        refine O_nil ?_
        refine Gh_e ⟨⟨19, [(0, .ro (a0.map cI_i64)), (1, .fn 66 []), (7, .i (a0.length : Int)), (8, .i (addI .i64 s1 1))]⟩, []⟩ ?_
        refine Gh_one (s1 := ⟨⟨19, [(0, .ro (a0.map cI_i64)), (1, .fn 66 []), (7, .i (a0.length : Int)), (8, .i (addI .i64 s1 1))]⟩, []⟩) (by kernel_rfl) ?_
        refine Gh_trunc0 (by kernel_rfl) ?_
        refine Gh_nil ?_
        replace h := Option.some.inj h; subst h
        exact ⟨_, rfl, by kernel_rfl⟩
    · replace h := fork_f c3 h
      refine W_exit ?_
      refine X_hit ?_
      refine Gh_one (s1 := ⟨⟨19, []⟩, []⟩) (by kernel_rfl) ?_
      refine Gh_trunc0 (by kernel_rfl) ?_
      refine Gh_nil ?_
      replace h := Option.some.inj h; subst h
      exact ⟨_, rfl, by kernel_rfl⟩
  · refine W_seq ?_
    refine W_reg ?_
    refine O_p 1 ?_
    refine O_nil ?_
    refine W_ret ?_
    replace h := Option.some.inj h; subst h
    exact Fin_free (l := [.i (-1)]) (by kernel_rfl) (by kernel_rfl) rfl

theorem p39_66 (a0 : (List Int)) (r : Bool) (h : m39_66 a0 = some r) : Pt E0 hp 39 [.ro (a0.map cI_i64), .fn 66 []] (.bool r) := by
  unfold m39_66 at h
  refine Pt_W (fn39) rfl (by decide) ?_
  refine W_seq ?_
  refine W_gh ?_
  refine W_reg ?_
  refine O_p 1 ?_
  refine O_nil ?_
  refine Gh_e ⟨⟨9, [(0, .ro (a0.map cI_i64)), (1, .fn 66 [])]⟩, []⟩ ?_
  refine W_seq ?_
  refine W_gh ?_
  refine W_reg ?_
  refine O_p 2 ?_
  refine O_call (fun v => .i v) h (.inr rfl) (ys := [.ro (a0.map cI_i64), .fn 66 []]) (fun _ e => p77_66 _ _ e) (by kernel_rfl) (by kernel_rfl) (bels_cons (ro_bel okI_i64.bel _) (bels_cons rfl rfl)) (fun v1 e_v1 h => ?_)
  refine O_p 2 ?_
  refine O_nil ?_
  refine Gh_e ⟨⟨9, [(4, .bool (decide (v1 ≥ 0)))]⟩, []⟩ ?_
  refine W_ret ?_
  replace h := Option.some.inj h; subst h
  exact Fin_free (l := [.bool (decide (v1 ≥ 0))]) (by kernel_rfl) (by kernel_rfl) rfl

theorem p30 (a0 : SBounds) (a1 : (List Int)) (r : (Bool × Int)) (h : m30 a0 a1 = some r) : Pt E0 hp 30 [.agg (cSBounds a0), .ro (a1.map cI_i64)] (.tup [.bool r.1, .i r.2]) := by
  unfold m30 at h
  refine Pt_W (fn30) rfl (by decide) ?_
  refine W_seq ?_
  refine W_gh ?_
  refine W_reg ?_
  refine O_p 3 ?_
  refine O_nil ?_
  refine Gh_e ⟨⟨59, [(1, .ro (a1.map cI_i64)), (2, .po 0 0)]⟩, [.lv 2 [.i a0.N, .ro (a0.Most.map (cL cI_i64))]]⟩ ?_
  refine W_seq ?_
  refine W_seq ?_
  refine W_gh ?_
  refine W_reg ?_
  refine O_p 1 ?_
  refine O_call (fun v => .i v) h (.inr rfl) (ys := [.agg (cSBounds a0)]) (fun _ e => p32 _ _ e) (by kernel_rfl) (by kernel_rfl) (bels_cons (okSBounds.bel _) rfl) (fun v1 e_v1 h => ?_)
  refine O_p 1 ?_
  refine O_nil ?_
  refine Gh_e ⟨⟨59, [(1, .ro (a1.map cI_i64)), (2, .po 0 0), (6, .i v1)]⟩, [.lv 2 [.i a0.N, .ro (a0.Most.map (cL cI_i64))]]⟩ ?_
  refine W_seq ?_
  refine W_gh ?_
  refine W_reg ?_
  refine O_p 2 ?_
  refine O_nil ?_
  refine Gh_e ⟨⟨59, [(1, .ro (a1.map cI_i64)), (2, .po 0 0), (6, .i v1), (15, .bool (v1 != 0))]⟩, [.lv 2 [.i a0.N, .ro (a0.Most.map (cL cI_i64))]]⟩ ?_
  refine W_gh ?_
  refine W_cond (c := (v1 != 0)) (by kernel_rfl) (fun c2 => ?_) (fun c2 => ?_)
  · replace h := fork_t c2 h
    refine W_seq ?_
    refine W_gh ?_
    refine W_reg ?_
    refine O_p 3 ?_
    refine O_nil ?_
    refine Gh_e ⟨⟨59, [(1, .ro (a1.map cI_i64)), (2, .po 0 0), (4, .bool false), (5, .i v1), (15, .bool (v1 != 0))]⟩, [.lv 2 [.i a0.N, .ro (a0.Most.map (cL cI_i64))]]⟩ ?_
    refine W_ret ?_
    replace h := Option.some.inj h; subst h
    exact Fin_free (l := [.bool false, .i v1]) (by kernel_rfl) (by kernel_rfl) rfl
  · replace h := fork_f c2 h
    refine W_skip ?_
    refine Gh_e ⟨⟨59, [(1, .ro (a1.map cI_i64)), (2, .po 0 0)]⟩, [.lv 2 [.i a0.N, .ro (a0.Most.map (cL cI_i64))]]⟩ ?_
    refine W_seq ?_
    refine W_seq ?_
    refine W_gh ?_
    refine W_reg ?_
    refine O_p 1 ?_
    refine O_len (l := a1) cI_i64 (by kernel_rfl) (by kernel_rfl) ?_
    refine O_p 3 ?_
    refine O_nil ?_
    refine Gh_e ⟨⟨59, [(1, .ro (a1.map cI_i64)), (2, .po 0 0), (21, .bool ((a1.length : Int) != a0.N))]⟩, [.lv 2 [.i a0.N, .ro (a0.Most.map (cL cI_i64))]]⟩ ?_
    refine W_gh ?_
    refine W_cond (c := ((a1.length : Int) != a0.N)) (by kernel_rfl) (fun c3 => ?_) (fun c3 => ?_)
    · replace h := fork_t c3 h
      refine W_seq ?_
      refine W_reg ?_
      refine O_p 2 ?_
      refine O_nil ?_
      refine W_ret ?_
      replace h := Option.some.inj h; subst h
      exact Fin_free (l := [.bool false, .i 8]) (by kernel_rfl) (by kernel_rfl) rfl
    · replace h := fork_f c3 h
      refine W_skip ?_
      refine Gh_e ⟨⟨59, [(1, .ro (a1.map cI_i64)), (2, .po 0 0)]⟩, [.lv 2 [.i a0.N, .ro (a0.Most.map (cL cI_i64))]]⟩ ?_
      refine W_seq ?_
      refine W_seq ?_
      refine W_gh ?_
      refine W_reg ?_
      refine O_p 1 ?_
      refine O_call (fun v => .bool v) h (.inr rfl) (ys := [.ro (a1.map cI_i64), .fn 66 []]) (fun _ e => p39_66 _ _ e) (by kernel_rfl) (by kernel_rfl) (bels_cons (ro_bel okI_i64.bel _) (bels_cons rfl rfl)) (fun v4 e_v4 h => ?_)
      refine O_nil ?_
      refine Gh_e ⟨⟨59, [(1, .ro (a1.map cI_i64)), (2, .po 0 0), (23, .bool v4)]⟩, [.lv 2 [.i a0.N, .ro (a0.Most.map (cL cI_i64))]]⟩ ?_
      refine W_gh ?_
      refine W_cond (c := v4) (by kernel_rfl) (fun c5 => ?_) (fun c5 => ?_)
      · replace h := fork_t c5 h
        refine W_seq ?_
        refine W_reg ?_
        refine O_p 2 ?_
        refine O_nil ?_
        refine W_ret ?_
        replace h := Option.some.inj h; subst h
        exact Fin_free (l := [.bool false, .i 2]) (by kernel_rfl) (by kernel_rfl) rfl
      · replace h := fork_f c5 h
        refine W_skip ?_
        refine Gh_e ⟨⟨59, [(1, .ro (a1.map cI_i64)), (2, .po 0 0)]⟩, [.lv 2 [.i a0.N, .ro (a0.Most.map (cL cI_i64))]]⟩ ?_
        refine W_seq ?_
        refine W_gh ?_
        refine W_reg ?_
        refine O_p 2 ?_
        refine O_app (C := cI_i64) (id := 1) (nl := .norm) okI_i64 h rfl (by kernel_rfl) (by kernel_rfl) (by kernel_rfl) (by kernel_rfl) rfl (fun l6 e_l6 h => ?_)
        refine O_p 1 ?_
        refine O_nil ?_
        refine Gh_one (frz_own (id := 1) (nl := .norm) (sz := 1) (l := l6) okI_i64.bel (by kernel_rfl) (by kernel_rfl) rfl rfl (s1 := ⟨⟨59, [(1, .ro (a1.map cI_i64)), (2, .po 0 0), (7, .ro (l6.map cI_i64)), (24, .own 1 1 0 1), (25, .ro (a1.map cI_i64)), (26, .own 1 l6.length 0 l6.length)]⟩, [.lv 2 [.i a0.N, .ro (a0.Most.map (cL cI_i64))], .dead]⟩) (by kernel_rfl)) ?_
        refine Gh_one (s1 := ⟨⟨59, [(2, .po 0 0), (7, .ro (l6.map cI_i64))]⟩, [.lv 2 [.i a0.N, .ro (a0.Most.map (cL cI_i64))], .dead]⟩) (by kernel_rfl) ?_
        refine Gh_at (s1 := ⟨⟨59, [(2, .po 0 0), (7, .ro (l6.map cI_i64))]⟩, [.lv 2 [.i a0.N, .ro (a0.Most.map (cL cI_i64))], .dead]⟩) (by kernel_rfl) ?_
        refine Gh_trunc (s1 := ⟨⟨59, [(2, .po 0 0), (7, .ro (l6.map cI_i64))]⟩, [.lv 2 [.i a0.N, .ro (a0.Most.map (cL cI_i64))]]⟩) (by kernel_rfl) (tb_ref rfl (tb_free (ro_bel okI_i64.bel _) rfl)) (H1 := [.lv 2 [.i a0.N, .ro (a0.Most.map (cL cI_i64))]]) (by kernel_rfl) (ob_boxn (bn_free rfl (bn_free (ro_bel (okL okI_i64).bel _) rfl)) rfl) (by kernel_rfl) ?_
        refine Gh_nil ?_
        refine W_seq ?_
        refine W_seq ?_
        refine W_gh ?_
        refine W_reg ?_
        refine O_p 2 ?_
        refine O_len (l := a0.Most) (cL cI_i64) (by kernel_rfl) (by kernel_rfl) ?_
        refine O_p 1 ?_
        refine O_nil ?_
        refine Gh_e ⟨⟨59, [(7, .ro (l6.map cI_i64)), (28, .ro (a0.Most.map (cL cI_i64))), (29, .i (a0.Most.length : Int)), (30, .i 0)]⟩, [.lv 2 [.i a0.N, .ro (a0.Most.map (cL cI_i64))]]⟩ ?_
        refine W_loop (fun s7 : Int => ⟨⟨59, [(7, .ro (l6.map cI_i64)), (28, .ro (a0.Most.map (cL cI_i64))), (29, .i (a0.Most.length : Int)), (30, .i s7)]⟩, [.lv 2 [.i a0.N, .ro (a0.Most.map (cL cI_i64))]]⟩) (fun w8 : Unit => ⟨⟨59, []⟩, [.lv 2 [.i a0.N, .ro (a0.Most.map (cL cI_i64))]]⟩) h (by kernel_rfl) (fun s7 c h => ?_) (fun w8 h => ?_)
        · refine W_gh ?_
          refine W_seq ?_
          refine W_reg ?_
          refine O_p 1 ?_
          refine O_nil ?_
          refine W_seq ?_
          refine W_gh ?_
          refine W_cond (c := (decide (s7 < (a0.Most.length : Int)))) (by kernel_rfl) (fun c9 => ?_) (fun c9 => ?_)
          · replace h := fork_t c9 h
            refine W_skip ?_
            refine Gh_e ⟨⟨59, [(7, .ro (l6.map cI_i64)), (28, .ro (a0.Most.map (cL cI_i64))), (29, .i (a0.Most.length : Int)), (30, .i s7)]⟩, [.lv 2 [.i a0.N, .ro (a0.Most.map (cL cI_i64))]]⟩ ?_
            refine W_seq ?_
            refine W_gh ?_
            refine W_block ?_
            refine W_seq ?_
            refine W_gh ?_
            refine W_reg ?_
            refine O_p 1 ?_
            refine O_idx (kd := .i64) (cL cI_i64) h (fun _ => rfl) (by kernel_rfl) (by kernel_rfl) (by kernel_rfl) (fun v10 e_v10 h => ?_)
            refine O_p 3 ?_
            refine O_nil ?_
            refine Gh_e ⟨⟨59, [(7, .ro (l6.map cI_i64)), (8, .i s7), (9, .ro (v10.map cI_i64)), (28, .ro (a0.Most.map (cL cI_i64))), (29, .i (a0.Most.length : Int)), (30, .i s7)]⟩, [.lv 2 [.i a0.N, .ro (a0.Most.map (cL cI_i64))]]⟩ ?_
            refine W_seq ?_
            refine W_gh ?_
            refine W_reg ?_
            refine O_p 1 ?_
            refine O_len (l := v10) cI_i64 (by kernel_rfl) (by kernel_rfl) ?_
            refine O_p 1 ?_
            refine O_nil ?_
            refine Gh_e ⟨⟨59, [(7, .ro (l6.map cI_i64)), (8, .i s7), (28, .ro (a0.Most.map (cL cI_i64))), (29, .i (a0.Most.length : Int)), (30, .i s7), (35, .ro (v10.map cI_i64)), (36, .i (v10.length : Int)), (37, .i 0)]⟩, [.lv 2 [.i a0.N, .ro (a0.Most.map (cL cI_i64))]]⟩ ?_
            refine W_loop (fun s11 : Int => ⟨⟨59, [(7, .ro (l6.map cI_i64)), (8, .i s7), (28, .ro (a0.Most.map (cL cI_i64))), (29, .i (a0.Most.length : Int)), (30, .i s7), (35, .ro (v10.map cI_i64)), (36, .i (v10.length : Int)), (37, .i s11)]⟩, [.lv 2 [.i a0.N, .ro (a0.Most.map (cL cI_i64))]]⟩) (fun w12 : Unit => ⟨⟨59, [(7, .ro (l6.map cI_i64)), (28, .ro (a0.Most.map (cL cI_i64))), (29, .i (a0.Most.length : Int)), (30, .i s7)]⟩, [.lv 2 [.i a0.N, .ro (a0.Most.map (cL cI_i64))]]⟩) h (by kernel_rfl) (fun s11 c h => ?_) (fun w12 h => ?_)
            · refine W_gh ?_
              refine W_seq ?_
              refine W_reg ?_
              refine O_p 1 ?_
              refine O_nil ?_
              refine W_seq ?_
              refine W_gh ?_
              refine W_cond (c := (decide (s11 < (v10.length : Int)))) (by kernel_rfl) (fun c13 => ?_) (fun c13 => ?_)
              · replace h := fork_t c13 h
                refine W_skip ?_
                refine Gh_e ⟨⟨59, [(7, .ro (l6.map cI_i64)), (8, .i s7), (28, .ro (a0.Most.map (cL cI_i64))), (29, .i (a0.Most.length : Int)), (30, .i s7), (35, .ro (v10.map cI_i64)), (36, .i (v10.length : Int)), (37, .i s11)]⟩, [.lv 2 [.i a0.N, .ro (a0.Most.map (cL cI_i64))]]⟩ ?_
                refine W_seq ?_
                refine W_gh ?_
                refine W_block ?_
                refine W_seq ?_
                refine W_gh ?_
                refine W_reg ?_
                refine O_p 1 ?_
                refine O_idx (kd := .i64) cI_i64 h (fun _ => rfl) (by kernel_rfl) (by kernel_rfl) (by kernel_rfl) (fun v14 e_v14 h => ?_)
                refine O_p 3 ?_
                refine O_nil ?_
                refine Gh_e ⟨⟨59, [(7, .ro (l6.map cI_i64)), (8, .i s7), (10, .i s11), (11, .i v14), (28, .ro (a0.Most.map (cL cI_i64))), (29, .i (a0.Most.length : Int)), (30, .i s7), (35, .ro (v10.map cI_i64)), (36, .i (v10.length : Int)), (37, .i s11)]⟩, [.lv 2 [.i a0.N, .ro (a0.Most.map (cL cI_i64))]]⟩ ?_
                refine W_seq ?_
                refine W_joinS (fun v : Bool => ⟨⟨59, [(7, .ro (l6.map cI_i64)), (8, .i s7), (28, .ro (a0.Most.map (cL cI_i64))), (29, .i (a0.Most.length : Int)), (30, .i s7), (35, .ro (v10.map cI_i64)), (36, .i (v10.length : Int)), (37, .i s11), (56, .bool v)]⟩, [.lv 2 [.i a0.N, .ro (a0.Most.map (cL cI_i64))]]⟩) h (fun w h => ?_) (fun w15 e_w15 h => ?_)
                · refine W_gh ?_
                  refine W_draw ?_
                  refine O_p 3 ?_
                  refine O_fork (n := 44) (v14 != (-1099511627776)) (by kernel_rfl) (fun c16 => ?_) (fun c16 => ?_)
                  · replace h := fork_t c16 h
                    refine O_p 2 ?_
                    refine O_idx (kd := .i64) cI_i64 h (fun _ => rfl) (by kernel_rfl) (by kernel_rfl) (by kernel_rfl) (fun v17 e_v17 h => ?_)
                    refine O_p 3 ?_
                    refine O_idx (kd := .i64) cI_i64 h (fun _ => rfl) (by kernel_rfl) (by kernel_rfl) (by kernel_rfl) (fun v18 e_v18 h => ?_)
                    refine O_p 5 ?_
                    refine O_nil ?_
                    refine Gh_e ⟨⟨59, [(7, .ro (l6.map cI_i64)), (8, .i s7), (28, .ro (a0.Most.map (cL cI_i64))), (29, .i (a0.Most.length : Int)), (30, .i s7), (35, .ro (v10.map cI_i64)), (36, .i (v10.length : Int)), (37, .i s11), (56, .bool (decide ((subI .i64 v17 v18) > v14)))]⟩, [.lv 2 [.i a0.N, .ro (a0.Most.map (cL cI_i64))]]⟩ ?_
                    replace h := Option.some.inj h; subst h
                    show _ = _
                    kernel_rfl
                  · replace h := fork_f c16 h
                    refine O_p 12 ?_
                    refine O_nil ?_
                    refine Gh_e ⟨⟨59, [(7, .ro (l6.map cI_i64)), (8, .i s7), (28, .ro (a0.Most.map (cL cI_i64))), (29, .i (a0.Most.length : Int)), (30, .i s7), (35, .ro (v10.map cI_i64)), (36, .i (v10.length : Int)), (37, .i s11), (56, .bool false)]⟩, [.lv 2 [.i a0.N, .ro (a0.Most.map (cL cI_i64))]]⟩ ?_
                    replace h := Option.some.inj h; subst h
                    show _ = _
                    kernel_rfl
                · refine W_gh ?_
                  refine W_cond (c := w15) (by kernel_rfl) (fun c19 => ?_) (fun c19 => ?_)
                  · replace h := fork_t c19 h
                    refine W_seq ?_
                    refine W_reg ?_
                    refine O_p 2 ?_
                    refine O_nil ?_
                    refine W_ret ?_
                    replace h := Option.some.inj h; subst h
                    refine ⟨_, rfl, fun h => ?_⟩
                    replace h := Option.some.inj h; subst h
                    refine ⟨_, rfl, fun h => ?_⟩
                    replace h := Option.some.inj h; subst h
                    exact Fin_free (l := [.bool false, .i 0]) (by kernel_rfl) (by kernel_rfl) rfl
                  · replace h := fork_f c19 h
                    refine W_skip ?_
                    refine Gh_e ⟨⟨59, [(7, .ro (l6.map cI_i64)), (8, .i s7), (28, .ro (a0.Most.map (cL cI_i64))), (29, .i (a0.Most.length : Int)), (30, .i s7), (35, .ro (v10.map cI_i64)), (36, .i (v10.length : Int)), (37, .i s11)]⟩, [.lv 2 [.i a0.N, .ro (a0.Most.map (cL cI_i64))]]⟩ ?_
                    refine Gh_e ⟨⟨59, [(7, .ro (l6.map cI_i64)), (8, .i s7), (28, .ro (a0.Most.map (cL cI_i64))), (29, .i (a0.Most.length : Int)), (30, .i s7), (35, .ro (v10.map cI_i64)), (36, .i (v10.length : Int)), (37, .i s11)]⟩, [.lv 2 [.i a0.N, .ro (a0.Most.map (cL cI_i64))]]⟩ ?_
                    refine W_gh ?_
                    refine W_reg ?_
                    refine O_p 2 ?_
                    refine O_nil ?_
                    refine Gh_e ⟨⟨59, [(7, .ro (l6.map cI_i64)), (8, .i s7), (28, .ro (a0.Most.map (cL cI_i64))), (29, .i (a0.Most.length : Int)), (30, .i s7), (35, .ro (v10.map cI_i64)), (36, .i (v10.length : Int)), (37, .i (addI .i64 s11 1))]⟩, [.lv 2 [.i a0.N, .ro (a0.Most.map (cL cI_i64))]]⟩ ?_
                    refine Gh_e ⟨⟨59, [(7, .ro (l6.map cI_i64)), (8, .i s7), (28, .ro (a0.Most.map (cL cI_i64))), (29, .i (a0.Most.length : Int)), (30, .i s7), (35, .ro (v10.map cI_i64)), (36, .i (v10.length : Int)), (37, .i (addI .i64 s11 1))]⟩, [.lv 2 [.i a0.N, .ro (a0.Most.map (cL cI_i64))]]⟩ ?_
                    replace h := Option.some.inj h; subst h
                    exact ⟨_, rfl, by kernel_rfl⟩
              · replace h := fork_f c13 h
                refine W_exit ?_
                refine X_hit ?_
                refine Gh_e ⟨⟨59, [(7, .ro (l6.map cI_i64)), (28, .ro (a0.Most.map (cL cI_i64))), (29, .i (a0.Most.length : Int)), (30, .i s7)]⟩, [.lv 2 [.i a0.N, .ro (a0.Most.map (cL cI_i64))]]⟩ ?_
                replace h := Option.some.inj h; subst h
                exact ⟨_, rfl, by kernel_rfl⟩
            · refine Gh_e ⟨⟨59, [(7, .ro (l6.map cI_i64)), (28, .ro (a0.Most.map (cL cI_i64))), (29, .i (a0.Most.length : Int)), (30, .i s7)]⟩, [.lv 2 [.i a0.N, .ro (a0.Most.map (cL cI_i64))]]⟩ ?_
              refine W_gh ?_
              refine W_reg ?_
              refine O_p 2 ?_
              refine O_nil ?_
              refine Gh_e ⟨⟨59, [(7, .ro (l6.map cI_i64)), (28, .ro (a0.Most.map (cL cI_i64))), (29, .i (a0.Most.length : Int)), (30, .i (addI .i64 s7 1))]⟩, [.lv 2 [.i a0.N, .ro (a0.Most.map (cL cI_i64))]]⟩ ?_
              refine Gh_e ⟨⟨59, [(7, .ro (l6.map cI_i64)), (28, .ro (a0.Most.map (cL cI_i64))), (29, .i (a0.Most.length : Int)), (30, .i (addI .i64 s7 1))]⟩, [.lv 2 [.i a0.N, .ro (a0.Most.map (cL cI_i64))]]⟩ ?_
              replace h := Option.some.inj h; subst h
              exact ⟨_, rfl, by kernel_rfl⟩
          · replace h := fork_f c9 h
            refine W_exit ?_
            refine X_hit ?_
            refine Gh_e ⟨⟨59, []⟩, [.lv 2 [.i a0.N, .ro (a0.Most.map (cL cI_i64))]]⟩ ?_
            replace h := Option.some.inj h; subst h
            exact ⟨_, rfl, by kernel_rfl⟩
        · refine W_seq ?_
          refine W_reg ?_
          refine O_p 2 ?_
          refine O_nil ?_
          refine W_ret ?_
          replace h := Option.some.inj h; subst h
          exact Fin_free (l := [.bool true, .i 0]) (by kernel_rfl) (by kernel_rfl) rfl

theorem p16 (a0 : SBounds) (a1 : SBounds) (r : Bool) (h : m16 a0 a1 = some r) : Pt E0 hp 16 [.agg (cSBounds a0), .agg (cSBounds a1)] (.bool r) := by
  unfold m16 at h
  refine Pt_W (fn16) rfl (by decide) ?_
  refine W_seq ?_
  refine W_gh ?_
  refine W_reg ?_
  refine O_p 3 ?_
  refine O_nil ?_
  refine Gh_e ⟨⟨68, [(2, .po 0 0), (3, .po 1 0)]⟩, [.lv 2 [.i a0.N, .ro (a0.Most.map (cL cI_i64))], .lv 2 [.i a1.N, .ro (a1.Most.map (cL cI_i64))]]⟩ ?_
  refine W_seq ?_
  refine W_seq ?_
  refine W_cut ⟨⟨68, [(2, .po 0 0), (3, .po 1 0), (20, .bool ((a0.N != a1.N) || ((a0.Most.length : Int) != (a1.Most.length : Int))))]⟩, [.lv 2 [.i a0.N, .ro (a0.Most.map (cL cI_i64))], .lv 2 [.i a1.N, .ro (a1.Most.map (cL cI_i64))]]⟩ ?_ ?_
  · generalize e_g1 : ((a0.N != a1.N) || ((a0.Most.length : Int) != (a1.Most.length : Int))) = g1
    refine W_gh ?_
    refine W_reg ?_
    refine O_p 6 ?_
    refine O_fork (n := 12) (a0.N != a1.N) (by kernel_rfl) (fun c2 => ?_) (fun c2 => ?_)
    · skip
      refine O_p 8 ?_
      refine O_nil ?_
      refine Gh_e ⟨⟨68, [(2, .po 0 0), (3, .po 1 0), (20, .bool true)]⟩, [.lv 2 [.i a0.N, .ro (a0.Most.map (cL cI_i64))], .lv 2 [.i a1.N, .ro (a1.Most.map (cL cI_i64))]]⟩ ?_
      have q := e_g1; simp only [c2, cond_true, cond_false, Bool.true_and, Bool.false_and, Bool.true_or, Bool.false_or] at q; subst q
      show _ = _
      kernel_rfl
    · skip
      refine O_p 2 ?_
      refine O_len (l := a0.Most) (cL cI_i64) (by kernel_rfl) (by kernel_rfl) ?_
      refine O_p 2 ?_
      refine O_len (l := a1.Most) (cL cI_i64) (by kernel_rfl) (by kernel_rfl) ?_
      refine O_p 2 ?_
      refine O_nil ?_
      refine Gh_e ⟨⟨68, [(2, .po 0 0), (3, .po 1 0), (20, .bool ((a0.Most.length : Int) != (a1.Most.length : Int)))]⟩, [.lv 2 [.i a0.N, .ro (a0.Most.map (cL cI_i64))], .lv 2 [.i a1.N, .ro (a1.Most.map (cL cI_i64))]]⟩ ?_
      have q := e_g1; simp only [c2, cond_true, cond_false, Bool.true_and, Bool.false_and, Bool.true_or, Bool.false_or] at q; subst q
      show _ = _
      kernel_rfl
  · refine W_gh ?_
    refine W_cond (c := ((a0.N != a1.N) || ((a0.Most.length : Int) != (a1.Most.length : Int)))) (by kernel_rfl) (fun c3 => ?_) (fun c3 => ?_)
    · replace h := fork_t c3 h
      refine W_seq ?_
      refine W_reg ?_
      refine O_p 1 ?_
      refine O_nil ?_
      refine W_ret ?_
      replace h := Option.some.inj h; subst h
      exact Fin_free (l := [.bool false]) (by kernel_rfl) (by kernel_rfl) rfl
    · replace h := fork_f c3 h
      refine W_skip ?_
      refine Gh_e ⟨⟨68, [(2, .po 0 0), (3, .po 1 0)]⟩, [.lv 2 [.i a0.N, .ro (a0.Most.map (cL cI_i64))], .lv 2 [.i a1.N, .ro (a1.Most.map (cL cI_i64))]]⟩ ?_
      refine W_seq ?_
      refine W_seq ?_
      refine W_reg ?_
      refine O_p 1 ?_
      refine O_nil ?_
      refine W_loop (fun s4 : Int => ⟨⟨68, [(2, .po 0 0), (3, .po 1 0), (5, .i s4)]⟩, [.lv 2 [.i a0.N, .ro (a0.Most.map (cL cI_i64))], .lv 2 [.i a1.N, .ro (a1.Most.map (cL cI_i64))]]⟩) (fun w5 : Unit => ⟨⟨68, []⟩, [.lv 2 [.i a0.N, .ro (a0.Most.map (cL cI_i64))], .lv 2 [.i a1.N, .ro (a1.Most.map (cL cI_i64))]]⟩) h (by kernel_rfl) (fun s4 c h => ?_) (fun w5 h => ?_)
      · refine W_gh ?_
        refine W_seq ?_
        refine W_seq ?_
        refine W_gh ?_
        refine W_reg ?_
        refine O_p 3 ?_
        refine O_len (l := a0.Most) (cL cI_i64) (by kernel_rfl) (by kernel_rfl) ?_
        refine O_p 1 ?_
        refine O_nil ?_
        refine Gh_e ⟨⟨68, [(2, .po 0 0), (3, .po 1 0), (5, .i s4), (25, .bool (decide (s4 < (a0.Most.length : Int))))]⟩, [.lv 2 [.i a0.N, .ro (a0.Most.map (cL cI_i64))], .lv 2 [.i a1.N, .ro (a1.Most.map (cL cI_i64))]]⟩ ?_
        refine W_gh ?_
        refine W_cond (c := (decide (s4 < (a0.Most.length : Int)))) (by kernel_rfl) (fun c6 => ?_) (fun c6 => ?_)
        · replace h := fork_t c6 h
          refine W_skip ?_
          refine Gh_e ⟨⟨68, [(2, .po 0 0), (3, .po 1 0), (5, .i s4)]⟩, [.lv 2 [.i a0.N, .ro (a0.Most.map (cL cI_i64))], .lv 2 [.i a1.N, .ro (a1.Most.map (cL cI_i64))]]⟩ ?_
          refine W_seq ?_
          refine W_gh ?_
          refine W_block ?_
          refine W_seq ?_
          refine W_seq ?_
          refine W_gh ?_
          refine W_draw ?_
          refine O_p 3 ?_
          refine O_idx (kd := .i64) (cL cI_i64) h (fun _ => rfl) (by kernel_rfl) (by kernel_rfl) (by kernel_rfl) (fun v7 e_v7 h => ?_)
          refine O_p 1 ?_
          refine O_len (l := v7) cI_i64 (by kernel_rfl) (by kernel_rfl) ?_
          refine O_p 3 ?_
          refine O_idx (kd := .i64) (cL cI_i64) h (fun _ => rfl) (by kernel_rfl) (by kernel_rfl) (by kernel_rfl) (fun v8 e_v8 h => ?_)
          refine O_p 1 ?_
          refine O_len (l := v8) cI_i64 (by kernel_rfl) (by kernel_rfl) ?_
          refine O_p 1 ?_
          refine O_nil ?_
          refine Gh_e ⟨⟨68, [(2, .po 0 0), (3, .po 1 0), (5, .i s4), (40, .bool ((v7.length : Int) != (v8.length : Int)))]⟩, [.lv 2 [.i a0.N, .ro (a0.Most.map (cL cI_i64))], .lv 2 [.i a1.N, .ro (a1.Most.map (cL cI_i64))]]⟩ ?_
          refine W_gh ?_
          refine W_cond (c := ((v7.length : Int) != (v8.length : Int))) (by kernel_rfl) (fun c9 => ?_) (fun c9 => ?_)
          · replace h := fork_t c9 h
            refine W_seq ?_
            refine W_reg ?_
            refine O_p 1 ?_
            refine O_nil ?_
            refine W_ret ?_
            replace h := Option.some.inj h; subst h
            refine ⟨_, rfl, fun h => ?_⟩
            replace h := Option.some.inj h; subst h
            exact Fin_free (l := [.bool false]) (by kernel_rfl) (by kernel_rfl) rfl
          · replace h := fork_f c9 h
            refine W_skip ?_
            refine Gh_e ⟨⟨68, [(2, .po 0 0), (3, .po 1 0), (5, .i s4)]⟩, [.lv 2 [.i a0.N, .ro (a0.Most.map (cL cI_i64))], .lv 2 [.i a1.N, .ro (a1.Most.map (cL cI_i64))]]⟩ ?_
            refine W_seq ?_
            refine W_reg ?_
            refine O_p 1 ?_
            refine O_nil ?_
            refine W_loop (fun s10 : Int => ⟨⟨68, [(2, .po 0 0), (3, .po 1 0), (5, .i s4), (6, .i s10)]⟩, [.lv 2 [.i a0.N, .ro (a0.Most.map (cL cI_i64))], .lv 2 [.i a1.N, .ro (a1.Most.map (cL cI_i64))]]⟩) (fun w11 : Unit => ⟨⟨68, [(2, .po 0 0), (3, .po 1 0), (5, .i s4)]⟩, [.lv 2 [.i a0.N, .ro (a0.Most.map (cL cI_i64))], .lv 2 [.i a1.N, .ro (a1.Most.map (cL cI_i64))]]⟩) h (by kernel_rfl) (fun s10 c h => ?_) (fun w11 h => ?_)
            · refine W_gh ?_
              refine W_seq ?_
              refine W_seq ?_
              refine W_gh ?_
              refine W_reg ?_
              refine O_p 4 ?_
              refine O_idx (kd := .i64) (cL cI_i64) h (fun _ => rfl) (by kernel_rfl) (by kernel_rfl) (by kernel_rfl) (fun v12 e_v12 h => ?_)
              refine O_p 1 ?_
              refine O_len (l := v12) cI_i64 (by kernel_rfl) (by kernel_rfl) ?_
              refine O_p 1 ?_
              refine O_nil ?_
              refine Gh_e ⟨⟨68, [(2, .po 0 0), (3, .po 1 0), (5, .i s4), (6, .i s10), (48, .bool (decide (s10 < (v12.length : Int))))]⟩, [.lv 2 [.i a0.N, .ro (a0.Most.map (cL cI_i64))], .lv 2 [.i a1.N, .ro (a1.Most.map (cL cI_i64))]]⟩ ?_
              refine W_gh ?_
              refine W_cond (c := (decide (s10 < (v12.length : Int)))) (by kernel_rfl) (fun c13 => ?_) (fun c13 => ?_)
              · replace h := fork_t c13 h
                refine W_skip ?_
                refine Gh_e ⟨⟨68, [(2, .po 0 0), (3, .po 1 0), (5, .i s4), (6, .i s10)]⟩, [.lv 2 [.i a0.N, .ro (a0.Most.map (cL cI_i64))], .lv 2 [.i a1.N, .ro (a1.Most.map (cL cI_i64))]]⟩ ?_
                refine W_seq ?_
                refine W_gh ?_
                refine W_block ?_
                refine W_seq ?_
                refine W_gh ?_
                refine W_draw ?_
                refine O_p 3 ?_
                refine O_idx (kd := .i64) (cL cI_i64) h (fun _ => rfl) (by kernel_rfl) (by kernel_rfl) (by kernel_rfl) (fun v14 e_v14 h => ?_)
                refine O_p 2 ?_
                refine O_idx (kd := .i64) cI_i64 h (fun _ => rfl) (by kernel_rfl) (by kernel_rfl) (by kernel_rfl) (fun v15 e_v15 h => ?_)
                refine O_p 4 ?_
                refine O_idx (kd := .i64) (cL cI_i64) h (fun _ => rfl) (by kernel_rfl) (by kernel_rfl) (by kernel_rfl) (fun v16 e_v16 h => ?_)
                refine O_p 2 ?_
                refine O_idx (kd := .i64) cI_i64 h (fun _ => rfl) (by kernel_rfl) (by kernel_rfl) (by kernel_rfl) (fun v17 e_v17 h => ?_)
                refine O_p 2 ?_
                refine O_nil ?_
                refine Gh_e ⟨⟨68, [(2, .po 0 0), (3, .po 1 0), (5, .i s4), (6, .i s10), (67, .bool (v15 != v17))]⟩, [.lv 2 [.i a0.N, .ro (a0.Most.map (cL cI_i64))], .lv 2 [.i a1.N, .ro (a1.Most.map (cL cI_i64))]]⟩ ?_
                refine W_gh ?_
                refine W_cond (c := (v15 != v17)) (by kernel_rfl) (fun c18 => ?_) (fun c18 => ?_)
                · replace h := fork_t c18 h
                  refine W_seq ?_
                  refine W_reg ?_
                  refine O_p 1 ?_
                  refine O_nil ?_
                  refine W_ret ?_
                  replace h := Option.some.inj h; subst h
                  refine ⟨_, rfl, fun h => ?_⟩
                  replace h := Option.some.inj h; subst h
                  refine ⟨_, rfl, fun h => ?_⟩
                  replace h := Option.some.inj h; subst h
                  exact Fin_free (l := [.bool false]) (by kernel_rfl) (by kernel_rfl) rfl
                · replace h := fork_f c18 h
                  refine W_skip ?_
                  refine Gh_e ⟨⟨68, [(2, .po 0 0), (3, .po 1 0), (5, .i s4), (6, .i s10)]⟩, [.lv 2 [.i a0.N, .ro (a0.Most.map (cL cI_i64))], .lv 2 [.i a1.N, .ro (a1.Most.map (cL cI_i64))]]⟩ ?_
                  refine Gh_e ⟨⟨68, [(2, .po 0 0), (3, .po 1 0), (5, .i s4), (6, .i s10)]⟩, [.lv 2 [.i a0.N, .ro (a0.Most.map (cL cI_i64))], .lv 2 [.i a1.N, .ro (a1.Most.map (cL cI_i64))]]⟩ ?_
                  refine W_gh ?_
                  refine W_reg ?_
                  refine O_p 3 ?_
                  refine O_nil ?_
                  refine Gh_e ⟨⟨68, [(2, .po 0 0), (3, .po 1 0), (5, .i s4), (6, .i (addI .i64 s10 1))]⟩, [.lv 2 [.i a0.N, .ro (a0.Most.map (cL cI_i64))], .lv 2 [.i a1.N, .ro (a1.Most.map (cL cI_i64))]]⟩ ?_
                  refine Gh_e ⟨⟨68, [(2, .po 0 0), (3, .po 1 0), (5, .i s4), (6, .i (addI .i64 s10 1))]⟩, [.lv 2 [.i a0.N, .ro (a0.Most.map (cL cI_i64))], .lv 2 [.i a1.N, .ro (a1.Most.map (cL cI_i64))]]⟩ ?_
                  replace h := Option.some.inj h; subst h
                  exact ⟨_, rfl, by kernel_rfl⟩
              · replace h := fork_f c13 h
                refine W_exit ?_
                refine X_hit ?_
                refine Gh_e ⟨⟨68, [(2, .po 0 0), (3, .po 1 0), (5, .i s4)]⟩, [.lv 2 [.i a0.N, .ro (a0.Most.map (cL cI_i64))], .lv 2 [.i a1.N, .ro (a1.Most.map (cL cI_i64))]]⟩ ?_
                replace h := Option.some.inj h; subst h
                exact ⟨_, rfl, by kernel_rfl⟩
            · refine Gh_e ⟨⟨68, [(2, .po 0 0), (3, .po 1 0), (5, .i s4)]⟩, [.lv 2 [.i a0.N, .ro (a0.Most.map (cL cI_i64))], .lv 2 [.i a1.N, .ro (a1.Most.map (cL cI_i64))]]⟩ ?_
              refine W_gh ?_
              refine W_reg ?_
              refine O_p 3 ?_
              refine O_nil ?_
              refine Gh_e ⟨⟨68, [(2, .po 0 0), (3, .po 1 0), (5, .i (addI .i64 s4 1))]⟩, [.lv 2 [.i a0.N, .ro (a0.Most.map (cL cI_i64))], .lv 2 [.i a1.N, .ro (a1.Most.map (cL cI_i64))]]⟩ ?_
              refine Gh_e ⟨⟨68, [(2, .po 0 0), (3, .po 1 0), (5, .i (addI .i64 s4 1))]⟩, [.lv 2 [.i a0.N, .ro (a0.Most.map (cL cI_i64))], .lv 2 [.i a1.N, .ro (a1.Most.map (cL cI_i64))]]⟩ ?_
              replace h := Option.some.inj h; subst h
              exact ⟨_, rfl, by kernel_rfl⟩
        · replace h := fork_f c6 h
          refine W_exit ?_
          refine X_hit ?_
          refine Gh_e ⟨⟨68, []⟩, [.lv 2 [.i a0.N, .ro (a0.Most.map (cL cI_i64))], .lv 2 [.i a1.N, .ro (a1.Most.map (cL cI_i64))]]⟩ ?_
          replace h := Option.some.inj h; subst h
          exact ⟨_, rfl, by kernel_rfl⟩
      · refine W_seq ?_
        refine W_reg ?_
        refine O_p 1 ?_
        refine O_nil ?_
        refine W_ret ?_
        replace h := Option.some.inj h; subst h
        exact Fin_free (l := [.bool true]) (by kernel_rfl) (by kernel_rfl) rfl

theorem p45 (a0 : Int) (r : Bool) (h : m45 a0 = some r) : Pt E0 hp 45 [.i a0] (.bool r) := by
  unfold m45 at h
  refine Pt_W (fn45) rfl (by decide) ?_
  refine W_seq ?_
  refine W_gh ?_
  refine W_reg ?_
  refine O_p 1 ?_
  refine O_nil ?_
  refine Gh_e ⟨⟨9, [(0, .i a0)]⟩, []⟩ ?_
  refine W_seq ?_
  refine W_cut ⟨⟨9, [(2, .bool ((decide (a0 < (-1000000))) || (decide (a0 > 1000000))))]⟩, []⟩ ?_ ?_
  · generalize e_g1 : ((decide (a0 < (-1000000))) || (decide (a0 > 1000000))) = g1
    refine W_gh ?_
    refine W_reg ?_
    refine O_p 3 ?_
    refine O_fork (n := 5) (decide (a0 < (-1000000))) (by kernel_rfl) (fun c2 => ?_) (fun c2 => ?_)
    · skip
      refine O_p 4 ?_
      refine O_nil ?_
      refine Gh_e ⟨⟨9, [(2, .bool true)]⟩, []⟩ ?_
      have q := e_g1; simp only [c2, cond_true, cond_false, Bool.true_and, Bool.false_and, Bool.true_or, Bool.false_or] at q; subst q
      show _ = _
      kernel_rfl
    · skip
      refine O_p 4 ?_
      refine O_nil ?_
      refine Gh_e ⟨⟨9, [(2, .bool (decide (a0 > 1000000)))]⟩, []⟩ ?_
      have q := e_g1; simp only [c2, cond_true, cond_false, Bool.true_and, Bool.false_and, Bool.true_or, Bool.false_or] at q; subst q
      show _ = _
      kernel_rfl
  · refine W_ret ?_
    replace h := Option.some.inj h; subst h
    exact Fin_free (l := [.bool ((decide (a0 < (-1000000))) || (decide (a0 > 1000000)))]) (by kernel_rfl) (by kernel_rfl) rfl

theorem p77_45 (a0 : (List Int)) (r : Int) (h : m77_45 a0 = some r) : Pt E0 hp 77 [.ro (a0.map cI_i64), .fn 45 []] (.i r) := by
  unfold m77_45 at h
  refine Pt_W (fn77) rfl (by decide) ?_
  refine W_seq ?_
  refine W_gh ?_
  refine W_reg ?_
  refine O_p 1 ?_
  refine O_nil ?_
  refine Gh_e ⟨⟨19, [(0, .ro (a0.map cI_i64)), (1, .fn 45 [])]⟩, []⟩ ?_
  refine W_seq ?_
  refine W_seq ?_
  refine W_gh ?_
  refine W_reg ?_
  refine O_p 1 ?_
  refine O_len (l := a0) cI_i64 (by kernel_rfl) (by kernel_rfl) ?_
  refine O_p 1 ?_
  refine O_nil ?_
  refine Gh_e ⟨⟨19, [(0, .ro (a0.map cI_i64)), (1, .fn 45 []), (7, .i (a0.length : Int)), (8, .i 0)]⟩, []⟩ ?_
  refine W_loop (fun s1 : Int => ⟨⟨19, [(0, .ro (a0.map cI_i64)), (1, .fn 45 []), (7, .i (a0.length : Int)), (8, .i s1)]⟩, []⟩) (fun w2 : Unit => ⟨⟨19, []⟩, []⟩) h (by kernel_rfl) (fun s1 c h => ?_) (fun w2 h => ?_)
  · refine W_gh ?_
    refine W_seq ?_
    refine W_reg ?_
    refine O_p 1 ?_
    refine O_nil ?_
    refine W_seq ?_
    refine W_gh ?_
    refine W_cond (c := (decide (s1 < (a0.length : Int)))) (by kernel_rfl) (fun c3 => ?_) (fun c3 => ?_)
    · replace h := fork_t c3 h
      refine W_skip ?_
      refine Gh_e ⟨⟨19, [(0, .ro (a0.map cI_i64)), (1, .fn 45 []), (7, .i (a0.length : Int)), (8, .i s1)]⟩, []⟩ ?_
      refine W_seq ?_
      refine W_gh ?_
      refine W_block ?_
      refine W_seq ?_
      refine W_gh ?_
      refine W_reg ?_
      refine O_p 2 ?_
      refine O_nil ?_
      refine Gh_e ⟨⟨19, [(0, .ro (a0.map cI_i64)), (1, .fn 45 []), (5, .i s1), (7, .i (a0.length : Int)), (8, .i s1)]⟩, []⟩ ?_
      refine W_seq ?_
      refine W_gh ?_
      refine W_reg ?_
      refine O_p 3 ?_
      refine O_idx (kd := .i64) cI_i64 h (fun _ => rfl) (by kernel_rfl) (by kernel_rfl) (by kernel_rfl) (fun v4 e_v4 h => ?_)
      refine O_p 1 ?_
      refine O_callv (f := 45) (cap := []) (fun v => .bool v) h (.inr rfl) (by kernel_rfl) (ys := [.i v4]) (fun _ e => p45 _ _ e) (by kernel_rfl) (by kernel_rfl) (bels_cons rfl rfl) (fun v5 e_v5 h => ?_)
      refine O_nil ?_
      refine Gh_one (s1 := ⟨⟨19, [(0, .ro (a0.map cI_i64)), (1, .fn 45 []), (5, .i s1), (7, .i (a0.length : Int)), (8, .i s1), (16, .bool v5)]⟩, []⟩) (by kernel_rfl) ?_
      refine Gh_trunc0 (by kernel_rfl) ?_
      refine Gh_nil ?_
      refine W_gh ?_
      refine W_cond (c := v5) (by kernel_rfl) (fun c6 => ?_) (fun c6 => ?_)
      · replace h := fork_t c6 h
        refine W_seq ?_
        refine W_gh ?_
        refine W_reg ?_
        refine O_p 2 ?_
        refine O_nil ?_
        refine Gh_e ⟨⟨19, [(0, .ro (a0.map cI_i64)), (1, .fn 45 []), (4, .i s1), (7, .i (a0.length : Int)), (8, .i s1), (16, .bool v5)]⟩, []⟩ ?_
        refine W_ret ?_
        replace h := Option.some.inj h; subst h
        refine ⟨_, rfl, fun h => ?_⟩
        replace h := Option.some.inj h; subst h
        exact Fin_free (l := [.i s1]) (by kernel_rfl) (by kernel_rfl) rfl
      · replace h := fork_f c6 h
        refine W_skip ?_
        refine Gh_e ⟨⟨19, [(0, .ro (a0.map cI_i64)), (1, .fn 45 []), (7, .i (a0.length : Int)), (8, .i s1)]⟩, []⟩ ?_
        refine Gh_one (s1 := ⟨⟨19, [(0, .ro (a0.map cI_i64)), (1, .fn 45 []), (7, .i (a0.length : Int)), (8, .i s1)]⟩, []⟩) (by kernel_rfl) ?_
        refine Gh_trunc0 (by kernel_rfl) ?_
        refine Gh_nil ?_
        refine W_gh ?_
        refine W_reg ?_
        refine O_p 2 ?_
        refine O_nil ?_
        refine Gh_e ⟨⟨19, [(0, .ro (a0.map cI_i64)), (1, .fn 45 []), (7, .i (a0.length : Int)), (8, .i (addI .i64 s1 1))]⟩, []⟩ ?_
        refine Gh_one (s1 := ⟨⟨19, [(0, .ro (a0.map cI_i64)), (1, .fn 45 []), (7, .i (a0.length : Int)), (8, .i (addI .i64 s1 1))]⟩, []⟩) (by kernel_rfl) ?_
        refine Gh_trunc0 (by kernel_rfl) ?_
        refine Gh_nil ?_
        replace h := Option.some.inj h; subst h
        exact ⟨_, rfl, by kernel_rfl⟩
    · replace h := fork_f c3 h
      refine W_exit ?_
      refine X_hit ?_
      refine Gh_one (s1 := ⟨⟨19, []⟩, []⟩) (by kernel_rfl) ?_
      refine Gh_trunc0 (by kernel_rfl) ?_
      refine Gh_nil ?_
      replace h := Option.some.inj h; subst h
      exact ⟨_, rfl, by kernel_rfl⟩
  · refine W_seq ?_
    refine W_reg ?_
    refine O_p 1 ?_
    refine O_nil ?_
    refine W_ret ?_
    replace h := Option.some.inj h; subst h
    exact Fin_free (l := [.i (-1)]) (by kernel_rfl) (by kernel_rfl) rfl

theorem p39_45 (a0 : (List Int)) (r : Bool) (h : m39_45 a0 = some r) : Pt E0 hp 39 [.ro (a0.map cI_i64), .fn 45 []] (.bool r) := by
  unfold m39_45 at h
  refine Pt_W (fn39) rfl (by decide) ?_
  refine W_seq ?_
  refine W_gh ?_
  refine W_reg ?_
  refine O_p 1 ?_
  refine O_nil ?_
  refine Gh_e ⟨⟨9, [(0, .ro (a0.map cI_i64)), (1, .fn 45 [])]⟩, []⟩ ?_
  refine W_seq ?_
  refine W_gh ?_
  refine W_reg ?_
  refine O_p 2 ?_
  refine O_call (fun v => .i v) h (.inr rfl) (ys := [.ro (a0.map cI_i64), .fn 45 []]) (fun _ e => p77_45 _ _ e) (by kernel_rfl) (by kernel_rfl) (bels_cons (ro_bel okI_i64.bel _) (bels_cons rfl rfl)) (fun v1 e_v1 h => ?_)
  refine O_p 2 ?_
  refine O_nil ?_
  refine Gh_e ⟨⟨9, [(4, .bool (decide (v1 ≥ 0)))]⟩, []⟩ ?_
  refine W_ret ?_
  replace h := Option.some.inj h; subst h
  exact Fin_free (l := [.bool (decide (v1 ≥ 0))]) (by kernel_rfl) (by kernel_rfl) rfl

theorem p11 (a0 : SBounds) (a1 : SBounds) (a2 : (List Int)) (r : Bool) (h : m11 a0 a1 a2 = some r) : Pt E0 hp 11 [.agg (cSBounds a0), .agg (cSBounds a1), .ro (a2.map cI_i64)] (.bool r) := by
  unfold m11 at h
  refine Pt_W (fn11) rfl (by decide) ?_
  refine W_seq ?_
  refine W_gh ?_
  refine W_reg ?_
  refine O_p 3 ?_
  refine O_nil ?_
  refine Gh_e ⟨⟨174, [(2, .ro (a2.map cI_i64)), (3, .po 0 0), (4, .po 1 0)]⟩, [.lv 2 [.i a0.N, .ro (a0.Most.map (cL cI_i64))], .lv 2 [.i a1.N, .ro (a1.Most.map (cL cI_i64))]]⟩ ?_
  refine W_seq ?_
  refine W_seq ?_
  refine W_joinS (fun v : Bool => ⟨⟨174, [(2, .ro (a2.map cI_i64)), (3, .po 0 0), (4, .po 1 0), (51, .bool v)]⟩, [.lv 2 [.i a0.N, .ro (a0.Most.map (cL cI_i64))], .lv 2 [.i a1.N, .ro (a1.Most.map (cL cI_i64))]]⟩) h (fun w h => ?_) (fun w1 e_w1 h => ?_)
  · refine W_gh ?_
    refine W_reg ?_
    refine O_p 1 ?_
    refine O_call (fun v => .bool v) h (.inr rfl) (ys := [.agg (cSBounds a0)]) (fun _ e => p27 _ _ e) (by kernel_rfl) (by kernel_rfl) (bels_cons (okSBounds.bel _) rfl) (fun v2 e_v2 h => ?_)
    refine O_p 2 ?_
    refine O_fork (n := 29) (!v2) (by kernel_rfl) (fun c3 => ?_) (fun c3 => ?_)
    · replace h := fork_t c3 h
      refine O_p 22 ?_
      refine O_nil ?_
      refine Gh_e ⟨⟨174, [(2, .ro (a2.map cI_i64)), (3, .po 0 0), (4, .po 1 0), (51, .bool true)]⟩, [.lv 2 [.i a0.N, .ro (a0.Most.map (cL cI_i64))], .lv 2 [.i a1.N, .ro (a1.Most.map (cL cI_i64))]]⟩ ?_
      replace h := Option.some.inj h; subst h
      show _ = _
      kernel_rfl
    · replace h := fork_f c3 h
      refine O_p 1 ?_
      refine O_call (fun v => .bool v) h (.inr rfl) (ys := [.agg (cSBounds a1)]) (fun _ e => p27 _ _ e) (by kernel_rfl) (by kernel_rfl) (bels_cons (okSBounds.bel _) rfl) (fun v4 e_v4 h => ?_)
      refine O_p 3 ?_
      refine O_fork (n := 34) (!v4) (by kernel_rfl) (fun c5 => ?_) (fun c5 => ?_)
      · replace h := fork_t c5 h
        refine O_p 17 ?_
        refine O_nil ?_
        refine Gh_e ⟨⟨174, [(2, .ro (a2.map cI_i64)), (3, .po 0 0), (4, .po 1 0), (51, .bool true)]⟩, [.lv 2 [.i a0.N, .ro (a0.Most.map (cL cI_i64))], .lv 2 [.i a1.N, .ro (a1.Most.map (cL cI_i64))]]⟩ ?_
        replace h := Option.some.inj h; subst h
        show _ = _
        kernel_rfl
      · replace h := fork_f c5 h
        refine O_p 7 ?_
        refine O_fork (n := 41) (a0.N != a1.N) (by kernel_rfl) (fun c6 => ?_) (fun c6 => ?_)
        · replace h := fork_t c6 h
          refine O_p 10 ?_
          refine O_nil ?_
          refine Gh_e ⟨⟨174, [(2, .ro (a2.map cI_i64)), (3, .po 0 0), (4, .po 1 0), (51, .bool true)]⟩, [.lv 2 [.i a0.N, .ro (a0.Most.map (cL cI_i64))], .lv 2 [.i a1.N, .ro (a1.Most.map (cL cI_i64))]]⟩ ?_
          replace h := Option.some.inj h; subst h
          show _ = _
          kernel_rfl
        · replace h := fork_f c6 h
          refine O_p 1 ?_
          refine O_len (l := a2) cI_i64 (by kernel_rfl) (by kernel_rfl) ?_
          refine O_p 5 ?_
          refine O_fork (n := 48) ((a2.length : Int) != a0.N) (by kernel_rfl) (fun c7 => ?_) (fun c7 => ?_)
          · replace h := fork_t c7 h
            refine O_p 3 ?_
            refine O_nil ?_
            refine Gh_e ⟨⟨174, [(2, .ro (a2.map cI_i64)), (3, .po 0 0), (4, .po 1 0), (51, .bool true)]⟩, [.lv 2 [.i a0.N, .ro (a0.Most.map (cL cI_i64))], .lv 2 [.i a1.N, .ro (a1.Most.map (cL cI_i64))]]⟩ ?_
            replace h := Option.some.inj h; subst h
            show _ = _
            kernel_rfl
          · replace h := fork_f c7 h
            refine O_p 1 ?_
            refine O_call (fun v => .bool v) h (.inr rfl) (ys := [.ro (a2.map cI_i64), .fn 45 []]) (fun _ e => p39_45 _ _ e) (by kernel_rfl) (by kernel_rfl) (bels_cons (ro_bel okI_i64.bel _) (bels_cons rfl rfl)) (fun v8 e_v8 h => ?_)
            refine O_p 1 ?_
            refine O_nil ?_
            refine Gh_e ⟨⟨174, [(2, .ro (a2.map cI_i64)), (3, .po 0 0), (4, .po 1 0), (51, .bool v8)]⟩, [.lv 2 [.i a0.N, .ro (a0.Most.map (cL cI_i64))], .lv 2 [.i a1.N, .ro (a1.Most.map (cL cI_i64))]]⟩ ?_
            replace h := Option.some.inj h; subst h
            show _ = _
            kernel_rfl
  · refine W_gh ?_
    refine W_cond (c := w1) (by kernel_rfl) (fun c9 => ?_) (fun c9 => ?_)
    · replace h := fork_t c9 h
      refine W_seq ?_
      refine W_gh ?_
      refine W_reg ?_
      refine O_call (fun v => .bool v) h (.inr rfl) (ys := []) (fun _ e => p13  _ e) (by kernel_rfl) (by kernel_rfl) rfl (fun v10 e_v10 h => ?_)
      refine O_p 1 ?_
      refine O_nil ?_
      refine Gh_e ⟨⟨174, [(2, .ro (a2.map cI_i64)), (3, .po 0 0), (4, .po 1 0), (6, .bool v10), (51, .bool w1)]⟩, [.lv 2 [.i a0.N, .ro (a0.Most.map (cL cI_i64))], .lv 2 [.i a1.N, .ro (a1.Most.map (cL cI_i64))]]⟩ ?_
      refine W_ret ?_
      replace h := Option.some.inj h; subst h
      exact Fin_free (l := [.bool v10]) (by kernel_rfl) (by kernel_rfl) rfl
    · replace h := fork_f c9 h
      refine W_skip ?_
      refine Gh_e ⟨⟨174, [(2, .ro (a2.map cI_i64)), (3, .po 0 0), (4, .po 1 0)]⟩, [.lv 2 [.i a0.N, .ro (a0.Most.map (cL cI_i64))], .lv 2 [.i a1.N, .ro (a1.Most.map (cL cI_i64))]]⟩ ?_
      refine W_seq ?_
      refine W_gh ?_
      refine W_reg ?_
      refine O_p 1 ?_
      refine O_call (fun v => .tup [.agg [.i v.1.N, .ro (v.1.Most.map (cL cI_i64))], .ro (v.2.1.map cI_i64), .bool v.2.2.1, .i v.2.2.2]) h (.inr rfl) (ys := [.agg (cSBounds a0)]) (fun _ e => p14 _ _ e) (by kernel_rfl) (by kernel_rfl) (bels_cons (okSBounds.bel _) rfl) (fun v11 e_v11 h => ?_)
      refine O_p 10 ?_
      refine O_nil ?_
      refine Gh_e ⟨⟨174, [(2, .ro (a2.map cI_i64)), (3, .po 0 0), (4, .po 1 0), (7, .po 2 0), (9, .bool v11.2.2.1), (10, .i v11.2.2.2)]⟩, [.lv 2 [.i a0.N, .ro (a0.Most.map (cL cI_i64))], .lv 2 [.i a1.N, .ro (a1.Most.map (cL cI_i64))], .lv 2 [.i v11.1.N, .ro (v11.1.Most.map (cL cI_i64))]]⟩ ?_
      refine W_seq ?_
      refine W_gh ?_
      refine W_reg ?_
      refine O_p 2 ?_
      refine O_call (fun v => .tup [.bool v.1, .i v.2]) h (.inr rfl) (ys := [.agg (cSBounds a0), .ro (a2.map cI_i64)]) (fun _ e => p30 _ _ _ e) (by kernel_rfl) (by kernel_rfl) (bels_cons (okSBounds.bel _) (bels_cons (ro_bel okI_i64.bel _) rfl)) (fun v12 e_v12 h => ?_)
      refine O_p 5 ?_
      refine O_nil ?_
      refine Gh_e ⟨⟨174, [(2, .ro (a2.map cI_i64)), (3, .po 0 0), (4, .po 1 0), (7, .po 2 0), (9, .bool v11.2.2.1), (10, .i v11.2.2.2), (11, .bool v12.1), (12, .i v12.2)]⟩, [.lv 2 [.i a0.N, .ro (a0.Most.map (cL cI_i64))], .lv 2 [.i a1.N, .ro (a1.Most.map (cL cI_i64))], .lv 2 [.i v11.1.N, .ro (v11.1.Most.map (cL cI_i64))]]⟩ ?_
      refine W_seq ?_
      refine W_gh ?_
      refine W_reg ?_
      refine O_p 2 ?_
      refine O_call (fun v => .tup [.bool v.1, .i v.2]) h (.inr rfl) (ys := [.agg (cSBounds a1), .ro (a2.map cI_i64)]) (fun _ e => p30 _ _ _ e) (by kernel_rfl) (by kernel_rfl) (bels_cons (okSBounds.bel _) (bels_cons (ro_bel okI_i64.bel _) rfl)) (fun v13 e_v13 h => ?_)
      refine O_p 5 ?_
      refine O_nil ?_
      refine Gh_e ⟨⟨174, [(2, .ro (a2.map cI_i64)), (3, .po 0 0), (4, .po 1 0), (7, .po 2 0), (9, .bool v11.2.2.1), (10, .i v11.2.2.2), (11, .bool v12.1), (12, .i v12.2), (13, .bool v13.1), (14, .i v13.2)]⟩, [.lv 2 [.i a0.N, .ro (a0.Most.map (cL cI_i64))], .lv 2 [.i a1.N, .ro (a1.Most.map (cL cI_i64))], .lv 2 [.i v11.1.N, .ro (v11.1.Most.map (cL cI_i64))]]⟩ ?_
      refine W_seq ?_
      refine W_gh ?_
      refine W_reg ?_
      refine O_p 2 ?_
      refine O_call (fun v => .tup [.agg [.i v.1.N, .ro (v.1.Most.map (cL cI_i64))], .i v.2]) h (.inr rfl) (ys := [.agg (cSBounds a0), .agg (cSBounds a1)]) (fun _ e => p41 _ _ _ e) (by kernel_rfl) (by kernel_rfl) (bels_cons (okSBounds.bel _) (bels_cons (okSBounds.bel _) rfl)) (fun v14 e_v14 h => ?_)
      refine O_p 6 ?_
      refine O_nil ?_
      refine Gh_e ⟨⟨174, [(2, .ro (a2.map cI_i64)), (3, .po 0 0), (4, .po 1 0), (7, .po 2 0), (9, .bool v11.2.2.1), (10, .i v11.2.2.2), (11, .bool v12.1), (12, .i v12.2), (13, .bool v13.1), (14, .i v13.2), (15, .po 3 0), (16, .i v14.2)]⟩, [.lv 2 [.i a0.N, .ro (a0.Most.map (cL cI_i64))], .lv 2 [.i a1.N, .ro (a1.Most.map (cL cI_i64))], .lv 2 [.i v11.1.N, .ro (v11.1.Most.map (cL cI_i64))], .lv 2 [.i v14.1.N, .ro (v14.1.Most.map (cL cI_i64))]]⟩ ?_
      refine W_seq ?_
      refine W_gh ?_
      refine W_reg ?_
      refine O_p 2 ?_
      refine O_call (fun v => .tup [.bool v.1, .i v.2]) h (.inr rfl) (ys := [.agg (cSBounds v14.1), .ro (a2.map cI_i64)]) (fun _ e => p30 _ _ _ e) (by kernel_rfl) (by kernel_rfl) (bels_cons (okSBounds.bel _) (bels_cons (ro_bel okI_i64.bel _) rfl)) (fun v15 e_v15 h => ?_)
      refine O_p 5 ?_
      refine O_nil ?_
      refine Gh_e ⟨⟨174, [(2, .ro (a2.map cI_i64)), (3, .po 0 0), (4, .po 1 0), (7, .po 2 0), (9, .bool v11.2.2.1), (10, .i v11.2.2.2), (11, .bool v12.1), (12, .i v12.2), (13, .bool v13.1), (14, .i v13.2), (16, .i v14.2), (17, .bool v15.1), (18, .i v15.2)]⟩, [.lv 2 [.i a0.N, .ro (a0.Most.map (cL cI_i64))], .lv 2 [.i a1.N, .ro (a1.Most.map (cL cI_i64))], .lv 2 [.i v11.1.N, .ro (v11.1.Most.map (cL cI_i64))], .lv 2 [.i v14.1.N, .ro (v14.1.Most.map (cL cI_i64))]]⟩ ?_
      refine W_seq ?_
      refine W_gh ?_
      refine W_reg ?_
      refine O_p 2 ?_
      refine O_call (fun v => .tup [.bool v.1, .i v.2]) h (.inr rfl) (ys := [.agg (cSBounds a0), .agg (cSBounds a1)]) (fun _ e => p43 _ _ _ e) (by kernel_rfl) (by kernel_rfl) (bels_cons (okSBounds.bel _) (bels_cons (okSBounds.bel _) rfl)) (fun v16 e_v16 h => ?_)
      refine O_p 5 ?_
      refine O_nil ?_
      refine Gh_e ⟨⟨174, [(2, .ro (a2.map cI_i64)), (3, .po 0 0), (7, .po 2 0), (9, .bool v11.2.2.1), (10, .i v11.2.2.2), (11, .bool v12.1), (12, .i v12.2), (13, .bool v13.1), (14, .i v13.2), (16, .i v14.2), (17, .bool v15.1), (18, .i v15.2), (19, .bool v16.1), (20, .i v16.2)]⟩, [.lv 2 [.i a0.N, .ro (a0.Most.map (cL cI_i64))], .lv 2 [.i a1.N, .ro (a1.Most.map (cL cI_i64))], .lv 2 [.i v11.1.N, .ro (v11.1.Most.map (cL cI_i64))], .lv 2 [.i v14.1.N, .ro (v14.1.Most.map (cL cI_i64))]]⟩ ?_
      refine W_seq ?_
      refine W_seq ?_
      refine W_cut ⟨⟨174, [(2, .ro (a2.map cI_i64)), (3, .po 0 0), (7, .po 2 0), (9, .bool v11.2.2.1), (11, .bool v12.1), (19, .bool v16.1), (119, .bool (((addI .i64 (addI .i64 (addI .i64 (addI .i64 (addI .i64 v11.2.2.2 v12.2) v13.2) v14.2) v15.2) v16.2) != 0) || (bif v12.1 then (((v15.1 == v13.1) != true) || (v16.1 && (!v13.1))) else ((v15.1 == false) != true))))]⟩, [.lv 2 [.i a0.N, .ro (a0.Most.map (cL cI_i64))], .lv 2 [.i a1.N, .ro (a1.Most.map (cL cI_i64))], .lv 2 [.i v11.1.N, .ro (v11.1.Most.map (cL cI_i64))], .lv 2 [.i v14.1.N, .ro (v14.1.Most.map (cL cI_i64))]]⟩ ?_ ?_
      · generalize e_g17 : (((addI .i64 (addI .i64 (addI .i64 (addI .i64 (addI .i64 v11.2.2.2 v12.2) v13.2) v14.2) v15.2) v16.2) != 0) || (bif v12.1 then (((v15.1 == v13.1) != true) || (v16.1 && (!v13.1))) else ((v15.1 == false) != true))) = g17
        refine W_gh ?_
        refine W_reg ?_
        refine O_p 13 ?_
        refine O_fork (n := 102) ((addI .i64 (addI .i64 (addI .i64 (addI .i64 (addI .i64 v11.2.2.2 v12.2) v13.2) v14.2) v15.2) v16.2) != 0) (by kernel_rfl) (fun c18 => ?_) (fun c18 => ?_)
        · skip
          refine O_p 17 ?_
          refine O_nil ?_
          refine Gh_e ⟨⟨174, [(2, .ro (a2.map cI_i64)), (3, .po 0 0), (7, .po 2 0), (9, .bool v11.2.2.1), (11, .bool v12.1), (19, .bool v16.1), (119, .bool true)]⟩, [.lv 2 [.i a0.N, .ro (a0.Most.map (cL cI_i64))], .lv 2 [.i a1.N, .ro (a1.Most.map (cL cI_i64))], .lv 2 [.i v11.1.N, .ro (v11.1.Most.map (cL cI_i64))], .lv 2 [.i v14.1.N, .ro (v14.1.Most.map (cL cI_i64))]]⟩ ?_
          have q := e_g17; simp only [c9, c18, cond_true, cond_false, Bool.true_and, Bool.false_and, Bool.true_or, Bool.false_or] at q; subst q
          show _ = _
          kernel_rfl
        · skip
          refine O_p 3 ?_
          refine O_fork (n := 105) v12.1 (by kernel_rfl) (fun c19 => ?_) (fun c19 => ?_)
          · skip
            refine O_p 5 ?_
            refine O_fork (n := 110) ((v15.1 == v13.1) != true) (by kernel_rfl) (fun c20 => ?_) (fun c20 => ?_)
            · skip
              refine O_p 9 ?_
              refine O_nil ?_
              refine Gh_e ⟨⟨174, [(2, .ro (a2.map cI_i64)), (3, .po 0 0), (7, .po 2 0), (9, .bool v11.2.2.1), (11, .bool v12.1), (19, .bool v16.1), (119, .bool true)]⟩, [.lv 2 [.i a0.N, .ro (a0.Most.map (cL cI_i64))], .lv 2 [.i a1.N, .ro (a1.Most.map (cL cI_i64))], .lv 2 [.i v11.1.N, .ro (v11.1.Most.map (cL cI_i64))], .lv 2 [.i v14.1.N, .ro (v14.1.Most.map (cL cI_i64))]]⟩ ?_
              have q := e_g17; simp only [c9, c18, c19, c20, cond_true, cond_false, Bool.true_and, Bool.false_and, Bool.true_or, Bool.false_or] at q; subst q
              show _ = _
              kernel_rfl
            · skip
              refine O_p 2 ?_
              refine O_fork (n := 112) v16.1 (by kernel_rfl) (fun c21 => ?_) (fun c21 => ?_)
              · skip
                refine O_p 3 ?_
                refine O_fork (n := 115) v12.1 (by kernel_rfl) (fun c22 => ?_) (fun c22 => ?_)
                · skip
                  refine O_p 4 ?_
                  refine O_nil ?_
                  refine Gh_e ⟨⟨174, [(2, .ro (a2.map cI_i64)), (3, .po 0 0), (7, .po 2 0), (9, .bool v11.2.2.1), (11, .bool v12.1), (19, .bool v16.1), (119, .bool (!v13.1))]⟩, [.lv 2 [.i a0.N, .ro (a0.Most.map (cL cI_i64))], .lv 2 [.i a1.N, .ro (a1.Most.map (cL cI_i64))], .lv 2 [.i v11.1.N, .ro (v11.1.Most.map (cL cI_i64))], .lv 2 [.i v14.1.N, .ro (v14.1.Most.map (cL cI_i64))]]⟩ ?_
                  have q := e_g17; simp only [c9, c18, c19, c20, c21, cond_true, cond_false, Bool.true_and, Bool.false_and, Bool.true_or, Bool.false_or] at q; subst q
                  show _ = _
                  kernel_rfl
                · exact Bool.noConfusion (c19.symm.trans c22)
              · skip
                refine O_p 7 ?_
                refine O_nil ?_
                refine Gh_e ⟨⟨174, [(2, .ro (a2.map cI_i64)), (3, .po 0 0), (7, .po 2 0), (9, .bool v11.2.2.1), (11, .bool v12.1), (19, .bool v16.1), (119, .bool false)]⟩, [.lv 2 [.i a0.N, .ro (a0.Most.map (cL cI_i64))], .lv 2 [.i a1.N, .ro (a1.Most.map (cL cI_i64))], .lv 2 [.i v11.1.N, .ro (v11.1.Most.map (cL cI_i64))], .lv 2 [.i v14.1.N, .ro (v14.1.Most.map (cL cI_i64))]]⟩ ?_
                have q := e_g17; simp only [c9, c18, c19, c20, c21, cond_true, cond_false, Bool.true_and, Bool.false_and, Bool.true_or, Bool.false_or] at q; subst q
                show _ = _
                kernel_rfl
          · skip
            refine O_p 5 ?_
            refine O_fork (n := 110) ((v15.1 == false) != true) (by kernel_rfl) (fun c23 => ?_) (fun c23 => ?_)
            · skip
              refine O_p 9 ?_
              refine O_nil ?_
              refine Gh_e ⟨⟨174, [(2, .ro (a2.map cI_i64)), (3, .po 0 0), (7, .po 2 0), (9, .bool v11.2.2.1), (11, .bool v12.1), (19, .bool v16.1), (119, .bool true)]⟩, [.lv 2 [.i a0.N, .ro (a0.Most.map (cL cI_i64))], .lv 2 [.i a1.N, .ro (a1.Most.map (cL cI_i64))], .lv 2 [.i v11.1.N, .ro (v11.1.Most.map (cL cI_i64))], .lv 2 [.i v14.1.N, .ro (v14.1.Most.map (cL cI_i64))]]⟩ ?_
              have q := e_g17; simp only [c9, c18, c19, c23, cond_true, cond_false, Bool.true_and, Bool.false_and, Bool.true_or, Bool.false_or] at q; subst q
              show _ = _
              kernel_rfl
            · skip
              refine O_p 2 ?_
              refine O_fork (n := 112) v16.1 (by kernel_rfl) (fun c24 => ?_) (fun c24 => ?_)
              · skip
                refine O_p 3 ?_
                refine O_fork (n := 115) v12.1 (by kernel_rfl) (fun c25 => ?_) (fun c25 => ?_)
                · exact Bool.noConfusion (c19.symm.trans c25)
                · skip
                  refine O_p 4 ?_
                  refine O_nil ?_
                  refine Gh_e ⟨⟨174, [(2, .ro (a2.map cI_i64)), (3, .po 0 0), (7, .po 2 0), (9, .bool v11.2.2.1), (11, .bool v12.1), (19, .bool v16.1), (119, .bool false)]⟩, [.lv 2 [.i a0.N, .ro (a0.Most.map (cL cI_i64))], .lv 2 [.i a1.N, .ro (a1.Most.map (cL cI_i64))], .lv 2 [.i v11.1.N, .ro (v11.1.Most.map (cL cI_i64))], .lv 2 [.i v14.1.N, .ro (v14.1.Most.map (cL cI_i64))]]⟩ ?_
                  have q := e_g17; simp only [c9, c18, c19, c23, c24, cond_true, cond_false, Bool.true_and, Bool.false_and, Bool.true_or, Bool.false_or] at q; subst q
                  show _ = _
                  kernel_rfl
              · skip
                refine O_p 7 ?_
                refine O_nil ?_
                refine Gh_e ⟨⟨174, [(2, .ro (a2.map cI_i64)), (3, .po 0 0), (7, .po 2 0), (9, .bool v11.2.2.1), (11, .bool v12.1), (19, .bool v16.1), (119, .bool false)]⟩, [.lv 2 [.i a0.N, .ro (a0.Most.map (cL cI_i64))], .lv 2 [.i a1.N, .ro (a1.Most.map (cL cI_i64))], .lv 2 [.i v11.1.N, .ro (v11.1.Most.map (cL cI_i64))], .lv 2 [.i v14.1.N, .ro (v14.1.Most.map (cL cI_i64))]]⟩ ?_
                have q := e_g17; simp only [c9, c18, c19, c23, c24, cond_true, cond_false, Bool.true_and, Bool.false_and, Bool.true_or, Bool.false_or] at q; subst q
                show _ = _
                kernel_rfl
      · refine W_gh ?_
        refine W_cond (c := (((addI .i64 (addI .i64 (addI .i64 (addI .i64 (addI .i64 v11.2.2.2 v12.2) v13.2) v14.2) v15.2) v16.2) != 0) || (bif v12.1 then (((v15.1 == v13.1) != true) || (v16.1 && (!v13.1))) else ((v15.1 == false) != true)))) (by kernel_rfl) (fun c26 => ?_) (fun c26 => ?_)
        · replace h := fork_t c26 h
          refine W_seq ?_
          refine W_reg ?_
          refine O_p 1 ?_
          refine O_nil ?_
          refine W_ret ?_
          replace h := Option.some.inj h; subst h
          exact Fin_free (l := [.bool false]) (by kernel_rfl) (by kernel_rfl) rfl
        · replace h := fork_f c26 h
          refine W_skip ?_
          refine Gh_e ⟨⟨174, [(2, .ro (a2.map cI_i64)), (3, .po 0 0), (7, .po 2 0), (9, .bool v11.2.2.1), (11, .bool v12.1), (19, .bool v16.1)]⟩, [.lv 2 [.i a0.N, .ro (a0.Most.map (cL cI_i64))], .lv 2 [.i a1.N, .ro (a1.Most.map (cL cI_i64))], .lv 2 [.i v11.1.N, .ro (v11.1.Most.map (cL cI_i64))], .lv 2 [.i v14.1.N, .ro (v14.1.Most.map (cL cI_i64))]]⟩ ?_
          refine W_seq ?_
          refine W_seq ?_
          refine W_gh ?_
          refine W_reg ?_
          refine O_p 2 ?_
          refine O_nil ?_
          refine Gh_e ⟨⟨174, [(2, .ro (a2.map cI_i64)), (3, .po 0 0), (7, .po 2 0), (11, .bool v12.1), (19, .bool v16.1), (121, .bool (!v11.2.2.1))]⟩, [.lv 2 [.i a0.N, .ro (a0.Most.map (cL cI_i64))], .lv 2 [.i a1.N, .ro (a1.Most.map (cL cI_i64))], .lv 2 [.i v11.1.N, .ro (v11.1.Most.map (cL cI_i64))], .lv 2 [.i v14.1.N, .ro (v14.1.Most.map (cL cI_i64))]]⟩ ?_
          refine W_gh ?_
          refine W_cond (c := (!v11.2.2.1)) (by kernel_rfl) (fun c27 => ?_) (fun c27 => ?_)
          · replace h := fork_t c27 h
            refine W_seq ?_
            refine W_joinS (fun v : Bool => ⟨⟨174, [(2, .ro (a2.map cI_i64)), (3, .po 0 0), (6, .bool v), (7, .po 2 0), (121, .bool (!v11.2.2.1))]⟩, [.lv 2 [.i a0.N, .ro (a0.Most.map (cL cI_i64))], .lv 2 [.i a1.N, .ro (a1.Most.map (cL cI_i64))], .lv 2 [.i v11.1.N, .ro (v11.1.Most.map (cL cI_i64))], .lv 2 [.i v14.1.N, .ro (v14.1.Most.map (cL cI_i64))]]⟩) h (fun w h => ?_) (fun w28 e_w28 h => ?_)
            · refine W_gh ?_
              refine W_reg ?_
              refine O_p 3 ?_
              refine O_fork (n := 124) (!v12.1) (by kernel_rfl) (fun c29 => ?_) (fun c29 => ?_)
              · replace h := fork_t c29 h
                refine O_p 3 ?_
                refine O_fork (n := 127) v16.1 (by kernel_rfl) (fun c30 => ?_) (fun c30 => ?_)
                · replace h := fork_t c30 h
                  refine O_call (fun v => .bool v) h (.inr rfl) (ys := []) (fun _ e => p13  _ e) (by kernel_rfl) (by kernel_rfl) rfl (fun v31 e_v31 h => ?_)
                  refine O_p 2 ?_
                  refine O_nil ?_
                  refine Gh_e ⟨⟨174, [(2, .ro (a2.map cI_i64)), (3, .po 0 0), (6, .bool v31), (7, .po 2 0), (121, .bool (!v11.2.2.1))]⟩, [.lv 2 [.i a0.N, .ro (a0.Most.map (cL cI_i64))], .lv 2 [.i a1.N, .ro (a1.Most.map (cL cI_i64))], .lv 2 [.i v11.1.N, .ro (v11.1.Most.map (cL cI_i64))], .lv 2 [.i v14.1.N, .ro (v14.1.Most.map (cL cI_i64))]]⟩ ?_
                  replace h := Option.some.inj h; subst h
                  show _ = _
                  kernel_rfl
                · replace h := fork_f c30 h
                  refine O_p 3 ?_
                  refine O_nil ?_
                  refine Gh_e ⟨⟨174, [(2, .ro (a2.map cI_i64)), (3, .po 0 0), (6, .bool false), (7, .po 2 0), (121, .bool (!v11.2.2.1))]⟩, [.lv 2 [.i a0.N, .ro (a0.Most.map (cL cI_i64))], .lv 2 [.i a1.N, .ro (a1.Most.map (cL cI_i64))], .lv 2 [.i v11.1.N, .ro (v11.1.Most.map (cL cI_i64))], .lv 2 [.i v14.1.N, .ro (v14.1.Most.map (cL cI_i64))]]⟩ ?_
                  replace h := Option.some.inj h; subst h
                  show _ = _
                  kernel_rfl
              · replace h := fork_f c29 h
                refine O_p 6 ?_
                refine O_nil ?_
                refine Gh_e ⟨⟨174, [(2, .ro (a2.map cI_i64)), (3, .po 0 0), (6, .bool false), (7, .po 2 0), (121, .bool (!v11.2.2.1))]⟩, [.lv 2 [.i a0.N, .ro (a0.Most.map (cL cI_i64))], .lv 2 [.i a1.N, .ro (a1.Most.map (cL cI_i64))], .lv 2 [.i v11.1.N, .ro (v11.1.Most.map (cL cI_i64))], .lv 2 [.i v14.1.N, .ro (v14.1.Most.map (cL cI_i64))]]⟩ ?_
                replace h := Option.some.inj h; subst h
                show _ = _
                kernel_rfl
            · refine W_ret ?_
              replace h := Option.some.inj h; subst h
              exact Fin_free (l := [.bool w28]) (by kernel_rfl) (by kernel_rfl) rfl
          · replace h := fork_f c27 h
            refine W_skip ?_
            refine Gh_e ⟨⟨174, [(2, .ro (a2.map cI_i64)), (3, .po 0 0), (7, .po 2 0), (11, .bool v12.1)]⟩, [.lv 2 [.i a0.N, .ro (a0.Most.map (cL cI_i64))], .lv 2 [.i a1.N, .ro (a1.Most.map (cL cI_i64))], .lv 2 [.i v11.1.N, .ro (v11.1.Most.map (cL cI_i64))], .lv 2 [.i v14.1.N, .ro (v14.1.Most.map (cL cI_i64))]]⟩ ?_
            refine W_seq ?_
            refine W_gh ?_
            refine W_reg ?_
            refine O_p 1 ?_
            refine O_call (fun v => .tup [.agg [.i v.1.N, .ro (v.1.Most.map (cL cI_i64))], .ro (v.2.1.map cI_i64), .bool v.2.2.1, .i v.2.2.2]) h (.inr rfl) (ys := [.agg (cSBounds v11.1)]) (fun _ e => p14 _ _ e) (by kernel_rfl) (by kernel_rfl) (bels_cons (okSBounds.bel _) rfl) (fun v32 e_v32 h => ?_)
            refine O_p 10 ?_
            refine O_nil ?_
            refine Gh_e ⟨⟨174, [(2, .ro (a2.map cI_i64)), (3, .po 0 0), (7, .po 2 0), (10, .i v32.2.2.2), (11, .bool v12.1), (21, .po 4 0), (23, .bool v32.2.2.1)]⟩, [.lv 2 [.i a0.N, .ro (a0.Most.map (cL cI_i64))], .lv 2 [.i a1.N, .ro (a1.Most.map (cL cI_i64))], .lv 2 [.i v11.1.N, .ro (v11.1.Most.map (cL cI_i64))], .lv 2 [.i v14.1.N, .ro (v14.1.Most.map (cL cI_i64))], .lv 2 [.i v32.1.N, .ro (v32.1.Most.map (cL cI_i64))]]⟩ ?_
            refine W_seq ?_
            refine W_gh ?_
            refine W_reg ?_
            refine O_p 2 ?_
            refine O_call (fun v => .tup [.bool v.1, .i v.2]) h (.inr rfl) (ys := [.agg (cSBounds v11.1), .ro (a2.map cI_i64)]) (fun _ e => p30 _ _ _ e) (by kernel_rfl) (by kernel_rfl) (bels_cons (okSBounds.bel _) (bels_cons (ro_bel okI_i64.bel _) rfl)) (fun v33 e_v33 h => ?_)
            refine O_p 5 ?_
            refine O_nil ?_
            refine Gh_e ⟨⟨174, [(3, .po 0 0), (7, .po 2 0), (10, .i v32.2.2.2), (11, .bool v12.1), (12, .i v33.2), (21, .po 4 0), (23, .bool v32.2.2.1), (24, .bool v33.1)]⟩, [.lv 2 [.i a0.N, .ro (a0.Most.map (cL cI_i64))], .lv 2 [.i a1.N, .ro (a1.Most.map (cL cI_i64))], .lv 2 [.i v11.1.N, .ro (v11.1.Most.map (cL cI_i64))], .lv 2 [.i v14.1.N, .ro (v14.1.Most.map (cL cI_i64))], .lv 2 [.i v32.1.N, .ro (v32.1.Most.map (cL cI_i64))]]⟩ ?_
            refine W_seq ?_
            refine W_gh ?_
            refine W_reg ?_
            refine O_p 2 ?_
            refine O_call (fun v => .tup [.bool v.1, .i v.2]) h (.inr rfl) (ys := [.agg (cSBounds v11.1), .agg (cSBounds a0)]) (fun _ e => p43 _ _ _ e) (by kernel_rfl) (by kernel_rfl) (bels_cons (okSBounds.bel _) (bels_cons (okSBounds.bel _) rfl)) (fun v34 e_v34 h => ?_)
            refine O_p 5 ?_
            refine O_nil ?_
            refine Gh_e ⟨⟨174, [(7, .po 2 0), (10, .i v32.2.2.2), (11, .bool v12.1), (12, .i v33.2), (14, .i v34.2), (21, .po 4 0), (23, .bool v32.2.2.1), (24, .bool v33.1), (25, .bool v34.1)]⟩, [.lv 2 [.i a0.N, .ro (a0.Most.map (cL cI_i64))], .lv 2 [.i a1.N, .ro (a1.Most.map (cL cI_i64))], .lv 2 [.i v11.1.N, .ro (v11.1.Most.map (cL cI_i64))], .lv 2 [.i v14.1.N, .ro (v14.1.Most.map (cL cI_i64))], .lv 2 [.i v32.1.N, .ro (v32.1.Most.map (cL cI_i64))]]⟩ ?_
            refine W_seq ?_
            refine W_joinS (fun v : Bool => ⟨⟨174, [(6, .bool v)]⟩, [.lv 2 [.i a0.N, .ro (a0.Most.map (cL cI_i64))], .lv 2 [.i a1.N, .ro (a1.Most.map (cL cI_i64))], .lv 2 [.i v11.1.N, .ro (v11.1.Most.map (cL cI_i64))], .lv 2 [.i v14.1.N, .ro (v14.1.Most.map (cL cI_i64))], .lv 2 [.i v32.1.N, .ro (v32.1.Most.map (cL cI_i64))]]⟩) h (fun w h => ?_) (fun w35 e_w35 h => ?_)
            · refine W_gh ?_
              refine W_reg ?_
              refine O_p 7 ?_
              refine O_fork (n := 155) ((addI .i64 (addI .i64 v32.2.2.2 v33.2) v34.2) == 0) (by kernel_rfl) (fun c36 => ?_) (fun c36 => ?_)
              · replace h := fork_t c36 h
                refine O_p 3 ?_
                refine O_fork (n := 158) v32.2.2.1 (by kernel_rfl) (fun c37 => ?_) (fun c37 => ?_)
                · replace h := fork_t c37 h
                  refine O_p 5 ?_
                  refine O_fork (n := 163) ((v33.1 == v12.1) != false) (by kernel_rfl) (fun c38 => ?_) (fun c38 => ?_)
                  · replace h := fork_t c38 h
                    refine O_p 3 ?_
                    refine O_fork (n := 166) v34.1 (by kernel_rfl) (fun c39 => ?_) (fun c39 => ?_)
                    · replace h := fork_t c39 h
                      refine O_p 2 ?_
                      refine O_call (fun v => .bool v) h (.inr rfl) (ys := [.agg (cSBounds v32.1), .agg (cSBounds v11.1)]) (fun _ e => p16 _ _ _ e) (by kernel_rfl) (by kernel_rfl) (bels_cons (okSBounds.bel _) (bels_cons (okSBounds.bel _) rfl)) (fun v40 e_v40 h => ?_)
                      refine O_p 2 ?_
                      refine O_fork (n := 171) v40 (by kernel_rfl) (fun c41 => ?_) (fun c41 => ?_)
                      · replace h := fork_t c41 h
                        refine O_call (fun v => .bool v) h (.inr rfl) (ys := []) (fun _ e => p13  _ e) (by kernel_rfl) (by kernel_rfl) rfl (fun v42 e_v42 h => ?_)
                        refine O_p 2 ?_
                        refine O_nil ?_
                        refine Gh_e ⟨⟨174, [(6, .bool v42)]⟩, [.lv 2 [.i a0.N, .ro (a0.Most.map (cL cI_i64))], .lv 2 [.i a1.N, .ro (a1.Most.map (cL cI_i64))], .lv 2 [.i v11.1.N, .ro (v11.1.Most.map (cL cI_i64))], .lv 2 [.i v14.1.N, .ro (v14.1.Most.map (cL cI_i64))], .lv 2 [.i v32.1.N, .ro (v32.1.Most.map (cL cI_i64))]]⟩ ?_
                        replace h := Option.some.inj h; subst h
                        show _ = _
                        kernel_rfl
                      · replace h := fork_f c41 h
                        refine O_p 3 ?_
                        refine O_nil ?_
                        refine Gh_e ⟨⟨174, [(6, .bool false)]⟩, [.lv 2 [.i a0.N, .ro (a0.Most.map (cL cI_i64))], .lv 2 [.i a1.N, .ro (a1.Most.map (cL cI_i64))], .lv 2 [.i v11.1.N, .ro (v11.1.Most.map (cL cI_i64))], .lv 2 [.i v14.1.N, .ro (v14.1.Most.map (cL cI_i64))], .lv 2 [.i v32.1.N, .ro (v32.1.Most.map (cL cI_i64))]]⟩ ?_
                        replace h := Option.some.inj h; subst h
                        show _ = _
                        kernel_rfl
                    · replace h := fork_f c39 h
                      refine O_p 8 ?_
                      refine O_nil ?_
                      refine Gh_e ⟨⟨174, [(6, .bool false)]⟩, [.lv 2 [.i a0.N, .ro (a0.Most.map (cL cI_i64))], .lv 2 [.i a1.N, .ro (a1.Most.map (cL cI_i64))], .lv 2 [.i v11.1.N, .ro (v11.1.Most.map (cL cI_i64))], .lv 2 [.i v14.1.N, .ro (v14.1.Most.map (cL cI_i64))], .lv 2 [.i v32.1.N, .ro (v32.1.Most.map (cL cI_i64))]]⟩ ?_
                      replace h := Option.some.inj h; subst h
                      show _ = _
                      kernel_rfl
                  · replace h := fork_f c38 h
                    refine O_p 11 ?_
                    refine O_nil ?_
                    refine Gh_e ⟨⟨174, [(6, .bool false)]⟩, [.lv 2 [.i a0.N, .ro (a0.Most.map (cL cI_i64))], .lv 2 [.i a1.N, .ro (a1.Most.map (cL cI_i64))], .lv 2 [.i v11.1.N, .ro (v11.1.Most.map (cL cI_i64))], .lv 2 [.i v14.1.N, .ro (v14.1.Most.map (cL cI_i64))], .lv 2 [.i v32.1.N, .ro (v32.1.Most.map (cL cI_i64))]]⟩ ?_
                    replace h := Option.some.inj h; subst h
                    show _ = _
                    kernel_rfl
                · replace h := fork_f c37 h
                  refine O_p 16 ?_
                  refine O_nil ?_
                  refine Gh_e ⟨⟨174, [(6, .bool false)]⟩, [.lv 2 [.i a0.N, .ro (a0.Most.map (cL cI_i64))], .lv 2 [.i a1.N, .ro (a1.Most.map (cL cI_i64))], .lv 2 [.i v11.1.N, .ro (v11.1.Most.map (cL cI_i64))], .lv 2 [.i v14.1.N, .ro (v14.1.Most.map (cL cI_i64))], .lv 2 [.i v32.1.N, .ro (v32.1.Most.map (cL cI_i64))]]⟩ ?_
                  replace h := Option.some.inj h; subst h
                  show _ = _
                  kernel_rfl
              · replace h := fork_f c36 h
                refine O_p 19 ?_
                refine O_nil ?_
                refine Gh_e ⟨⟨174, [(6, .bool false)]⟩, [.lv 2 [.i a0.N, .ro (a0.Most.map (cL cI_i64))], .lv 2 [.i a1.N, .ro (a1.Most.map (cL cI_i64))], .lv 2 [.i v11.1.N, .ro (v11.1.Most.map (cL cI_i64))], .lv 2 [.i v14.1.N, .ro (v14.1.Most.map (cL cI_i64))], .lv 2 [.i v32.1.N, .ro (v32.1.Most.map (cL cI_i64))]]⟩ ?_
                replace h := Option.some.inj h; subst h
                show _ = _
                kernel_rfl
            · refine W_ret ?_
              replace h := Option.some.inj h; subst h
              exact Fin_free (l := [.bool w35]) (by kernel_rfl) (by kernel_rfl) rfl
end G11
