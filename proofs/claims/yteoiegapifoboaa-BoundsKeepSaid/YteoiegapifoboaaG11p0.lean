/- The code computes the models, printed by a program of mine (dec.py). No condition. -/
import Derived.Test.YteoiegapifoboaaG11E
namespace G11
open Go Go.Pl Go.Am Go.Am.As
set_option linter.unusedVariables false
set_option linter.unusedSimpArgs false
set_option maxHeartbeats 1000000

theorem p67 (a0 : Int) (r : Bool) (h : m67 a0 = some r) : Pt E0 hp 67 [.i a0] (.bool r) := by
  unfold m67 at h
  refine Pt_W (fn67) rfl (by decide) ?_
  refine W_seq ?_
  refine W_gh ?_
  refine W_reg ?_
  refine O_p 1 ?_
  refine O_nil ?_
  refine Gh_e ⟨⟨9, [(0, .i a0)]⟩, []⟩ ?_
  refine W_seq ?_
  refine W_cut ⟨⟨9, [(2, .bool ((decide (a0 ≥ (-64000000))) && (decide (a0 ≤ 64000000))))]⟩, []⟩ ?_ ?_
  · generalize e_g1 : ((decide (a0 ≥ (-64000000))) && (decide (a0 ≤ 64000000))) = g1
    refine W_gh ?_
    refine W_reg ?_
    refine O_p 3 ?_
    refine O_fork (n := 5) (decide (a0 ≥ (-64000000))) (by kernel_rfl) (fun c2 => ?_) (fun c2 => ?_)
    · skip
      refine O_p 4 ?_
      refine O_nil ?_
      refine Gh_e ⟨⟨9, [(2, .bool (decide (a0 ≤ 64000000)))]⟩, []⟩ ?_
      have q := e_g1; simp only [c2, cond_true, cond_false, Bool.true_and, Bool.false_and, Bool.true_or, Bool.false_or] at q; subst q
      show _ = _
      kernel_rfl
    · skip
      refine O_p 4 ?_
      refine O_nil ?_
      refine Gh_e ⟨⟨9, [(2, .bool false)]⟩, []⟩ ?_
      have q := e_g1; simp only [c2, cond_true, cond_false, Bool.true_and, Bool.false_and, Bool.true_or, Bool.false_or] at q; subst q
      show _ = _
      kernel_rfl
  · refine W_ret ?_
    replace h := Option.some.inj h; subst h
    exact Fin_free (l := [.bool ((decide (a0 ≥ (-64000000))) && (decide (a0 ≤ 64000000)))]) (by kernel_rfl) (by kernel_rfl) rfl

theorem p32 (a0 : SBounds) (r : Int) (h : m32 a0 = some r) : Pt E0 hp 32 [.agg (cSBounds a0)] (.i r) := by
  unfold m32 at h
  refine Pt_W (fn32) rfl (by decide) ?_
  refine W_seq ?_
  refine W_gh ?_
  refine W_reg ?_
  refine O_p 2 ?_
  refine O_nil ?_
  refine Gh_e ⟨⟨71, [(1, .po 0 0)]⟩, [.lv 2 [.i a0.N, .ro (a0.Most.map (cL cI_i64))]]⟩ ?_
  refine W_seq ?_
  refine W_seq ?_
  refine W_cut ⟨⟨71, [(1, .po 0 0), (16, .bool ((decide (a0.N < 0)) || (decide (a0.N > 12))))]⟩, [.lv 2 [.i a0.N, .ro (a0.Most.map (cL cI_i64))]]⟩ ?_ ?_
  · generalize e_g1 : ((decide (a0.N < 0)) || (decide (a0.N > 12))) = g1
    refine W_gh ?_
    refine W_reg ?_
    refine O_p 4 ?_
    refine O_fork (n := 12) (decide (a0.N < 0)) (by kernel_rfl) (fun c2 => ?_) (fun c2 => ?_)
    · skip
      refine O_p 4 ?_
      refine O_nil ?_
      refine Gh_e ⟨⟨71, [(1, .po 0 0), (16, .bool true)]⟩, [.lv 2 [.i a0.N, .ro (a0.Most.map (cL cI_i64))]]⟩ ?_
      have q := e_g1; simp only [c2, cond_true, cond_false, Bool.true_and, Bool.false_and, Bool.true_or, Bool.false_or] at q; subst q
      show _ = _
      kernel_rfl
    · skip
      refine O_p 4 ?_
      refine O_nil ?_
      refine Gh_e ⟨⟨71, [(1, .po 0 0), (16, .bool (decide (a0.N > 12)))]⟩, [.lv 2 [.i a0.N, .ro (a0.Most.map (cL cI_i64))]]⟩ ?_
      have q := e_g1; simp only [c2, cond_true, cond_false, Bool.true_and, Bool.false_and, Bool.true_or, Bool.false_or] at q; subst q
      show _ = _
      kernel_rfl
  · refine W_gh ?_
    refine W_cond (c := ((decide (a0.N < 0)) || (decide (a0.N > 12)))) (by kernel_rfl) (fun c3 => ?_) (fun c3 => ?_)
    · replace h := fork_t c3 h
      refine W_seq ?_
      refine W_reg ?_
      refine O_p 1 ?_
      refine O_nil ?_
      refine W_ret ?_
      replace h := Option.some.inj h; subst h
      exact Fin_free (l := [.i 2]) (by kernel_rfl) (by kernel_rfl) rfl
    · replace h := fork_f c3 h
      refine W_skip ?_
      refine Gh_e ⟨⟨71, [(1, .po 0 0)]⟩, [.lv 2 [.i a0.N, .ro (a0.Most.map (cL cI_i64))]]⟩ ?_
      refine W_seq ?_
      refine W_seq ?_
      refine W_gh ?_
      refine W_reg ?_
      refine O_p 2 ?_
      refine O_len (l := a0.Most) (cL cI_i64) (by kernel_rfl) (by kernel_rfl) ?_
      refine O_p 4 ?_
      refine O_nil ?_
      refine Gh_e ⟨⟨71, [(1, .po 0 0), (23, .bool ((a0.Most.length : Int) != (addI .i64 a0.N 1)))]⟩, [.lv 2 [.i a0.N, .ro (a0.Most.map (cL cI_i64))]]⟩ ?_
      refine W_gh ?_
      refine W_cond (c := ((a0.Most.length : Int) != (addI .i64 a0.N 1))) (by kernel_rfl) (fun c4 => ?_) (fun c4 => ?_)
      · replace h := fork_t c4 h
        refine W_seq ?_
        refine W_reg ?_
        refine O_p 1 ?_
        refine O_nil ?_
        refine W_ret ?_
        replace h := Option.some.inj h; subst h
        exact Fin_free (l := [.i 8]) (by kernel_rfl) (by kernel_rfl) rfl
      · replace h := fork_f c4 h
        refine W_skip ?_
        refine Gh_e ⟨⟨71, [(1, .po 0 0)]⟩, [.lv 2 [.i a0.N, .ro (a0.Most.map (cL cI_i64))]]⟩ ?_
        refine W_seq ?_
        refine W_seq ?_
        refine W_gh ?_
        refine W_reg ?_
        refine O_p 2 ?_
        refine O_len (l := a0.Most) (cL cI_i64) (by kernel_rfl) (by kernel_rfl) ?_
        refine O_p 1 ?_
        refine O_nil ?_
        refine Gh_e ⟨⟨71, [(1, .po 0 0), (25, .ro (a0.Most.map (cL cI_i64))), (26, .i (a0.Most.length : Int)), (27, .i 0)]⟩, [.lv 2 [.i a0.N, .ro (a0.Most.map (cL cI_i64))]]⟩ ?_
        refine W_loop (fun s5 : Int => ⟨⟨71, [(1, .po 0 0), (25, .ro (a0.Most.map (cL cI_i64))), (26, .i (a0.Most.length : Int)), (27, .i s5)]⟩, [.lv 2 [.i a0.N, .ro (a0.Most.map (cL cI_i64))]]⟩) (fun w6 : Unit => ⟨⟨71, [(1, .po 0 0)]⟩, [.lv 2 [.i a0.N, .ro (a0.Most.map (cL cI_i64))]]⟩) h (by kernel_rfl) (fun s5 c h => ?_) (fun w6 h => ?_)
        · refine W_gh ?_
          refine W_seq ?_
          refine W_reg ?_
          refine O_p 1 ?_
          refine O_nil ?_
          refine W_seq ?_
          refine W_gh ?_
          refine W_cond (c := (decide (s5 < (a0.Most.length : Int)))) (by kernel_rfl) (fun c7 => ?_) (fun c7 => ?_)
          · replace h := fork_t c7 h
            refine W_skip ?_
            refine Gh_e ⟨⟨71, [(1, .po 0 0), (25, .ro (a0.Most.map (cL cI_i64))), (26, .i (a0.Most.length : Int)), (27, .i s5)]⟩, [.lv 2 [.i a0.N, .ro (a0.Most.map (cL cI_i64))]]⟩ ?_
            refine W_seq ?_
            refine W_gh ?_
            refine W_block ?_
            refine W_seq ?_
            refine W_gh ?_
            refine W_reg ?_
            refine O_idx (kd := .i64) (cL cI_i64) h (fun _ => rfl) (by kernel_rfl) (by kernel_rfl) (by kernel_rfl) (fun v8 e_v8 h => ?_)
            refine O_p 2 ?_
            refine O_nil ?_
            refine Gh_e ⟨⟨71, [(1, .po 0 0), (4, .ro (v8.map cI_i64)), (25, .ro (a0.Most.map (cL cI_i64))), (26, .i (a0.Most.length : Int)), (27, .i s5)]⟩, [.lv 2 [.i a0.N, .ro (a0.Most.map (cL cI_i64))]]⟩ ?_
            refine W_seq ?_
            refine W_gh ?_
            refine W_reg ?_
            refine O_p 1 ?_
            refine O_len (l := v8) cI_i64 (by kernel_rfl) (by kernel_rfl) ?_
            refine O_p 4 ?_
            refine O_nil ?_
            refine Gh_e ⟨⟨71, [(1, .po 0 0), (25, .ro (a0.Most.map (cL cI_i64))), (26, .i (a0.Most.length : Int)), (27, .i s5), (36, .bool ((v8.length : Int) != (addI .i64 a0.N 1)))]⟩, [.lv 2 [.i a0.N, .ro (a0.Most.map (cL cI_i64))]]⟩ ?_
            refine W_gh ?_
            refine W_cond (c := ((v8.length : Int) != (addI .i64 a0.N 1))) (by kernel_rfl) (fun c9 => ?_) (fun c9 => ?_)
            · replace h := fork_t c9 h
              refine W_seq ?_
              refine W_reg ?_
              refine O_p 1 ?_
              refine O_nil ?_
              refine W_ret ?_
              replace h := Option.some.inj h; subst h
              refine ⟨_, rfl, fun h => ?_⟩
              replace h := Option.some.inj h; subst h
              exact Fin_free (l := [.i 8]) (by kernel_rfl) (by kernel_rfl) rfl
            · replace h := fork_f c9 h
              refine W_skip ?_
              refine Gh_e ⟨⟨71, [(1, .po 0 0), (25, .ro (a0.Most.map (cL cI_i64))), (26, .i (a0.Most.length : Int)), (27, .i s5)]⟩, [.lv 2 [.i a0.N, .ro (a0.Most.map (cL cI_i64))]]⟩ ?_
              refine Gh_e ⟨⟨71, [(1, .po 0 0), (25, .ro (a0.Most.map (cL cI_i64))), (26, .i (a0.Most.length : Int)), (27, .i s5)]⟩, [.lv 2 [.i a0.N, .ro (a0.Most.map (cL cI_i64))]]⟩ ?_
              refine W_gh ?_
              refine W_reg ?_
              refine O_p 2 ?_
              refine O_nil ?_
              refine Gh_e ⟨⟨71, [(1, .po 0 0), (25, .ro (a0.Most.map (cL cI_i64))), (26, .i (a0.Most.length : Int)), (27, .i (addI .i64 s5 1))]⟩, [.lv 2 [.i a0.N, .ro (a0.Most.map (cL cI_i64))]]⟩ ?_
              refine Gh_e ⟨⟨71, [(1, .po 0 0), (25, .ro (a0.Most.map (cL cI_i64))), (26, .i (a0.Most.length : Int)), (27, .i (addI .i64 s5 1))]⟩, [.lv 2 [.i a0.N, .ro (a0.Most.map (cL cI_i64))]]⟩ ?_
              replace h := Option.some.inj h; subst h
              exact ⟨_, rfl, by kernel_rfl⟩
          · replace h := fork_f c7 h
            refine W_exit ?_
            refine X_hit ?_
            refine Gh_e ⟨⟨71, [(1, .po 0 0)]⟩, [.lv 2 [.i a0.N, .ro (a0.Most.map (cL cI_i64))]]⟩ ?_
            replace h := Option.some.inj h; subst h
            exact ⟨_, rfl, by kernel_rfl⟩
        · refine W_seq ?_
          refine W_seq ?_
          refine W_gh ?_
          refine W_reg ?_
          refine O_p 2 ?_
          refine O_len (l := a0.Most) (cL cI_i64) (by kernel_rfl) (by kernel_rfl) ?_
          refine O_p 1 ?_
          refine O_nil ?_
          refine Gh_e ⟨⟨71, [(39, .ro (a0.Most.map (cL cI_i64))), (40, .i (a0.Most.length : Int)), (41, .i 0)]⟩, [.lv 2 [.i a0.N, .ro (a0.Most.map (cL cI_i64))]]⟩ ?_
          refine W_loop (fun s10 : Int => ⟨⟨71, [(39, .ro (a0.Most.map (cL cI_i64))), (40, .i (a0.Most.length : Int)), (41, .i s10)]⟩, [.lv 2 [.i a0.N, .ro (a0.Most.map (cL cI_i64))]]⟩) (fun w11 : Unit => ⟨⟨71, []⟩, [.lv 2 [.i a0.N, .ro (a0.Most.map (cL cI_i64))]]⟩) h (by kernel_rfl) (fun s10 c h => ?_) (fun w11 h => ?_)
          · refine W_gh ?_
            refine W_seq ?_
            refine W_reg ?_
            refine O_p 1 ?_
            refine O_nil ?_
            refine W_seq ?_
            refine W_gh ?_
            refine W_cond (c := (decide (s10 < (a0.Most.length : Int)))) (by kernel_rfl) (fun c12 => ?_) (fun c12 => ?_)
            · replace h := fork_t c12 h
              refine W_skip ?_
              refine Gh_e ⟨⟨71, [(39, .ro (a0.Most.map (cL cI_i64))), (40, .i (a0.Most.length : Int)), (41, .i s10)]⟩, [.lv 2 [.i a0.N, .ro (a0.Most.map (cL cI_i64))]]⟩ ?_
              refine W_seq ?_
              refine W_gh ?_
              refine W_block ?_
              refine W_seq ?_
              refine W_gh ?_
              refine W_reg ?_
              refine O_p 1 ?_
              refine O_idx (kd := .i64) (cL cI_i64) h (fun _ => rfl) (by kernel_rfl) (by kernel_rfl) (by kernel_rfl) (fun v13 e_v13 h => ?_)
              refine O_p 3 ?_
              refine O_nil ?_
              refine Gh_e ⟨⟨71, [(5, .i s10), (6, .ro (v13.map cI_i64)), (39, .ro (a0.Most.map (cL cI_i64))), (40, .i (a0.Most.length : Int)), (41, .i s10)]⟩, [.lv 2 [.i a0.N, .ro (a0.Most.map (cL cI_i64))]]⟩ ?_
              refine W_seq ?_
              refine W_gh ?_
              refine W_reg ?_
              refine O_p 1 ?_
              refine O_len (l := v13) cI_i64 (by kernel_rfl) (by kernel_rfl) ?_
              refine O_p 1 ?_
              refine O_nil ?_
              refine Gh_e ⟨⟨71, [(5, .i s10), (39, .ro (a0.Most.map (cL cI_i64))), (40, .i (a0.Most.length : Int)), (41, .i s10), (46, .ro (v13.map cI_i64)), (47, .i (v13.length : Int)), (48, .i 0)]⟩, [.lv 2 [.i a0.N, .ro (a0.Most.map (cL cI_i64))]]⟩ ?_
              refine W_loop (fun s14 : Int => ⟨⟨71, [(5, .i s10), (39, .ro (a0.Most.map (cL cI_i64))), (40, .i (a0.Most.length : Int)), (41, .i s10), (46, .ro (v13.map cI_i64)), (47, .i (v13.length : Int)), (48, .i s14)]⟩, [.lv 2 [.i a0.N, .ro (a0.Most.map (cL cI_i64))]]⟩) (fun w15 : Unit => ⟨⟨71, [(39, .ro (a0.Most.map (cL cI_i64))), (40, .i (a0.Most.length : Int)), (41, .i s10)]⟩, [.lv 2 [.i a0.N, .ro (a0.Most.map (cL cI_i64))]]⟩) h (by kernel_rfl) (fun s14 c h => ?_) (fun w15 h => ?_)
              · refine W_gh ?_
                refine W_seq ?_
                refine W_reg ?_
                refine O_p 1 ?_
                refine O_nil ?_
                refine W_seq ?_
                refine W_gh ?_
                refine W_cond (c := (decide (s14 < (v13.length : Int)))) (by kernel_rfl) (fun c16 => ?_) (fun c16 => ?_)
                · replace h := fork_t c16 h
                  refine W_skip ?_
                  refine Gh_e ⟨⟨71, [(5, .i s10), (39, .ro (a0.Most.map (cL cI_i64))), (40, .i (a0.Most.length : Int)), (41, .i s10), (46, .ro (v13.map cI_i64)), (47, .i (v13.length : Int)), (48, .i s14)]⟩, [.lv 2 [.i a0.N, .ro (a0.Most.map (cL cI_i64))]]⟩ ?_
                  refine W_seq ?_
                  refine W_gh ?_
                  refine W_block ?_
                  refine W_seq ?_
                  refine W_gh ?_
                  refine W_reg ?_
                  refine O_p 1 ?_
                  refine O_idx (kd := .i64) cI_i64 h (fun _ => rfl) (by kernel_rfl) (by kernel_rfl) (by kernel_rfl) (fun v17 e_v17 h => ?_)
                  refine O_p 3 ?_
                  refine O_nil ?_
                  refine Gh_e ⟨⟨71, [(5, .i s10), (7, .i s14), (8, .i v17), (39, .ro (a0.Most.map (cL cI_i64))), (40, .i (a0.Most.length : Int)), (41, .i s10), (46, .ro (v13.map cI_i64)), (47, .i (v13.length : Int)), (48, .i s14)]⟩, [.lv 2 [.i a0.N, .ro (a0.Most.map (cL cI_i64))]]⟩ ?_
                  refine W_gh ?_
                  refine W_block ?_
                  refine W_seq ?_
                  refine W_joinS (fun v : Bool => ⟨⟨71, [(5, .i s10), (7, .i s14), (8, .i v17), (39, .ro (a0.Most.map (cL cI_i64))), (40, .i (a0.Most.length : Int)), (41, .i s10), (46, .ro (v13.map cI_i64)), (47, .i (v13.length : Int)), (48, .i s14), (53, .bool v)]⟩, [.lv 2 [.i a0.N, .ro (a0.Most.map (cL cI_i64))]]⟩) h (fun w h => ?_) (fun w18 e_w18 h => ?_)
                  · refine W_gh ?_
                    refine W_reg ?_
                    refine O_p 3 ?_
                    refine O_fork (n := 56) (v17 != (-1099511627776)) (by kernel_rfl) (fun c19 => ?_) (fun c19 => ?_)
                    · replace h := fork_t c19 h
                      refine O_p 1 ?_
                      refine O_call (fun v => .bool v) h (.inr rfl) (ys := [.i v17]) (fun _ e => p67 _ _ e) (by kernel_rfl) (by kernel_rfl) (bels_cons rfl rfl) (fun v20 e_v20 h => ?_)
                      refine O_p 3 ?_
                      refine O_nil ?_
                      refine Gh_e ⟨⟨71, [(5, .i s10), (7, .i s14), (8, .i v17), (39, .ro (a0.Most.map (cL cI_i64))), (40, .i (a0.Most.length : Int)), (41, .i s10), (46, .ro (v13.map cI_i64)), (47, .i (v13.length : Int)), (48, .i s14), (53, .bool (!v20))]⟩, [.lv 2 [.i a0.N, .ro (a0.Most.map (cL cI_i64))]]⟩ ?_
                      replace h := Option.some.inj h; subst h
                      show _ = _
                      kernel_rfl
                    · replace h := fork_f c19 h
                      refine O_p 5 ?_
                      refine O_nil ?_
                      refine Gh_e ⟨⟨71, [(5, .i s10), (7, .i s14), (8, .i v17), (39, .ro (a0.Most.map (cL cI_i64))), (40, .i (a0.Most.length : Int)), (41, .i s10), (46, .ro (v13.map cI_i64)), (47, .i (v13.length : Int)), (48, .i s14), (53, .bool false)]⟩, [.lv 2 [.i a0.N, .ro (a0.Most.map (cL cI_i64))]]⟩ ?_
                      replace h := Option.some.inj h; subst h
                      show _ = _
                      kernel_rfl
                  · refine W_gh ?_
                    refine W_cond (c := w18) (by kernel_rfl) (fun c21 => ?_) (fun c21 => ?_)
                    · replace h := fork_t c21 h
                      refine W_seq ?_
                      refine W_reg ?_
                      refine O_p 1 ?_
                      refine O_nil ?_
                      refine W_ret ?_
                      replace h := Option.some.inj h; subst h
                      refine ⟨_, rfl, fun h => ?_⟩
                      replace h := Option.some.inj h; subst h
                      refine ⟨_, rfl, fun h => ?_⟩
                      replace h := Option.some.inj h; subst h
                      exact Fin_free (l := [.i 2]) (by kernel_rfl) (by kernel_rfl) rfl
                    · replace h := fork_f c21 h
                      refine W_seq ?_
                      refine W_cut ⟨⟨71, [(5, .i s10), (39, .ro (a0.Most.map (cL cI_i64))), (40, .i (a0.Most.length : Int)), (41, .i s10), (46, .ro (v13.map cI_i64)), (47, .i (v13.length : Int)), (48, .i s14), (53, .bool w18), (61, .bool ((s10 == s14) && (v17 != 0)))]⟩, [.lv 2 [.i a0.N, .ro (a0.Most.map (cL cI_i64))]]⟩ ?_ ?_
                      · generalize e_g22 : ((s10 == s14) && (v17 != 0)) = g22
                        refine W_gh ?_
                        refine W_reg ?_
                        refine O_p 4 ?_
                        refine O_fork (n := 65) (s10 == s14) (by kernel_rfl) (fun c23 => ?_) (fun c23 => ?_)
                        · skip
                          refine O_p 4 ?_
                          refine O_nil ?_
                          refine Gh_e ⟨⟨71, [(5, .i s10), (39, .ro (a0.Most.map (cL cI_i64))), (40, .i (a0.Most.length : Int)), (41, .i s10), (46, .ro (v13.map cI_i64)), (47, .i (v13.length : Int)), (48, .i s14), (53, .bool w18), (61, .bool (v17 != 0))]⟩, [.lv 2 [.i a0.N, .ro (a0.Most.map (cL cI_i64))]]⟩ ?_
                          have q := e_g22; simp only [c3, c4, c12, c16, c21, c23, cond_true, cond_false, Bool.true_and, Bool.false_and, Bool.true_or, Bool.false_or] at q; subst q
                          show _ = _
                          kernel_rfl
                        · skip
                          refine O_p 4 ?_
                          refine O_nil ?_
                          refine Gh_e ⟨⟨71, [(5, .i s10), (39, .ro (a0.Most.map (cL cI_i64))), (40, .i (a0.Most.length : Int)), (41, .i s10), (46, .ro (v13.map cI_i64)), (47, .i (v13.length : Int)), (48, .i s14), (53, .bool w18), (61, .bool false)]⟩, [.lv 2 [.i a0.N, .ro (a0.Most.map (cL cI_i64))]]⟩ ?_
                          have q := e_g22; simp only [c3, c4, c12, c16, c21, c23, cond_true, cond_false, Bool.true_and, Bool.false_and, Bool.true_or, Bool.false_or] at q; subst q
                          show _ = _
                          kernel_rfl
                      · refine W_gh ?_
                        refine W_cond (c := ((s10 == s14) && (v17 != 0))) (by kernel_rfl) (fun c24 => ?_) (fun c24 => ?_)
                        · replace h := fork_t c24 h
                          refine W_seq ?_
                          refine W_reg ?_
                          refine O_p 1 ?_
                          refine O_nil ?_
                          refine W_ret ?_
                          replace h := Option.some.inj h; subst h
                          refine ⟨_, rfl, fun h => ?_⟩
                          replace h := Option.some.inj h; subst h
                          refine ⟨_, rfl, fun h => ?_⟩
                          replace h := Option.some.inj h; subst h
                          exact Fin_free (l := [.i 3]) (by kernel_rfl) (by kernel_rfl) rfl
                        · replace h := fork_f c24 h
                          refine W_skip ?_
                          refine Gh_e ⟨⟨71, [(5, .i s10), (39, .ro (a0.Most.map (cL cI_i64))), (40, .i (a0.Most.length : Int)), (41, .i s10), (46, .ro (v13.map cI_i64)), (47, .i (v13.length : Int)), (48, .i s14), (53, .bool w18)]⟩, [.lv 2 [.i a0.N, .ro (a0.Most.map (cL cI_i64))]]⟩ ?_
                          refine Gh_e ⟨⟨71, [(5, .i s10), (39, .ro (a0.Most.map (cL cI_i64))), (40, .i (a0.Most.length : Int)), (41, .i s10), (46, .ro (v13.map cI_i64)), (47, .i (v13.length : Int)), (48, .i s14)]⟩, [.lv 2 [.i a0.N, .ro (a0.Most.map (cL cI_i64))]]⟩ ?_
                          refine Gh_e ⟨⟨71, [(5, .i s10), (39, .ro (a0.Most.map (cL cI_i64))), (40, .i (a0.Most.length : Int)), (41, .i s10), (46, .ro (v13.map cI_i64)), (47, .i (v13.length : Int)), (48, .i s14)]⟩, [.lv 2 [.i a0.N, .ro (a0.Most.map (cL cI_i64))]]⟩ ?_
                          refine Gh_e ⟨⟨71, [(5, .i s10), (39, .ro (a0.Most.map (cL cI_i64))), (40, .i (a0.Most.length : Int)), (41, .i s10), (46, .ro (v13.map cI_i64)), (47, .i (v13.length : Int)), (48, .i s14)]⟩, [.lv 2 [.i a0.N, .ro (a0.Most.map (cL cI_i64))]]⟩ ?_
                          refine W_gh ?_
                          refine W_reg ?_
                          refine O_p 2 ?_
                          refine O_nil ?_
                          refine Gh_e ⟨⟨71, [(5, .i s10), (39, .ro (a0.Most.map (cL cI_i64))), (40, .i (a0.Most.length : Int)), (41, .i s10), (46, .ro (v13.map cI_i64)), (47, .i (v13.length : Int)), (48, .i (addI .i64 s14 1))]⟩, [.lv 2 [.i a0.N, .ro (a0.Most.map (cL cI_i64))]]⟩ ?_
                          refine Gh_e ⟨⟨71, [(5, .i s10), (39, .ro (a0.Most.map (cL cI_i64))), (40, .i (a0.Most.length : Int)), (41, .i s10), (46, .ro (v13.map cI_i64)), (47, .i (v13.length : Int)), (48, .i (addI .i64 s14 1))]⟩, [.lv 2 [.i a0.N, .ro (a0.Most.map (cL cI_i64))]]⟩ ?_
                          replace h := Option.some.inj h; subst h
                          exact ⟨_, rfl, by kernel_rfl⟩
                · replace h := fork_f c16 h
                  refine W_exit ?_
                  refine X_hit ?_
                  refine Gh_e ⟨⟨71, [(39, .ro (a0.Most.map (cL cI_i64))), (40, .i (a0.Most.length : Int)), (41, .i s10)]⟩, [.lv 2 [.i a0.N, .ro (a0.Most.map (cL cI_i64))]]⟩ ?_
                  replace h := Option.some.inj h; subst h
                  exact ⟨_, rfl, by kernel_rfl⟩
              · refine Gh_e ⟨⟨71, [(39, .ro (a0.Most.map (cL cI_i64))), (40, .i (a0.Most.length : Int)), (41, .i s10)]⟩, [.lv 2 [.i a0.N, .ro (a0.Most.map (cL cI_i64))]]⟩ ?_
                refine W_gh ?_
                refine W_reg ?_
                refine O_p 2 ?_
                refine O_nil ?_
                refine Gh_e ⟨⟨71, [(39, .ro (a0.Most.map (cL cI_i64))), (40, .i (a0.Most.length : Int)), (41, .i (addI .i64 s10 1))]⟩, [.lv 2 [.i a0.N, .ro (a0.Most.map (cL cI_i64))]]⟩ ?_
                refine Gh_e ⟨⟨71, [(39, .ro (a0.Most.map (cL cI_i64))), (40, .i (a0.Most.length : Int)), (41, .i (addI .i64 s10 1))]⟩, [.lv 2 [.i a0.N, .ro (a0.Most.map (cL cI_i64))]]⟩ ?_
                replace h := Option.some.inj h; subst h
                exact ⟨_, rfl, by kernel_rfl⟩
            · replace h := fork_f c12 h
              refine W_exit ?_
              refine X_hit ?_
              refine Gh_e ⟨⟨71, []⟩, [.lv 2 [.i a0.N, .ro (a0.Most.map (cL cI_i64))]]⟩ ?_
              replace h := Option.some.inj h; subst h
              exact ⟨_, rfl, by kernel_rfl⟩
          · refine W_seq ?_
            refine W_reg ?_
            refine O_p 1 ?_
            refine O_nil ?_
            refine W_ret ?_
            replace h := Option.some.inj h; subst h
            exact Fin_free (l := [.i 0]) (by kernel_rfl) (by kernel_rfl) rfl

theorem p78 (a0 : SBounds) (a1 : SBounds) (r : Int) (h : m78 a0 a1 = some r) : Pt E0 hp 78 [.agg (cSBounds a0), .agg (cSBounds a1)] (.i r) := by
  unfold m78 at h
  refine Pt_W (fn78) rfl (by decide) ?_
  refine W_seq ?_
  refine W_gh ?_
  refine W_reg ?_
  refine O_p 3 ?_
  refine O_nil ?_
  refine Gh_e ⟨⟨27, [(2, .po 0 0), (3, .po 1 0)]⟩, [.lv 2 [.i a0.N, .ro (a0.Most.map (cL cI_i64))], .lv 2 [.i a1.N, .ro (a1.Most.map (cL cI_i64))]]⟩ ?_
  refine W_seq ?_
  refine W_seq ?_
  refine W_gh ?_
  refine W_reg ?_
  refine O_p 5 ?_
  refine O_nil ?_
  refine Gh_one (frz_own (id := 2) (nl := .norm) (sz := 2) (l := ([a0, a1] : List SBounds)) okSBounds.bel (by kernel_rfl) (by kernel_rfl) rfl rfl (s1 := ⟨⟨27, [(2, .po 0 0), (3, .po 1 0), (8, .agg [.i a0.N, .ro (a0.Most.map (cL cI_i64))]), (9, .agg [.i a1.N, .ro (a1.Most.map (cL cI_i64))]), (10, .ro (([a0, a1] : List SBounds).map cSBounds)), (11, .i (2 : Int)), (12, .i 0)]⟩, [.lv 2 [.i a0.N, .ro (a0.Most.map (cL cI_i64))], .lv 2 [.i a1.N, .ro (a1.Most.map (cL cI_i64))], .dead]⟩) (by kernel_rfl)) ?_
  refine Gh_one (s1 := ⟨⟨27, [(2, .po 0 0), (3, .po 1 0), (10, .ro (([a0, a1] : List SBounds).map cSBounds)), (11, .i (2 : Int)), (12, .i 0)]⟩, [.lv 2 [.i a0.N, .ro (a0.Most.map (cL cI_i64))], .lv 2 [.i a1.N, .ro (a1.Most.map (cL cI_i64))], .dead]⟩) (by kernel_rfl) ?_
  refine Gh_at (s1 := ⟨⟨27, [(2, .po 0 0), (3, .po 1 0), (10, .ro (([a0, a1] : List SBounds).map cSBounds)), (11, .i (2 : Int)), (12, .i 0)]⟩, [.lv 2 [.i a0.N, .ro (a0.Most.map (cL cI_i64))], .lv 2 [.i a1.N, .ro (a1.Most.map (cL cI_i64))], .dead]⟩) (by kernel_rfl) ?_
  refine Gh_trunc (s1 := ⟨⟨27, [(2, .po 0 0), (3, .po 1 0), (10, .ro (([a0, a1] : List SBounds).map cSBounds)), (11, .i (2 : Int)), (12, .i 0)]⟩, [.lv 2 [.i a0.N, .ro (a0.Most.map (cL cI_i64))], .lv 2 [.i a1.N, .ro (a1.Most.map (cL cI_i64))]]⟩) (by kernel_rfl) (tb_ref rfl (tb_ref rfl (tb_free (ro_bel okSBounds.bel _) (tb_free rfl (tb_free rfl rfl))))) (H1 := [.lv 2 [.i a0.N, .ro (a0.Most.map (cL cI_i64))], .lv 2 [.i a1.N, .ro (a1.Most.map (cL cI_i64))]]) (by kernel_rfl) (ob_boxn (bn_free rfl (bn_free (ro_bel (okL okI_i64).bel _) rfl)) (ob_boxn (bn_free rfl (bn_free (ro_bel (okL okI_i64).bel _) rfl)) rfl)) (by kernel_rfl) ?_
  refine Gh_nil ?_
  refine W_loop (fun s1 : Int => ⟨⟨27, [(2, .po 0 0), (3, .po 1 0), (10, .ro (([a0, a1] : List SBounds).map cSBounds)), (11, .i (2 : Int)), (12, .i s1)]⟩, [.lv 2 [.i a0.N, .ro (a0.Most.map (cL cI_i64))], .lv 2 [.i a1.N, .ro (a1.Most.map (cL cI_i64))]]⟩) (fun w2 : Unit => ⟨⟨27, [(2, .po 0 0), (3, .po 1 0)]⟩, [.lv 2 [.i a0.N, .ro (a0.Most.map (cL cI_i64))], .lv 2 [.i a1.N, .ro (a1.Most.map (cL cI_i64))]]⟩) h (by kernel_rfl) (fun s1 c h => ?_) (fun w2 h => ?_)
  · refine W_gh ?_
    refine W_seq ?_
    refine W_reg ?_
    refine O_p 1 ?_
    refine O_nil ?_
    refine W_seq ?_
    refine W_gh ?_
    refine W_cond (c := (decide (s1 < (2 : Int)))) (by kernel_rfl) (fun c3 => ?_) (fun c3 => ?_)
    · replace h := fork_t c3 h
      refine W_skip ?_
      refine Gh_e ⟨⟨27, [(2, .po 0 0), (3, .po 1 0), (10, .ro (([a0, a1] : List SBounds).map cSBounds)), (11, .i (2 : Int)), (12, .i s1)]⟩, [.lv 2 [.i a0.N, .ro (a0.Most.map (cL cI_i64))], .lv 2 [.i a1.N, .ro (a1.Most.map (cL cI_i64))]]⟩ ?_
      refine W_seq ?_
      refine W_gh ?_
      refine W_block ?_
      refine W_seq ?_
      refine W_gh ?_
      refine W_reg ?_
      refine O_idx (kd := .i64) cSBounds h (fun _ => rfl) (by kernel_rfl) (by kernel_rfl) (by kernel_rfl) (fun v4 e_v4 h => ?_)
      refine O_p 3 ?_
      refine O_nil ?_
      refine Gh_e ⟨⟨27, [(2, .po 0 0), (3, .po 1 0), (6, .po 2 0), (10, .ro (([a0, a1] : List SBounds).map cSBounds)), (11, .i (2 : Int)), (12, .i s1)]⟩, [.lv 2 [.i a0.N, .ro (a0.Most.map (cL cI_i64))], .lv 2 [.i a1.N, .ro (a1.Most.map (cL cI_i64))], .lv 2 [.i v4.N, .ro (v4.Most.map (cL cI_i64))]]⟩ ?_
      refine W_seq ?_
      refine W_gh ?_
      refine W_reg ?_
      refine O_p 1 ?_
      refine O_call (fun v => .i v) h (.inr rfl) (ys := [.agg (cSBounds v4)]) (fun _ e => p32 _ _ e) (by kernel_rfl) (by kernel_rfl) (bels_cons (okSBounds.bel _) rfl) (fun v5 e_v5 h => ?_)
      refine O_p 1 ?_
      refine O_nil ?_
      refine Gh_e ⟨⟨27, [(2, .po 0 0), (3, .po 1 0), (7, .i v5), (10, .ro (([a0, a1] : List SBounds).map cSBounds)), (11, .i (2 : Int)), (12, .i s1)]⟩, [.lv 2 [.i a0.N, .ro (a0.Most.map (cL cI_i64))], .lv 2 [.i a1.N, .ro (a1.Most.map (cL cI_i64))], .lv 2 [.i v4.N, .ro (v4.Most.map (cL cI_i64))]]⟩ ?_
      refine W_seq ?_
      refine W_gh ?_
      refine W_reg ?_
      refine O_p 2 ?_
      refine O_nil ?_
      refine Gh_e ⟨⟨27, [(2, .po 0 0), (3, .po 1 0), (7, .i v5), (10, .ro (([a0, a1] : List SBounds).map cSBounds)), (11, .i (2 : Int)), (12, .i s1), (19, .bool (v5 != 0))]⟩, [.lv 2 [.i a0.N, .ro (a0.Most.map (cL cI_i64))], .lv 2 [.i a1.N, .ro (a1.Most.map (cL cI_i64))], .lv 2 [.i v4.N, .ro (v4.Most.map (cL cI_i64))]]⟩ ?_
      refine W_gh ?_
      refine W_cond (c := (v5 != 0)) (by kernel_rfl) (fun c6 => ?_) (fun c6 => ?_)
      · replace h := fork_t c6 h
        refine W_seq ?_
        refine W_gh ?_
        refine W_reg ?_
        refine O_p 2 ?_
        refine O_nil ?_
        refine Gh_e ⟨⟨27, [(2, .po 0 0), (3, .po 1 0), (4, .i v5), (10, .ro (([a0, a1] : List SBounds).map cSBounds)), (11, .i (2 : Int)), (12, .i s1), (19, .bool (v5 != 0))]⟩, [.lv 2 [.i a0.N, .ro (a0.Most.map (cL cI_i64))], .lv 2 [.i a1.N, .ro (a1.Most.map (cL cI_i64))], .lv 2 [.i v4.N, .ro (v4.Most.map (cL cI_i64))]]⟩ ?_
        refine W_ret ?_
        replace h := Option.some.inj h; subst h
        refine ⟨_, rfl, fun h => ?_⟩
        replace h := Option.some.inj h; subst h
        exact Fin_free (l := [.i v5]) (by kernel_rfl) (by kernel_rfl) rfl
      · replace h := fork_f c6 h
        refine W_skip ?_
        refine Gh_e ⟨⟨27, [(2, .po 0 0), (3, .po 1 0), (10, .ro (([a0, a1] : List SBounds).map cSBounds)), (11, .i (2 : Int)), (12, .i s1)]⟩, [.lv 2 [.i a0.N, .ro (a0.Most.map (cL cI_i64))], .lv 2 [.i a1.N, .ro (a1.Most.map (cL cI_i64))], .lv 2 [.i v4.N, .ro (v4.Most.map (cL cI_i64))]]⟩ ?_
        refine Gh_one (s1 := ⟨⟨27, [(2, .po 0 0), (3, .po 1 0), (10, .ro (([a0, a1] : List SBounds).map cSBounds)), (11, .i (2 : Int)), (12, .i s1)]⟩, [.lv 2 [.i a0.N, .ro (a0.Most.map (cL cI_i64))], .lv 2 [.i a1.N, .ro (a1.Most.map (cL cI_i64))], .lv 2 [.i v4.N, .ro (v4.Most.map (cL cI_i64))]]⟩) (by kernel_rfl) ?_
        refine Gh_at (s1 := ⟨⟨27, [(2, .po 0 0), (3, .po 1 0), (10, .ro (([a0, a1] : List SBounds).map cSBounds)), (11, .i (2 : Int)), (12, .i s1)]⟩, [.lv 2 [.i a0.N, .ro (a0.Most.map (cL cI_i64))], .lv 2 [.i a1.N, .ro (a1.Most.map (cL cI_i64))], .lv 2 [.i v4.N, .ro (v4.Most.map (cL cI_i64))]]⟩) (by kernel_rfl) ?_
        refine Gh_trunc (s1 := ⟨⟨27, [(2, .po 0 0), (3, .po 1 0), (10, .ro (([a0, a1] : List SBounds).map cSBounds)), (11, .i (2 : Int)), (12, .i s1)]⟩, [.lv 2 [.i a0.N, .ro (a0.Most.map (cL cI_i64))], .lv 2 [.i a1.N, .ro (a1.Most.map (cL cI_i64))]]⟩) (by kernel_rfl) (tb_ref rfl (tb_ref rfl (tb_free (ro_bel okSBounds.bel _) (tb_free rfl (tb_free rfl rfl))))) (H1 := [.lv 2 [.i a0.N, .ro (a0.Most.map (cL cI_i64))], .lv 2 [.i a1.N, .ro (a1.Most.map (cL cI_i64))]]) (by kernel_rfl) (ob_boxn (bn_free rfl (bn_free (ro_bel (okL okI_i64).bel _) rfl)) (ob_boxn (bn_free rfl (bn_free (ro_bel (okL okI_i64).bel _) rfl)) rfl)) (by kernel_rfl) ?_
        refine Gh_nil ?_
        refine W_gh ?_
        refine W_reg ?_
        refine O_p 2 ?_
        refine O_nil ?_
        refine Gh_e ⟨⟨27, [(2, .po 0 0), (3, .po 1 0), (10, .ro (([a0, a1] : List SBounds).map cSBounds)), (11, .i (2 : Int)), (12, .i (addI .i64 s1 1))]⟩, [.lv 2 [.i a0.N, .ro (a0.Most.map (cL cI_i64))], .lv 2 [.i a1.N, .ro (a1.Most.map (cL cI_i64))]]⟩ ?_
        refine Gh_one (s1 := ⟨⟨27, [(2, .po 0 0), (3, .po 1 0), (10, .ro (([a0, a1] : List SBounds).map cSBounds)), (11, .i (2 : Int)), (12, .i (addI .i64 s1 1))]⟩, [.lv 2 [.i a0.N, .ro (a0.Most.map (cL cI_i64))], .lv 2 [.i a1.N, .ro (a1.Most.map (cL cI_i64))]]⟩) (by kernel_rfl) ?_
        refine Gh_trunc0 (by kernel_rfl) ?_
        refine Gh_nil ?_
        replace h := Option.some.inj h; subst h
        exact ⟨_, rfl, by kernel_rfl⟩
    · replace h := fork_f c3 h
      refine W_exit ?_
      refine X_hit ?_
      refine Gh_one (s1 := ⟨⟨27, [(2, .po 0 0), (3, .po 1 0)]⟩, [.lv 2 [.i a0.N, .ro (a0.Most.map (cL cI_i64))], .lv 2 [.i a1.N, .ro (a1.Most.map (cL cI_i64))]]⟩) (by kernel_rfl) ?_
      refine Gh_trunc0 (by kernel_rfl) ?_
      refine Gh_nil ?_
      replace h := Option.some.inj h; subst h
      exact ⟨_, rfl, by kernel_rfl⟩
  · refine W_seq ?_
    refine W_seq ?_
    refine W_gh ?_
    refine W_reg ?_
    refine O_p 5 ?_
    refine O_nil ?_
    refine Gh_e ⟨⟨27, [(26, .bool (a0.N != a1.N))]⟩, [.lv 2 [.i a0.N, .ro (a0.Most.map (cL cI_i64))], .lv 2 [.i a1.N, .ro (a1.Most.map (cL cI_i64))]]⟩ ?_
    refine W_gh ?_
    refine W_cond (c := (a0.N != a1.N)) (by kernel_rfl) (fun c7 => ?_) (fun c7 => ?_)
    · replace h := fork_t c7 h
      refine W_seq ?_
      refine W_reg ?_
      refine O_p 1 ?_
      refine O_nil ?_
      refine W_ret ?_
      replace h := Option.some.inj h; subst h
      exact Fin_free (l := [.i 8]) (by kernel_rfl) (by kernel_rfl) rfl
    · replace h := fork_f c7 h
      refine W_skip ?_
      refine Gh_e ⟨⟨27, []⟩, [.lv 2 [.i a0.N, .ro (a0.Most.map (cL cI_i64))], .lv 2 [.i a1.N, .ro (a1.Most.map (cL cI_i64))]]⟩ ?_
      refine W_seq ?_
      refine W_reg ?_
      refine O_p 1 ?_
      refine O_nil ?_
      refine W_ret ?_
      replace h := Option.some.inj h; subst h
      exact Fin_free (l := [.i 0]) (by kernel_rfl) (by kernel_rfl) rfl
end G11
