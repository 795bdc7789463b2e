/- The code computes the models, printed by a program of mine (dec.py). No condition. -/
import Derived.Test.YteoiegapifoboaaG11p0
import Derived.Test.YteoiegapifoboaaG11x
import Derived.Test.YteoiegapifoboaaG11z
import Derived.Test.YteoiegapifoboaaG11a
namespace G11
open Go Go.Pl Go.Am Go.Am.As
set_option linter.unusedVariables false
set_option linter.unusedSimpArgs false
set_option maxHeartbeats 1000000

theorem p16 (a0 : SBounds) (a1 : SBounds) (r : Bool) (h : m16 a0 a1 = some r) : Pt E0 hp 16 [.agg (cSBounds a0), .agg (cSBounds a1)] (.bool r) := by
  unfold m16 at h
  refine Pt_W (fn16) rfl (by decide) ?_
  refine W_seq ?_
  refine W_gh ?_
  refine W_reg ?_
  refine O_p 3 ?_
  refine O_nil ?_
  refine Gh_e ⟨⟨68, [(2, .po 0 0), (3, .po 1 0)]⟩, [.lv 2 [.i a0.N, .ro (a0.Most.map (cL cI_i64))], .lv 2 [.i a1.N, .ro (a1.Most.map (cL cI_i64))]]⟩ ?_
  refine W_seq ?_
  refine W_seq ?_
  refine W_cut ⟨⟨68, [(2, .po 0 0), (3, .po 1 0), (20, .bool ((a0.N != a1.N) || ((a0.Most.length : Int) != (a1.Most.length : Int))))]⟩, [.lv 2 [.i a0.N, .ro (a0.Most.map (cL cI_i64))], .lv 2 [.i a1.N, .ro (a1.Most.map (cL cI_i64))]]⟩ ?_ ?_
  · generalize e_g1 : ((a0.N != a1.N) || ((a0.Most.length : Int) != (a1.Most.length : Int))) = g1
    refine W_gh ?_
    refine W_reg ?_
    refine O_p 6 ?_
    refine O_fork (n := 12) (a0.N != a1.N) (by kernel_rfl) (fun c2 => ?_) (fun c2 => ?_)
    · skip
      refine O_p 8 ?_
      refine O_nil ?_
      refine Gh_e ⟨⟨68, [(2, .po 0 0), (3, .po 1 0), (20, .bool true)]⟩, [.lv 2 [.i a0.N, .ro (a0.Most.map (cL cI_i64))], .lv 2 [.i a1.N, .ro (a1.Most.map (cL cI_i64))]]⟩ ?_
      have q := e_g1; simp only [c2, cond_true, cond_false, Bool.true_and, Bool.false_and, Bool.true_or, Bool.false_or] at q; subst q
      show _ = _
      kernel_rfl
    · skip
      refine O_p 2 ?_
      refine O_len (l := a0.Most) (cL cI_i64) (by kernel_rfl) (by kernel_rfl) ?_
      refine O_p 2 ?_
      refine O_len (l := a1.Most) (cL cI_i64) (by kernel_rfl) (by kernel_rfl) ?_
      refine O_p 2 ?_
      refine O_nil ?_
      refine Gh_e ⟨⟨68, [(2, .po 0 0), (3, .po 1 0), (20, .bool ((a0.Most.length : Int) != (a1.Most.length : Int)))]⟩, [.lv 2 [.i a0.N, .ro (a0.Most.map (cL cI_i64))], .lv 2 [.i a1.N, .ro (a1.Most.map (cL cI_i64))]]⟩ ?_
      have q := e_g1; simp only [c2, cond_true, cond_false, Bool.true_and, Bool.false_and, Bool.true_or, Bool.false_or] at q; subst q
      show _ = _
      kernel_rfl
  · refine W_gh ?_
    refine W_cond (c := ((a0.N != a1.N) || ((a0.Most.length : Int) != (a1.Most.length : Int)))) (by kernel_rfl) (fun c3 => ?_) (fun c3 => ?_)
    · replace h := fork_t c3 h
      refine W_seq ?_
      refine W_reg ?_
      refine O_p 1 ?_
      refine O_nil ?_
      refine W_ret ?_
      replace h := Option.some.inj h; subst h
      exact Fin_free (l := [.bool false]) (by kernel_rfl) (by kernel_rfl) rfl
    · replace h := fork_f c3 h
      refine W_skip ?_
      refine Gh_e ⟨⟨68, [(2, .po 0 0), (3, .po 1 0)]⟩, [.lv 2 [.i a0.N, .ro (a0.Most.map (cL cI_i64))], .lv 2 [.i a1.N, .ro (a1.Most.map (cL cI_i64))]]⟩ ?_
      refine W_seq ?_
      refine W_seq ?_
      refine W_reg ?_
      refine O_p 1 ?_
      refine O_nil ?_
      refine W_loop (fun s4 : Int => ⟨⟨68, [(2, .po 0 0), (3, .po 1 0), (5, .i s4)]⟩, [.lv 2 [.i a0.N, .ro (a0.Most.map (cL cI_i64))], .lv 2 [.i a1.N, .ro (a1.Most.map (cL cI_i64))]]⟩) (fun w5 : Unit => ⟨⟨68, []⟩, [.lv 2 [.i a0.N, .ro (a0.Most.map (cL cI_i64))], .lv 2 [.i a1.N, .ro (a1.Most.map (cL cI_i64))]]⟩) h (by kernel_rfl) (fun s4 c h => ?_) (fun w5 h => ?_)
      · refine W_gh ?_
        refine W_seq ?_
        refine W_seq ?_
        refine W_gh ?_
        refine W_reg ?_
        refine O_p 3 ?_
        refine O_len (l := a0.Most) (cL cI_i64) (by kernel_rfl) (by kernel_rfl) ?_
        refine O_p 1 ?_
        refine O_nil ?_
        refine Gh_e ⟨⟨68, [(2, .po 0 0), (3, .po 1 0), (5, .i s4), (25, .bool (decide (s4 < (a0.Most.length : Int))))]⟩, [.lv 2 [.i a0.N, .ro (a0.Most.map (cL cI_i64))], .lv 2 [.i a1.N, .ro (a1.Most.map (cL cI_i64))]]⟩ ?_
        refine W_gh ?_
        refine W_cond (c := (decide (s4 < (a0.Most.length : Int)))) (by kernel_rfl) (fun c6 => ?_) (fun c6 => ?_)
        · replace h := fork_t c6 h
          refine W_skip ?_
          refine Gh_e ⟨⟨68, [(2, .po 0 0), (3, .po 1 0), (5, .i s4)]⟩, [.lv 2 [.i a0.N, .ro (a0.Most.map (cL cI_i64))], .lv 2 [.i a1.N, .ro (a1.Most.map (cL cI_i64))]]⟩ ?_
          refine W_seq ?_
          refine W_gh ?_
          refine W_block ?_
          refine W_seq ?_
          refine W_seq ?_
          refine W_gh ?_
          refine W_draw ?_
          refine O_p 3 ?_
          refine O_idx (kd := .i64) (cL cI_i64) h (fun _ => rfl) (by kernel_rfl) (by kernel_rfl) (by kernel_rfl) (fun v7 e_v7 h => ?_)
          refine O_p 1 ?_
          refine O_len (l := v7) cI_i64 (by kernel_rfl) (by kernel_rfl) ?_
          refine O_p 3 ?_
          refine O_idx (kd := .i64) (cL cI_i64) h (fun _ => rfl) (by kernel_rfl) (by kernel_rfl) (by kernel_rfl) (fun v8 e_v8 h => ?_)
          refine O_p 1 ?_
          refine O_len (l := v8) cI_i64 (by kernel_rfl) (by kernel_rfl) ?_
          refine O_p 1 ?_
          refine O_nil ?_
          refine Gh_e ⟨⟨68, [(2, .po 0 0), (3, .po 1 0), (5, .i s4), (40, .bool ((v7.length : Int) != (v8.length : Int)))]⟩, [.lv 2 [.i a0.N, .ro (a0.Most.map (cL cI_i64))], .lv 2 [.i a1.N, .ro (a1.Most.map (cL cI_i64))]]⟩ ?_
          refine W_gh ?_
          refine W_cond (c := ((v7.length : Int) != (v8.length : Int))) (by kernel_rfl) (fun c9 => ?_) (fun c9 => ?_)
          · replace h := fork_t c9 h
            refine W_seq ?_
            refine W_reg ?_
            refine O_p 1 ?_
            refine O_nil ?_
            refine W_ret ?_
            replace h := Option.some.inj h; subst h
            refine ⟨_, rfl, fun h => ?_⟩
            replace h := Option.some.inj h; subst h
            exact Fin_free (l := [.bool false]) (by kernel_rfl) (by kernel_rfl) rfl
          · replace h := fork_f c9 h
            refine W_skip ?_
            refine Gh_e ⟨⟨68, [(2, .po 0 0), (3, .po 1 0), (5, .i s4)]⟩, [.lv 2 [.i a0.N, .ro (a0.Most.map (cL cI_i64))], .lv 2 [.i a1.N, .ro (a1.Most.map (cL cI_i64))]]⟩ ?_
            refine W_seq ?_
            refine W_reg ?_
            refine O_p 1 ?_
            refine O_nil ?_
            refine W_loop (fun s10 : Int => ⟨⟨68, [(2, .po 0 0), (3, .po 1 0), (5, .i s4), (6, .i s10)]⟩, [.lv 2 [.i a0.N, .ro (a0.Most.map (cL cI_i64))], .lv 2 [.i a1.N, .ro (a1.Most.map (cL cI_i64))]]⟩) (fun w11 : Unit => ⟨⟨68, [(2, .po 0 0), (3, .po 1 0), (5, .i s4)]⟩, [.lv 2 [.i a0.N, .ro (a0.Most.map (cL cI_i64))], .lv 2 [.i a1.N, .ro (a1.Most.map (cL cI_i64))]]⟩) h (by kernel_rfl) (fun s10 c h => ?_) (fun w11 h => ?_)
            · refine W_gh ?_
              refine W_seq ?_
              refine W_seq ?_
              refine W_gh ?_
              refine W_reg ?_
              refine O_p 4 ?_
              refine O_idx (kd := .i64) (cL cI_i64) h (fun _ => rfl) (by kernel_rfl) (by kernel_rfl) (by kernel_rfl) (fun v12 e_v12 h => ?_)
              refine O_p 1 ?_
              refine O_len (l := v12) cI_i64 (by kernel_rfl) (by kernel_rfl) ?_
              refine O_p 1 ?_
              refine O_nil ?_
              refine Gh_e ⟨⟨68, [(2, .po 0 0), (3, .po 1 0), (5, .i s4), (6, .i s10), (48, .bool (decide (s10 < (v12.length : Int))))]⟩, [.lv 2 [.i a0.N, .ro (a0.Most.map (cL cI_i64))], .lv 2 [.i a1.N, .ro (a1.Most.map (cL cI_i64))]]⟩ ?_
              refine W_gh ?_
              refine W_cond (c := (decide (s10 < (v12.length : Int)))) (by kernel_rfl) (fun c13 => ?_) (fun c13 => ?_)
              · replace h := fork_t c13 h
                refine W_skip ?_
                refine Gh_e ⟨⟨68, [(2, .po 0 0), (3, .po 1 0), (5, .i s4), (6, .i s10)]⟩, [.lv 2 [.i a0.N, .ro (a0.Most.map (cL cI_i64))], .lv 2 [.i a1.N, .ro (a1.Most.map (cL cI_i64))]]⟩ ?_
                refine W_seq ?_
                refine W_gh ?_
                refine W_block ?_
                refine W_seq ?_
                refine W_gh ?_
                refine W_draw ?_
                refine O_p 3 ?_
                refine O_idx (kd := .i64) (cL cI_i64) h (fun _ => rfl) (by kernel_rfl) (by kernel_rfl) (by kernel_rfl) (fun v14 e_v14 h => ?_)
                refine O_p 2 ?_
                refine O_idx (kd := .i64) cI_i64 h (fun _ => rfl) (by kernel_rfl) (by kernel_rfl) (by kernel_rfl) (fun v15 e_v15 h => ?_)
                refine O_p 4 ?_
                refine O_idx (kd := .i64) (cL cI_i64) h (fun _ => rfl) (by kernel_rfl) (by kernel_rfl) (by kernel_rfl) (fun v16 e_v16 h => ?_)
                refine O_p 2 ?_
                refine O_idx (kd := .i64) cI_i64 h (fun _ => rfl) (by kernel_rfl) (by kernel_rfl) (by kernel_rfl) (fun v17 e_v17 h => ?_)
                refine O_p 2 ?_
                refine O_nil ?_
                refine Gh_e ⟨⟨68, [(2, .po 0 0), (3, .po 1 0), (5, .i s4), (6, .i s10), (67, .bool (v15 != v17))]⟩, [.lv 2 [.i a0.N, .ro (a0.Most.map (cL cI_i64))], .lv 2 [.i a1.N, .ro (a1.Most.map (cL cI_i64))]]⟩ ?_
                refine W_gh ?_
                refine W_cond (c := (v15 != v17)) (by kernel_rfl) (fun c18 => ?_) (fun c18 => ?_)
                · replace h := fork_t c18 h
                  refine W_seq ?_
                  refine W_reg ?_
                  refine O_p 1 ?_
                  refine O_nil ?_
                  refine W_ret ?_
                  replace h := Option.some.inj h; subst h
                  refine ⟨_, rfl, fun h => ?_⟩
                  replace h := Option.some.inj h; subst h
                  refine ⟨_, rfl, fun h => ?_⟩
                  replace h := Option.some.inj h; subst h
                  exact Fin_free (l := [.bool false]) (by kernel_rfl) (by kernel_rfl) rfl
                · replace h := fork_f c18 h
                  refine W_skip ?_
                  refine Gh_e ⟨⟨68, [(2, .po 0 0), (3, .po 1 0), (5, .i s4), (6, .i s10)]⟩, [.lv 2 [.i a0.N, .ro (a0.Most.map (cL cI_i64))], .lv 2 [.i a1.N, .ro (a1.Most.map (cL cI_i64))]]⟩ ?_
                  refine Gh_e ⟨⟨68, [(2, .po 0 0), (3, .po 1 0), (5, .i s4), (6, .i s10)]⟩, [.lv 2 [.i a0.N, .ro (a0.Most.map (cL cI_i64))], .lv 2 [.i a1.N, .ro (a1.Most.map (cL cI_i64))]]⟩ ?_
                  refine W_gh ?_
                  refine W_reg ?_
                  refine O_p 3 ?_
                  refine O_nil ?_
                  refine Gh_e ⟨⟨68, [(2, .po 0 0), (3, .po 1 0), (5, .i s4), (6, .i (addI .i64 s10 1))]⟩, [.lv 2 [.i a0.N, .ro (a0.Most.map (cL cI_i64))], .lv 2 [.i a1.N, .ro (a1.Most.map (cL cI_i64))]]⟩ ?_
                  refine Gh_e ⟨⟨68, [(2, .po 0 0), (3, .po 1 0), (5, .i s4), (6, .i (addI .i64 s10 1))]⟩, [.lv 2 [.i a0.N, .ro (a0.Most.map (cL cI_i64))], .lv 2 [.i a1.N, .ro (a1.Most.map (cL cI_i64))]]⟩ ?_
                  replace h := Option.some.inj h; subst h
                  exact ⟨_, rfl, by kernel_rfl⟩
              · replace h := fork_f c13 h
                refine W_exit ?_
                refine X_hit ?_
                refine Gh_e ⟨⟨68, [(2, .po 0 0), (3, .po 1 0), (5, .i s4)]⟩, [.lv 2 [.i a0.N, .ro (a0.Most.map (cL cI_i64))], .lv 2 [.i a1.N, .ro (a1.Most.map (cL cI_i64))]]⟩ ?_
                replace h := Option.some.inj h; subst h
                exact ⟨_, rfl, by kernel_rfl⟩
            · refine Gh_e ⟨⟨68, [(2, .po 0 0), (3, .po 1 0), (5, .i s4)]⟩, [.lv 2 [.i a0.N, .ro (a0.Most.map (cL cI_i64))], .lv 2 [.i a1.N, .ro (a1.Most.map (cL cI_i64))]]⟩ ?_
              refine W_gh ?_
              refine W_reg ?_
              refine O_p 3 ?_
              refine O_nil ?_
              refine Gh_e ⟨⟨68, [(2, .po 0 0), (3, .po 1 0), (5, .i (addI .i64 s4 1))]⟩, [.lv 2 [.i a0.N, .ro (a0.Most.map (cL cI_i64))], .lv 2 [.i a1.N, .ro (a1.Most.map (cL cI_i64))]]⟩ ?_
              refine Gh_e ⟨⟨68, [(2, .po 0 0), (3, .po 1 0), (5, .i (addI .i64 s4 1))]⟩, [.lv 2 [.i a0.N, .ro (a0.Most.map (cL cI_i64))], .lv 2 [.i a1.N, .ro (a1.Most.map (cL cI_i64))]]⟩ ?_
              replace h := Option.some.inj h; subst h
              exact ⟨_, rfl, by kernel_rfl⟩
        · replace h := fork_f c6 h
          refine W_exit ?_
          refine X_hit ?_
          refine Gh_e ⟨⟨68, []⟩, [.lv 2 [.i a0.N, .ro (a0.Most.map (cL cI_i64))], .lv 2 [.i a1.N, .ro (a1.Most.map (cL cI_i64))]]⟩ ?_
          replace h := Option.some.inj h; subst h
          exact ⟨_, rfl, by kernel_rfl⟩
      · refine W_seq ?_
        refine W_reg ?_
        refine O_p 1 ?_
        refine O_nil ?_
        refine W_ret ?_
        replace h := Option.some.inj h; subst h
        exact Fin_free (l := [.bool true]) (by kernel_rfl) (by kernel_rfl) rfl

theorem p5 (a0 : SBounds) (a1 : Int) (r : Bool) (h : m5 a0 a1 = some r) : Pt E0 hp 5 [.agg (cSBounds a0), .i a1] (.bool r) := by
  unfold m5 at h
  refine Pt_W (fn5) rfl (by decide) ?_
  refine W_seq ?_
  refine W_gh ?_
  refine W_reg ?_
  refine O_p 2 ?_
  refine O_nil ?_
  refine Gh_e ⟨⟨62, [(1, .i a1), (2, .po 0 0)]⟩, [.lv 2 [.i a0.N, .ro (a0.Most.map (cL cI_i64))]]⟩ ?_
  refine W_seq ?_
  refine W_seq ?_
  refine W_gh ?_
  refine W_reg ?_
  refine O_p 1 ?_
  refine O_call (fun v => .bool v) h (.inr rfl) (ys := [.agg (cSBounds a0)]) (fun _ e => p12 _ _ e) (by kernel_rfl) (by kernel_rfl) (bels_cons (okSBounds.bel _) rfl) (fun v1 e_v1 h => ?_)
  refine O_p 1 ?_
  refine O_nil ?_
  refine Gh_e ⟨⟨62, [(1, .i a1), (2, .po 0 0), (15, .bool (!v1))]⟩, [.lv 2 [.i a0.N, .ro (a0.Most.map (cL cI_i64))]]⟩ ?_
  refine W_gh ?_
  refine W_cond (c := (!v1)) (by kernel_rfl) (fun c2 => ?_) (fun c2 => ?_)
  · replace h := fork_t c2 h
    refine W_seq ?_
    refine W_gh ?_
    refine W_reg ?_
    refine O_call (fun v => .bool v) h (.inr rfl) (ys := []) (fun _ e => p13  _ e) (by kernel_rfl) (by kernel_rfl) rfl (fun v3 e_v3 h => ?_)
    refine O_p 1 ?_
    refine O_nil ?_
    refine Gh_e ⟨⟨62, [(1, .i a1), (2, .po 0 0), (4, .bool v3), (15, .bool (!v1))]⟩, [.lv 2 [.i a0.N, .ro (a0.Most.map (cL cI_i64))]]⟩ ?_
    refine W_ret ?_
    replace h := Option.some.inj h; subst h
    exact Fin_free (l := [.bool v3]) (by kernel_rfl) (by kernel_rfl) rfl
  · replace h := fork_f c2 h
    refine W_skip ?_
    refine Gh_e ⟨⟨62, [(1, .i a1), (2, .po 0 0)]⟩, [.lv 2 [.i a0.N, .ro (a0.Most.map (cL cI_i64))]]⟩ ?_
    refine W_seq ?_
    refine W_gh ?_
    refine W_reg ?_
    refine O_p 2 ?_
    refine O_call (fun v => .tup [.agg [.i v.1.N, .ro (v.1.Most.map (cL cI_i64))], .i v.2]) h (.inr rfl) (ys := [.agg (cSBounds a0), .i a1]) (fun _ e => p23 _ _ _ e) (by kernel_rfl) (by kernel_rfl) (bels_cons (okSBounds.bel _) (bels_cons rfl rfl)) (fun v4 e_v4 h => ?_)
    refine O_p 6 ?_
    refine O_nil ?_
    refine Gh_e ⟨⟨62, [(1, .i a1), (2, .po 0 0), (5, .po 1 0), (6, .i v4.2)]⟩, [.lv 2 [.i a0.N, .ro (a0.Most.map (cL cI_i64))], .lv 2 [.i v4.1.N, .ro (v4.1.Most.map (cL cI_i64))]]⟩ ?_
    refine W_seq ?_
    refine W_gh ?_
    refine W_reg ?_
    refine O_p 2 ?_
    refine O_call (fun v => .tup [.agg [.i v.1.N, .ro (v.1.Most.map (cL cI_i64))], .i v.2]) h (.inr rfl) (ys := [.agg (cSBounds a0), .i a1]) (fun _ e => p24 _ _ _ e) (by kernel_rfl) (by kernel_rfl) (bels_cons (okSBounds.bel _) (bels_cons rfl rfl)) (fun v5 e_v5 h => ?_)
    refine O_p 6 ?_
    refine O_nil ?_
    refine Gh_e ⟨⟨62, [(1, .i a1), (2, .po 0 0), (5, .po 1 0), (6, .i v4.2), (7, .po 2 0), (8, .i v5.2)]⟩, [.lv 2 [.i a0.N, .ro (a0.Most.map (cL cI_i64))], .lv 2 [.i v4.1.N, .ro (v4.1.Most.map (cL cI_i64))], .lv 2 [.i v5.1.N, .ro (v5.1.Most.map (cL cI_i64))]]⟩ ?_
    refine W_seq ?_
    refine W_gh ?_
    refine W_reg ?_
    refine O_p 2 ?_
    refine O_call (fun v => .tup [.agg [.i v.1.N, .ro (v.1.Most.map (cL cI_i64))], .i v.2]) h (.inr rfl) (ys := [.agg (cSBounds a0), .i a1]) (fun _ e => p25 _ _ _ e) (by kernel_rfl) (by kernel_rfl) (bels_cons (okSBounds.bel _) (bels_cons rfl rfl)) (fun v6 e_v6 h => ?_)
    refine O_p 6 ?_
    refine O_nil ?_
    refine Gh_e ⟨⟨62, [(1, .i a1), (2, .po 0 0), (5, .po 1 0), (6, .i v4.2), (7, .po 2 0), (8, .i v5.2), (9, .po 3 0), (10, .i v6.2)]⟩, [.lv 2 [.i a0.N, .ro (a0.Most.map (cL cI_i64))], .lv 2 [.i v4.1.N, .ro (v4.1.Most.map (cL cI_i64))], .lv 2 [.i v5.1.N, .ro (v5.1.Most.map (cL cI_i64))], .lv 2 [.i v6.1.N, .ro (v6.1.Most.map (cL cI_i64))]]⟩ ?_
    refine W_seq ?_
    refine W_gh ?_
    refine W_reg ?_
    refine O_p 2 ?_
    refine O_call (fun v => .tup [.agg [.i v.1.N, .ro (v.1.Most.map (cL cI_i64))], .i v.2]) h (.inr rfl) (ys := [.agg (cSBounds a0), .i a1]) (fun _ e => p26 _ _ _ e) (by kernel_rfl) (by kernel_rfl) (bels_cons (okSBounds.bel _) (bels_cons rfl rfl)) (fun v7 e_v7 h => ?_)
    refine O_p 6 ?_
    refine O_nil ?_
    refine Gh_e ⟨⟨62, [(5, .po 1 0), (6, .i v4.2), (7, .po 2 0), (8, .i v5.2), (9, .po 3 0), (10, .i v6.2), (11, .po 4 0), (12, .i v7.2)]⟩, [.lv 2 [.i a0.N, .ro (a0.Most.map (cL cI_i64))], .lv 2 [.i v4.1.N, .ro (v4.1.Most.map (cL cI_i64))], .lv 2 [.i v5.1.N, .ro (v5.1.Most.map (cL cI_i64))], .lv 2 [.i v6.1.N, .ro (v6.1.Most.map (cL cI_i64))], .lv 2 [.i v7.1.N, .ro (v7.1.Most.map (cL cI_i64))]]⟩ ?_
    refine W_seq ?_
    refine W_joinS (fun v : Bool => ⟨⟨62, [(4, .bool v)]⟩, [.lv 2 [.i a0.N, .ro (a0.Most.map (cL cI_i64))], .lv 2 [.i v4.1.N, .ro (v4.1.Most.map (cL cI_i64))], .lv 2 [.i v5.1.N, .ro (v5.1.Most.map (cL cI_i64))], .lv 2 [.i v6.1.N, .ro (v6.1.Most.map (cL cI_i64))], .lv 2 [.i v7.1.N, .ro (v7.1.Most.map (cL cI_i64))]]⟩) h (fun w h => ?_) (fun w8 e_w8 h => ?_)
    · refine W_gh ?_
      refine W_reg ?_
      refine O_call (fun v => .bool v) h (.inr rfl) (ys := []) (fun _ e => p13  _ e) (by kernel_rfl) (by kernel_rfl) rfl (fun v9 e_v9 h => ?_)
      refine O_p 1 ?_
      refine O_fork (n := 42) v9 (by kernel_rfl) (fun c10 => ?_) (fun c10 => ?_)
      · replace h := fork_t c10 h
        refine O_p 2 ?_
        refine O_call (fun v => .bool v) h (.inr rfl) (ys := [.agg (cSBounds v4.1), .agg (cSBounds v5.1)]) (fun _ e => p16 _ _ _ e) (by kernel_rfl) (by kernel_rfl) (bels_cons (okSBounds.bel _) (bels_cons (okSBounds.bel _) rfl)) (fun v11 e_v11 h => ?_)
        refine O_p 2 ?_
        refine O_fork (n := 47) v11 (by kernel_rfl) (fun c12 => ?_) (fun c12 => ?_)
        · replace h := fork_t c12 h
          refine O_p 5 ?_
          refine O_fork (n := 52) (v4.2 == v5.2) (by kernel_rfl) (fun c13 => ?_) (fun c13 => ?_)
          · replace h := fork_t c13 h
            refine O_p 2 ?_
            refine O_call (fun v => .bool v) h (.inr rfl) (ys := [.agg (cSBounds v6.1), .agg (cSBounds v7.1)]) (fun _ e => p16 _ _ _ e) (by kernel_rfl) (by kernel_rfl) (bels_cons (okSBounds.bel _) (bels_cons (okSBounds.bel _) rfl)) (fun v14 e_v14 h => ?_)
            refine O_p 2 ?_
            refine O_fork (n := 57) v14 (by kernel_rfl) (fun c15 => ?_) (fun c15 => ?_)
            · replace h := fork_t c15 h
              refine O_p 5 ?_
              refine O_nil ?_
              refine Gh_e ⟨⟨62, [(4, .bool (v6.2 == v7.2))]⟩, [.lv 2 [.i a0.N, .ro (a0.Most.map (cL cI_i64))], .lv 2 [.i v4.1.N, .ro (v4.1.Most.map (cL cI_i64))], .lv 2 [.i v5.1.N, .ro (v5.1.Most.map (cL cI_i64))], .lv 2 [.i v6.1.N, .ro (v6.1.Most.map (cL cI_i64))], .lv 2 [.i v7.1.N, .ro (v7.1.Most.map (cL cI_i64))]]⟩ ?_
              replace h := Option.some.inj h; subst h
              show _ = _
              kernel_rfl
            · replace h := fork_f c15 h
              refine O_p 5 ?_
              refine O_nil ?_
              refine Gh_e ⟨⟨62, [(4, .bool false)]⟩, [.lv 2 [.i a0.N, .ro (a0.Most.map (cL cI_i64))], .lv 2 [.i v4.1.N, .ro (v4.1.Most.map (cL cI_i64))], .lv 2 [.i v5.1.N, .ro (v5.1.Most.map (cL cI_i64))], .lv 2 [.i v6.1.N, .ro (v6.1.Most.map (cL cI_i64))], .lv 2 [.i v7.1.N, .ro (v7.1.Most.map (cL cI_i64))]]⟩ ?_
              replace h := Option.some.inj h; subst h
              show _ = _
              kernel_rfl
          · replace h := fork_f c13 h
            refine O_p 10 ?_
            refine O_nil ?_
            refine Gh_e ⟨⟨62, [(4, .bool false)]⟩, [.lv 2 [.i a0.N, .ro (a0.Most.map (cL cI_i64))], .lv 2 [.i v4.1.N, .ro (v4.1.Most.map (cL cI_i64))], .lv 2 [.i v5.1.N, .ro (v5.1.Most.map (cL cI_i64))], .lv 2 [.i v6.1.N, .ro (v6.1.Most.map (cL cI_i64))], .lv 2 [.i v7.1.N, .ro (v7.1.Most.map (cL cI_i64))]]⟩ ?_
            replace h := Option.some.inj h; subst h
            show _ = _
            kernel_rfl
        · replace h := fork_f c12 h
          refine O_p 15 ?_
          refine O_nil ?_
          refine Gh_e ⟨⟨62, [(4, .bool false)]⟩, [.lv 2 [.i a0.N, .ro (a0.Most.map (cL cI_i64))], .lv 2 [.i v4.1.N, .ro (v4.1.Most.map (cL cI_i64))], .lv 2 [.i v5.1.N, .ro (v5.1.Most.map (cL cI_i64))], .lv 2 [.i v6.1.N, .ro (v6.1.Most.map (cL cI_i64))], .lv 2 [.i v7.1.N, .ro (v7.1.Most.map (cL cI_i64))]]⟩ ?_
          replace h := Option.some.inj h; subst h
          show _ = _
          kernel_rfl
      · replace h := fork_f c10 h
        refine O_p 20 ?_
        refine O_nil ?_
        refine Gh_e ⟨⟨62, [(4, .bool false)]⟩, [.lv 2 [.i a0.N, .ro (a0.Most.map (cL cI_i64))], .lv 2 [.i v4.1.N, .ro (v4.1.Most.map (cL cI_i64))], .lv 2 [.i v5.1.N, .ro (v5.1.Most.map (cL cI_i64))], .lv 2 [.i v6.1.N, .ro (v6.1.Most.map (cL cI_i64))], .lv 2 [.i v7.1.N, .ro (v7.1.Most.map (cL cI_i64))]]⟩ ?_
        replace h := Option.some.inj h; subst h
        show _ = _
        kernel_rfl
    · refine W_ret ?_
      replace h := Option.some.inj h; subst h
      exact Fin_free (l := [.bool w8]) (by kernel_rfl) (by kernel_rfl) rfl
end G11
