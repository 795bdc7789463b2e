/- The code computes the models, printed by a program of mine (dec.py). No condition. -/
import Derived.Test.YteoiegapifoboaaG11p0
import Derived.Test.YteoiegapifoboaaG11x
import Derived.Test.YteoiegapifoboaaG11a
namespace G11
open Go Go.Pl Go.Am Go.Am.As
set_option linter.unusedVariables false
set_option linter.unusedSimpArgs false
set_option maxHeartbeats 1000000

theorem p10 (a0 : SBounds) (a1 : SBounds) (r : Bool) (h : m10 a0 a1 = some r) : Pt E0 hp 10 [.agg (cSBounds a0), .agg (cSBounds a1)] (.bool r) := by
  unfold m10 at h
  refine Pt_W (fn10) rfl (by decide) ?_
  refine W_seq ?_
  refine W_gh ?_
  refine W_reg ?_
  refine O_p 3 ?_
  refine O_nil ?_
  refine Gh_e ⟨⟨67, [(2, .po 0 0), (3, .po 1 0)]⟩, [.lv 2 [.i a0.N, .ro (a0.Most.map (cL cI_i64))], .lv 2 [.i a1.N, .ro (a1.Most.map (cL cI_i64))]]⟩ ?_
  refine W_seq ?_
  refine W_seq ?_
  refine W_joinS (fun v : Bool => ⟨⟨67, [(2, .po 0 0), (3, .po 1 0), (20, .bool v)]⟩, [.lv 2 [.i a0.N, .ro (a0.Most.map (cL cI_i64))], .lv 2 [.i a1.N, .ro (a1.Most.map (cL cI_i64))]]⟩) h (fun w h => ?_) (fun w1 e_w1 h => ?_)
  · refine W_gh ?_
    refine W_reg ?_
    refine O_p 1 ?_
    refine O_call (fun v => .bool v) h (.inr rfl) (ys := [.agg (cSBounds a0)]) (fun _ e => p12 _ _ e) (by kernel_rfl) (by kernel_rfl) (bels_cons (okSBounds.bel _) rfl) (fun v2 e_v2 h => ?_)
    refine O_p 2 ?_
    refine O_fork (n := 16) (!v2) (by kernel_rfl) (fun c3 => ?_) (fun c3 => ?_)
    · replace h := fork_t c3 h
      refine O_p 4 ?_
      refine O_nil ?_
      refine Gh_e ⟨⟨67, [(2, .po 0 0), (3, .po 1 0), (20, .bool true)]⟩, [.lv 2 [.i a0.N, .ro (a0.Most.map (cL cI_i64))], .lv 2 [.i a1.N, .ro (a1.Most.map (cL cI_i64))]]⟩ ?_
      replace h := Option.some.inj h; subst h
      show _ = _
      kernel_rfl
    · replace h := fork_f c3 h
      refine O_p 1 ?_
      refine O_call (fun v => .bool v) h (.inr rfl) (ys := [.agg (cSBounds a1)]) (fun _ e => p12 _ _ e) (by kernel_rfl) (by kernel_rfl) (bels_cons (okSBounds.bel _) rfl) (fun v4 e_v4 h => ?_)
      refine O_p 2 ?_
      refine O_nil ?_
      refine Gh_e ⟨⟨67, [(2, .po 0 0), (3, .po 1 0), (20, .bool (!v4))]⟩, [.lv 2 [.i a0.N, .ro (a0.Most.map (cL cI_i64))], .lv 2 [.i a1.N, .ro (a1.Most.map (cL cI_i64))]]⟩ ?_
      replace h := Option.some.inj h; subst h
      show _ = _
      kernel_rfl
  · refine W_gh ?_
    refine W_cond (c := w1) (by kernel_rfl) (fun c5 => ?_) (fun c5 => ?_)
    · replace h := fork_t c5 h
      refine W_seq ?_
      refine W_gh ?_
      refine W_reg ?_
      refine O_call (fun v => .bool v) h (.inr rfl) (ys := []) (fun _ e => p13  _ e) (by kernel_rfl) (by kernel_rfl) rfl (fun v6 e_v6 h => ?_)
      refine O_p 1 ?_
      refine O_nil ?_
      refine Gh_e ⟨⟨67, [(2, .po 0 0), (3, .po 1 0), (4, .bool v6), (20, .bool w1)]⟩, [.lv 2 [.i a0.N, .ro (a0.Most.map (cL cI_i64))], .lv 2 [.i a1.N, .ro (a1.Most.map (cL cI_i64))]]⟩ ?_
      refine W_ret ?_
      replace h := Option.some.inj h; subst h
      exact Fin_free (l := [.bool v6]) (by kernel_rfl) (by kernel_rfl) rfl
    · replace h := fork_f c5 h
      refine W_skip ?_
      refine Gh_e ⟨⟨67, [(2, .po 0 0), (3, .po 1 0)]⟩, [.lv 2 [.i a0.N, .ro (a0.Most.map (cL cI_i64))], .lv 2 [.i a1.N, .ro (a1.Most.map (cL cI_i64))]]⟩ ?_
      refine W_seq ?_
      refine W_gh ?_
      refine W_reg ?_
      refine O_p 2 ?_
      refine O_call (fun v => .tup [.agg [.i v.1.N, .ro (v.1.Most.map (cL cI_i64))], .i v.2]) h (.inr rfl) (ys := [.agg (cSBounds a0), .agg (cSBounds a1)]) (fun _ e => p41 _ _ _ e) (by kernel_rfl) (by kernel_rfl) (bels_cons (okSBounds.bel _) (bels_cons (okSBounds.bel _) rfl)) (fun v7 e_v7 h => ?_)
      refine O_p 6 ?_
      refine O_nil ?_
      refine Gh_e ⟨⟨67, [(2, .po 0 0), (3, .po 1 0), (5, .po 2 0), (6, .i v7.2)]⟩, [.lv 2 [.i a0.N, .ro (a0.Most.map (cL cI_i64))], .lv 2 [.i a1.N, .ro (a1.Most.map (cL cI_i64))], .lv 2 [.i v7.1.N, .ro (v7.1.Most.map (cL cI_i64))]]⟩ ?_
      refine W_seq ?_
      refine W_gh ?_
      refine W_reg ?_
      refine O_p 2 ?_
      refine O_call (fun v => .tup [.agg [.i v.1.N, .ro (v.1.Most.map (cL cI_i64))], .i v.2]) h (.inr rfl) (ys := [.agg (cSBounds a0), .agg (cSBounds a1)]) (fun _ e => p42 _ _ _ e) (by kernel_rfl) (by kernel_rfl) (bels_cons (okSBounds.bel _) (bels_cons (okSBounds.bel _) rfl)) (fun v8 e_v8 h => ?_)
      refine O_p 6 ?_
      refine O_nil ?_
      refine Gh_e ⟨⟨67, [(2, .po 0 0), (3, .po 1 0), (5, .po 2 0), (6, .i v7.2), (7, .po 3 0), (8, .i v8.2)]⟩, [.lv 2 [.i a0.N, .ro (a0.Most.map (cL cI_i64))], .lv 2 [.i a1.N, .ro (a1.Most.map (cL cI_i64))], .lv 2 [.i v7.1.N, .ro (v7.1.Most.map (cL cI_i64))], .lv 2 [.i v8.1.N, .ro (v8.1.Most.map (cL cI_i64))]]⟩ ?_
      refine W_seq ?_
      refine W_gh ?_
      refine W_reg ?_
      refine O_p 2 ?_
      refine O_call (fun v => .tup [.bool v.1, .i v.2]) h (.inr rfl) (ys := [.agg (cSBounds a0), .agg (cSBounds a1)]) (fun _ e => p43 _ _ _ e) (by kernel_rfl) (by kernel_rfl) (bels_cons (okSBounds.bel _) (bels_cons (okSBounds.bel _) rfl)) (fun v9 e_v9 h => ?_)
      refine O_p 5 ?_
      refine O_nil ?_
      refine Gh_e ⟨⟨67, [(2, .po 0 0), (3, .po 1 0), (5, .po 2 0), (6, .i v7.2), (7, .po 3 0), (8, .i v8.2), (9, .bool v9.1), (10, .i v9.2)]⟩, [.lv 2 [.i a0.N, .ro (a0.Most.map (cL cI_i64))], .lv 2 [.i a1.N, .ro (a1.Most.map (cL cI_i64))], .lv 2 [.i v7.1.N, .ro (v7.1.Most.map (cL cI_i64))], .lv 2 [.i v8.1.N, .ro (v8.1.Most.map (cL cI_i64))]]⟩ ?_
      refine W_seq ?_
      refine W_gh ?_
      refine W_reg ?_
      refine O_p 2 ?_
      refine O_call (fun v => .tup [.bool v.1, .i v.2]) h (.inr rfl) (ys := [.agg (cSBounds a0), .agg (cSBounds a1)]) (fun _ e => p44 _ _ _ e) (by kernel_rfl) (by kernel_rfl) (bels_cons (okSBounds.bel _) (bels_cons (okSBounds.bel _) rfl)) (fun v10 e_v10 h => ?_)
      refine O_p 5 ?_
      refine O_nil ?_
      refine Gh_e ⟨⟨67, [(5, .po 2 0), (6, .i v7.2), (7, .po 3 0), (8, .i v8.2), (9, .bool v9.1), (10, .i v9.2), (11, .bool v10.1), (12, .i v10.2)]⟩, [.lv 2 [.i a0.N, .ro (a0.Most.map (cL cI_i64))], .lv 2 [.i a1.N, .ro (a1.Most.map (cL cI_i64))], .lv 2 [.i v7.1.N, .ro (v7.1.Most.map (cL cI_i64))], .lv 2 [.i v8.1.N, .ro (v8.1.Most.map (cL cI_i64))]]⟩ ?_
      refine W_seq ?_
      refine W_joinS (fun v : Bool => ⟨⟨67, [(4, .bool v)]⟩, [.lv 2 [.i a0.N, .ro (a0.Most.map (cL cI_i64))], .lv 2 [.i a1.N, .ro (a1.Most.map (cL cI_i64))], .lv 2 [.i v7.1.N, .ro (v7.1.Most.map (cL cI_i64))], .lv 2 [.i v8.1.N, .ro (v8.1.Most.map (cL cI_i64))]]⟩) h (fun w h => ?_) (fun w11 e_w11 h => ?_)
      · refine W_gh ?_
        refine W_reg ?_
        refine O_call (fun v => .bool v) h (.inr rfl) (ys := []) (fun _ e => p13  _ e) (by kernel_rfl) (by kernel_rfl) rfl (fun v12 e_v12 h => ?_)
        refine O_p 1 ?_
        refine O_fork (n := 47) v12 (by kernel_rfl) (fun c13 => ?_) (fun c13 => ?_)
        · replace h := fork_t c13 h
          refine O_p 2 ?_
          refine O_call (fun v => .bool v) h (.inr rfl) (ys := [.agg (cSBounds v7.1), .agg (cSBounds v8.1)]) (fun _ e => p16 _ _ _ e) (by kernel_rfl) (by kernel_rfl) (bels_cons (okSBounds.bel _) (bels_cons (okSBounds.bel _) rfl)) (fun v14 e_v14 h => ?_)
          refine O_p 2 ?_
          refine O_fork (n := 52) v14 (by kernel_rfl) (fun c15 => ?_) (fun c15 => ?_)
          · replace h := fork_t c15 h
            refine O_p 5 ?_
            refine O_fork (n := 57) (v7.2 == v8.2) (by kernel_rfl) (fun c16 => ?_) (fun c16 => ?_)
            · replace h := fork_t c16 h
              refine O_p 5 ?_
              refine O_fork (n := 62) ((v9.1 == v10.1) != false) (by kernel_rfl) (fun c17 => ?_) (fun c17 => ?_)
              · replace h := fork_t c17 h
                refine O_p 5 ?_
                refine O_nil ?_
                refine Gh_e ⟨⟨67, [(4, .bool (v9.2 == v10.2))]⟩, [.lv 2 [.i a0.N, .ro (a0.Most.map (cL cI_i64))], .lv 2 [.i a1.N, .ro (a1.Most.map (cL cI_i64))], .lv 2 [.i v7.1.N, .ro (v7.1.Most.map (cL cI_i64))], .lv 2 [.i v8.1.N, .ro (v8.1.Most.map (cL cI_i64))]]⟩ ?_
                replace h := Option.some.inj h; subst h
                show _ = _
                kernel_rfl
              · replace h := fork_f c17 h
                refine O_p 5 ?_
                refine O_nil ?_
                refine Gh_e ⟨⟨67, [(4, .bool false)]⟩, [.lv 2 [.i a0.N, .ro (a0.Most.map (cL cI_i64))], .lv 2 [.i a1.N, .ro (a1.Most.map (cL cI_i64))], .lv 2 [.i v7.1.N, .ro (v7.1.Most.map (cL cI_i64))], .lv 2 [.i v8.1.N, .ro (v8.1.Most.map (cL cI_i64))]]⟩ ?_
                replace h := Option.some.inj h; subst h
                show _ = _
                kernel_rfl
            · replace h := fork_f c16 h
              refine O_p 10 ?_
              refine O_nil ?_
              refine Gh_e ⟨⟨67, [(4, .bool false)]⟩, [.lv 2 [.i a0.N, .ro (a0.Most.map (cL cI_i64))], .lv 2 [.i a1.N, .ro (a1.Most.map (cL cI_i64))], .lv 2 [.i v7.1.N, .ro (v7.1.Most.map (cL cI_i64))], .lv 2 [.i v8.1.N, .ro (v8.1.Most.map (cL cI_i64))]]⟩ ?_
              replace h := Option.some.inj h; subst h
              show _ = _
              kernel_rfl
          · replace h := fork_f c15 h
            refine O_p 15 ?_
            refine O_nil ?_
            refine Gh_e ⟨⟨67, [(4, .bool false)]⟩, [.lv 2 [.i a0.N, .ro (a0.Most.map (cL cI_i64))], .lv 2 [.i a1.N, .ro (a1.Most.map (cL cI_i64))], .lv 2 [.i v7.1.N, .ro (v7.1.Most.map (cL cI_i64))], .lv 2 [.i v8.1.N, .ro (v8.1.Most.map (cL cI_i64))]]⟩ ?_
            replace h := Option.some.inj h; subst h
            show _ = _
            kernel_rfl
        · replace h := fork_f c13 h
          refine O_p 20 ?_
          refine O_nil ?_
          refine Gh_e ⟨⟨67, [(4, .bool false)]⟩, [.lv 2 [.i a0.N, .ro (a0.Most.map (cL cI_i64))], .lv 2 [.i a1.N, .ro (a1.Most.map (cL cI_i64))], .lv 2 [.i v7.1.N, .ro (v7.1.Most.map (cL cI_i64))], .lv 2 [.i v8.1.N, .ro (v8.1.Most.map (cL cI_i64))]]⟩ ?_
          replace h := Option.some.inj h; subst h
          show _ = _
          kernel_rfl
      · refine W_ret ?_
        replace h := Option.some.inj h; subst h
        exact Fin_free (l := [.bool w11]) (by kernel_rfl) (by kernel_rfl) rfl
end G11
