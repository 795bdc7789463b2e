/- The code computes the models, printed by a program of mine (dec.py). No condition. -/
import Derived.Test.YteoiegapifoboaaG11p0
import Derived.Test.YteoiegapifoboaaG11x
import Derived.Test.YteoiegapifoboaaG11a
namespace G11
open Go Go.Pl Go.Am Go.Am.As
set_option linter.unusedVariables false
set_option linter.unusedSimpArgs false
set_option maxHeartbeats 1000000

theorem p8 (a0 : SBounds) (a1 : SChange) (r : Bool) (h : m8 a0 a1 = some r) : Pt E0 hp 8 [.agg (cSBounds a0), .agg (cSChange a1)] (.bool r) := by
  unfold m8 at h
  refine Pt_W (fn8) rfl (by decide) ?_
  refine W_seq ?_
  refine W_gh ?_
  refine W_reg ?_
  refine O_p 3 ?_
  refine O_nil ?_
  refine Gh_e ⟨⟨100, [(2, .po 0 0), (3, .po 1 0)]⟩, [.lv 2 [.i a0.N, .ro (a0.Most.map (cL cI_i64))], .lv 5 [.i a1.I, .i a1.J, .i a1.Most, .i a1.Span.Low, .i a1.Span.High]]⟩ ?_
  refine W_seq ?_
  refine W_seq ?_
  refine W_gh ?_
  refine W_reg ?_
  refine O_p 1 ?_
  refine O_call (fun v => .bool v) h (.inr rfl) (ys := [.agg (cSBounds a0)]) (fun _ e => p12 _ _ e) (by kernel_rfl) (by kernel_rfl) (bels_cons (okSBounds.bel _) rfl) (fun v1 e_v1 h => ?_)
  refine O_p 1 ?_
  refine O_nil ?_
  refine Gh_e ⟨⟨100, [(2, .po 0 0), (3, .po 1 0), (19, .bool (!v1))]⟩, [.lv 2 [.i a0.N, .ro (a0.Most.map (cL cI_i64))], .lv 5 [.i a1.I, .i a1.J, .i a1.Most, .i a1.Span.Low, .i a1.Span.High]]⟩ ?_
  refine W_gh ?_
  refine W_cond (c := (!v1)) (by kernel_rfl) (fun c2 => ?_) (fun c2 => ?_)
  · replace h := fork_t c2 h
    refine W_seq ?_
    refine W_gh ?_
    refine W_reg ?_
    refine O_call (fun v => .bool v) h (.inr rfl) (ys := []) (fun _ e => p13  _ e) (by kernel_rfl) (by kernel_rfl) rfl (fun v3 e_v3 h => ?_)
    refine O_p 1 ?_
    refine O_nil ?_
    refine Gh_e ⟨⟨100, [(2, .po 0 0), (3, .po 1 0), (4, .bool v3), (19, .bool (!v1))]⟩, [.lv 2 [.i a0.N, .ro (a0.Most.map (cL cI_i64))], .lv 5 [.i a1.I, .i a1.J, .i a1.Most, .i a1.Span.Low, .i a1.Span.High]]⟩ ?_
    refine W_ret ?_
    replace h := Option.some.inj h; subst h
    exact Fin_free (l := [.bool v3]) (by kernel_rfl) (by kernel_rfl) rfl
  · replace h := fork_f c2 h
    refine W_skip ?_
    refine Gh_e ⟨⟨100, [(2, .po 0 0), (3, .po 1 0)]⟩, [.lv 2 [.i a0.N, .ro (a0.Most.map (cL cI_i64))], .lv 5 [.i a1.I, .i a1.J, .i a1.Most, .i a1.Span.Low, .i a1.Span.High]]⟩ ?_
    refine W_seq ?_
    refine W_gh ?_
    refine W_reg ?_
    refine O_p 2 ?_
    refine O_call (fun v => .tup [.agg [.i v.1.N, .ro (v.1.Most.map (cL cI_i64))], .i v.2]) h (.inr rfl) (ys := [.i a1.I]) (fun _ e => p33 _ _ e) (by kernel_rfl) (by kernel_rfl) (bels_cons rfl rfl) (fun v4 e_v4 h => ?_)
    refine O_p 6 ?_
    refine O_nil ?_
    refine Gh_e ⟨⟨100, [(2, .po 0 0), (3, .po 1 0), (5, .po 2 0), (6, .i v4.2)]⟩, [.lv 2 [.i a0.N, .ro (a0.Most.map (cL cI_i64))], .lv 5 [.i a1.I, .i a1.J, .i a1.Most, .i a1.Span.Low, .i a1.Span.High], .lv 2 [.i v4.1.N, .ro (v4.1.Most.map (cL cI_i64))]]⟩ ?_
    refine W_seq ?_
    refine W_gh ?_
    refine W_reg ?_
    refine O_p 2 ?_
    refine O_call (fun v => .tup [.agg [.i v.1.N, .ro (v.1.Most.map (cL cI_i64))], .i v.2]) h (.inr rfl) (ys := [.i a1.I]) (fun _ e => p34 _ _ e) (by kernel_rfl) (by kernel_rfl) (bels_cons rfl rfl) (fun v5 e_v5 h => ?_)
    refine O_p 6 ?_
    refine O_nil ?_
    refine Gh_e ⟨⟨100, [(2, .po 0 0), (3, .po 1 0), (5, .po 2 0), (6, .i v4.2), (7, .po 3 0), (8, .i v5.2)]⟩, [.lv 2 [.i a0.N, .ro (a0.Most.map (cL cI_i64))], .lv 5 [.i a1.I, .i a1.J, .i a1.Most, .i a1.Span.Low, .i a1.Span.High], .lv 2 [.i v4.1.N, .ro (v4.1.Most.map (cL cI_i64))], .lv 2 [.i v5.1.N, .ro (v5.1.Most.map (cL cI_i64))]]⟩ ?_
    refine W_seq ?_
    refine W_gh ?_
    refine W_reg ?_
    refine O_p 7 ?_
    refine O_call (fun v => .tup [.agg [.i v.1.N, .ro (v.1.Most.map (cL cI_i64))], .i v.2]) h (.inr rfl) (ys := [.agg (cSBounds a0), .i a1.I, .i a1.J, .i a1.Most]) (fun _ e => p35 _ _ _ _ _ e) (by kernel_rfl) (by kernel_rfl) (bels_cons (okSBounds.bel _) (bels_cons rfl (bels_cons rfl (bels_cons rfl rfl)))) (fun v6 e_v6 h => ?_)
    refine O_p 6 ?_
    refine O_nil ?_
    refine Gh_e ⟨⟨100, [(2, .po 0 0), (3, .po 1 0), (5, .po 2 0), (6, .i v4.2), (7, .po 3 0), (8, .i v5.2), (9, .po 4 0), (10, .i v6.2)]⟩, [.lv 2 [.i a0.N, .ro (a0.Most.map (cL cI_i64))], .lv 5 [.i a1.I, .i a1.J, .i a1.Most, .i a1.Span.Low, .i a1.Span.High], .lv 2 [.i v4.1.N, .ro (v4.1.Most.map (cL cI_i64))], .lv 2 [.i v5.1.N, .ro (v5.1.Most.map (cL cI_i64))], .lv 2 [.i v6.1.N, .ro (v6.1.Most.map (cL cI_i64))]]⟩ ?_
    refine W_seq ?_
    refine W_gh ?_
    refine W_reg ?_
    refine O_p 7 ?_
    refine O_call (fun v => .tup [.agg [.i v.1.N, .ro (v.1.Most.map (cL cI_i64))], .i v.2]) h (.inr rfl) (ys := [.agg (cSBounds a0), .i a1.I, .i a1.J, .i a1.Most]) (fun _ e => p36 _ _ _ _ _ e) (by kernel_rfl) (by kernel_rfl) (bels_cons (okSBounds.bel _) (bels_cons rfl (bels_cons rfl (bels_cons rfl rfl)))) (fun v7 e_v7 h => ?_)
    refine O_p 6 ?_
    refine O_nil ?_
    refine Gh_e ⟨⟨100, [(2, .po 0 0), (3, .po 1 0), (5, .po 2 0), (6, .i v4.2), (7, .po 3 0), (8, .i v5.2), (9, .po 4 0), (10, .i v6.2), (11, .po 5 0), (12, .i v7.2)]⟩, [.lv 2 [.i a0.N, .ro (a0.Most.map (cL cI_i64))], .lv 5 [.i a1.I, .i a1.J, .i a1.Most, .i a1.Span.Low, .i a1.Span.High], .lv 2 [.i v4.1.N, .ro (v4.1.Most.map (cL cI_i64))], .lv 2 [.i v5.1.N, .ro (v5.1.Most.map (cL cI_i64))], .lv 2 [.i v6.1.N, .ro (v6.1.Most.map (cL cI_i64))], .lv 2 [.i v7.1.N, .ro (v7.1.Most.map (cL cI_i64))]]⟩ ?_
    refine W_seq ?_
    refine W_gh ?_
    refine W_reg ?_
    refine O_p 3 ?_
    refine O_call (fun v => .tup [.agg [.i v.1.N, .ro (v.1.Most.map (cL cI_i64))], .i v.2]) h (.inr rfl) (ys := [.agg (cSBounds a0), .agg (cSSpan a1.Span)]) (fun _ e => p37 _ _ _ e) (by kernel_rfl) (by kernel_rfl) (bels_cons (okSBounds.bel _) (bels_cons (okSSpan.bel _) rfl)) (fun v8 e_v8 h => ?_)
    refine O_p 6 ?_
    refine O_nil ?_
    refine Gh_e ⟨⟨100, [(2, .po 0 0), (3, .po 1 0), (5, .po 2 0), (6, .i v4.2), (7, .po 3 0), (8, .i v5.2), (9, .po 4 0), (10, .i v6.2), (11, .po 5 0), (12, .i v7.2), (13, .po 6 0), (14, .i v8.2)]⟩, [.lv 2 [.i a0.N, .ro (a0.Most.map (cL cI_i64))], .lv 5 [.i a1.I, .i a1.J, .i a1.Most, .i a1.Span.Low, .i a1.Span.High], .lv 2 [.i v4.1.N, .ro (v4.1.Most.map (cL cI_i64))], .lv 2 [.i v5.1.N, .ro (v5.1.Most.map (cL cI_i64))], .lv 2 [.i v6.1.N, .ro (v6.1.Most.map (cL cI_i64))], .lv 2 [.i v7.1.N, .ro (v7.1.Most.map (cL cI_i64))], .lv 2 [.i v8.1.N, .ro (v8.1.Most.map (cL cI_i64))]]⟩ ?_
    refine W_seq ?_
    refine W_gh ?_
    refine W_reg ?_
    refine O_p 3 ?_
    refine O_call (fun v => .tup [.agg [.i v.1.N, .ro (v.1.Most.map (cL cI_i64))], .i v.2]) h (.inr rfl) (ys := [.agg (cSBounds a0), .agg (cSSpan a1.Span)]) (fun _ e => p38 _ _ _ e) (by kernel_rfl) (by kernel_rfl) (bels_cons (okSBounds.bel _) (bels_cons (okSSpan.bel _) rfl)) (fun v9 e_v9 h => ?_)
    refine O_p 6 ?_
    refine O_nil ?_
    refine Gh_e ⟨⟨100, [(5, .po 2 0), (6, .i v4.2), (7, .po 3 0), (8, .i v5.2), (9, .po 4 0), (10, .i v6.2), (11, .po 5 0), (12, .i v7.2), (13, .po 6 0), (14, .i v8.2), (15, .po 7 0), (16, .i v9.2)]⟩, [.lv 2 [.i a0.N, .ro (a0.Most.map (cL cI_i64))], .lv 5 [.i a1.I, .i a1.J, .i a1.Most, .i a1.Span.Low, .i a1.Span.High], .lv 2 [.i v4.1.N, .ro (v4.1.Most.map (cL cI_i64))], .lv 2 [.i v5.1.N, .ro (v5.1.Most.map (cL cI_i64))], .lv 2 [.i v6.1.N, .ro (v6.1.Most.map (cL cI_i64))], .lv 2 [.i v7.1.N, .ro (v7.1.Most.map (cL cI_i64))], .lv 2 [.i v8.1.N, .ro (v8.1.Most.map (cL cI_i64))], .lv 2 [.i v9.1.N, .ro (v9.1.Most.map (cL cI_i64))]]⟩ ?_
    refine W_seq ?_
    refine W_joinS (fun v : Bool => ⟨⟨100, [(4, .bool v)]⟩, [.lv 2 [.i a0.N, .ro (a0.Most.map (cL cI_i64))], .lv 5 [.i a1.I, .i a1.J, .i a1.Most, .i a1.Span.Low, .i a1.Span.High], .lv 2 [.i v4.1.N, .ro (v4.1.Most.map (cL cI_i64))], .lv 2 [.i v5.1.N, .ro (v5.1.Most.map (cL cI_i64))], .lv 2 [.i v6.1.N, .ro (v6.1.Most.map (cL cI_i64))], .lv 2 [.i v7.1.N, .ro (v7.1.Most.map (cL cI_i64))], .lv 2 [.i v8.1.N, .ro (v8.1.Most.map (cL cI_i64))], .lv 2 [.i v9.1.N, .ro (v9.1.Most.map (cL cI_i64))]]⟩) h (fun w h => ?_) (fun w10 e_w10 h => ?_)
    · refine W_gh ?_
      refine W_reg ?_
      refine O_call (fun v => .bool v) h (.inr rfl) (ys := []) (fun _ e => p13  _ e) (by kernel_rfl) (by kernel_rfl) rfl (fun v11 e_v11 h => ?_)
      refine O_p 1 ?_
      refine O_fork (n := 70) v11 (by kernel_rfl) (fun c12 => ?_) (fun c12 => ?_)
      · replace h := fork_t c12 h
        refine O_p 2 ?_
        refine O_call (fun v => .bool v) h (.inr rfl) (ys := [.agg (cSBounds v4.1), .agg (cSBounds v5.1)]) (fun _ e => p16 _ _ _ e) (by kernel_rfl) (by kernel_rfl) (bels_cons (okSBounds.bel _) (bels_cons (okSBounds.bel _) rfl)) (fun v13 e_v13 h => ?_)
        refine O_p 2 ?_
        refine O_fork (n := 75) v13 (by kernel_rfl) (fun c14 => ?_) (fun c14 => ?_)
        · replace h := fork_t c14 h
          refine O_p 5 ?_
          refine O_fork (n := 80) (v4.2 == v5.2) (by kernel_rfl) (fun c15 => ?_) (fun c15 => ?_)
          · replace h := fork_t c15 h
            refine O_p 2 ?_
            refine O_call (fun v => .bool v) h (.inr rfl) (ys := [.agg (cSBounds v6.1), .agg (cSBounds v7.1)]) (fun _ e => p16 _ _ _ e) (by kernel_rfl) (by kernel_rfl) (bels_cons (okSBounds.bel _) (bels_cons (okSBounds.bel _) rfl)) (fun v16 e_v16 h => ?_)
            refine O_p 2 ?_
            refine O_fork (n := 85) v16 (by kernel_rfl) (fun c17 => ?_) (fun c17 => ?_)
            · replace h := fork_t c17 h
              refine O_p 5 ?_
              refine O_fork (n := 90) (v6.2 == v7.2) (by kernel_rfl) (fun c18 => ?_) (fun c18 => ?_)
              · replace h := fork_t c18 h
                refine O_p 2 ?_
                refine O_call (fun v => .bool v) h (.inr rfl) (ys := [.agg (cSBounds v8.1), .agg (cSBounds v9.1)]) (fun _ e => p16 _ _ _ e) (by kernel_rfl) (by kernel_rfl) (bels_cons (okSBounds.bel _) (bels_cons (okSBounds.bel _) rfl)) (fun v19 e_v19 h => ?_)
                refine O_p 2 ?_
                refine O_fork (n := 95) v19 (by kernel_rfl) (fun c20 => ?_) (fun c20 => ?_)
                · replace h := fork_t c20 h
                  refine O_p 5 ?_
                  refine O_nil ?_
                  refine Gh_e ⟨⟨100, [(4, .bool (v8.2 == v9.2))]⟩, [.lv 2 [.i a0.N, .ro (a0.Most.map (cL cI_i64))], .lv 5 [.i a1.I, .i a1.J, .i a1.Most, .i a1.Span.Low, .i a1.Span.High], .lv 2 [.i v4.1.N, .ro (v4.1.Most.map (cL cI_i64))], .lv 2 [.i v5.1.N, .ro (v5.1.Most.map (cL cI_i64))], .lv 2 [.i v6.1.N, .ro (v6.1.Most.map (cL cI_i64))], .lv 2 [.i v7.1.N, .ro (v7.1.Most.map (cL cI_i64))], .lv 2 [.i v8.1.N, .ro (v8.1.Most.map (cL cI_i64))], .lv 2 [.i v9.1.N, .ro (v9.1.Most.map (cL cI_i64))]]⟩ ?_
                  replace h := Option.some.inj h; subst h
                  show _ = _
                  kernel_rfl
                · replace h := fork_f c20 h
                  refine O_p 5 ?_
                  refine O_nil ?_
                  refine Gh_e ⟨⟨100, [(4, .bool false)]⟩, [.lv 2 [.i a0.N, .ro (a0.Most.map (cL cI_i64))], .lv 5 [.i a1.I, .i a1.J, .i a1.Most, .i a1.Span.Low, .i a1.Span.High], .lv 2 [.i v4.1.N, .ro (v4.1.Most.map (cL cI_i64))], .lv 2 [.i v5.1.N, .ro (v5.1.Most.map (cL cI_i64))], .lv 2 [.i v6.1.N, .ro (v6.1.Most.map (cL cI_i64))], .lv 2 [.i v7.1.N, .ro (v7.1.Most.map (cL cI_i64))], .lv 2 [.i v8.1.N, .ro (v8.1.Most.map (cL cI_i64))], .lv 2 [.i v9.1.N, .ro (v9.1.Most.map (cL cI_i64))]]⟩ ?_
                  replace h := Option.some.inj h; subst h
                  show _ = _
                  kernel_rfl
              · replace h := fork_f c18 h
                refine O_p 10 ?_
                refine O_nil ?_
                refine Gh_e ⟨⟨100, [(4, .bool false)]⟩, [.lv 2 [.i a0.N, .ro (a0.Most.map (cL cI_i64))], .lv 5 [.i a1.I, .i a1.J, .i a1.Most, .i a1.Span.Low, .i a1.Span.High], .lv 2 [.i v4.1.N, .ro (v4.1.Most.map (cL cI_i64))], .lv 2 [.i v5.1.N, .ro (v5.1.Most.map (cL cI_i64))], .lv 2 [.i v6.1.N, .ro (v6.1.Most.map (cL cI_i64))], .lv 2 [.i v7.1.N, .ro (v7.1.Most.map (cL cI_i64))], .lv 2 [.i v8.1.N, .ro (v8.1.Most.map (cL cI_i64))], .lv 2 [.i v9.1.N, .ro (v9.1.Most.map (cL cI_i64))]]⟩ ?_
                replace h := Option.some.inj h; subst h
                show _ = _
                kernel_rfl
            · replace h := fork_f c17 h
              refine O_p 15 ?_
              refine O_nil ?_
              refine Gh_e ⟨⟨100, [(4, .bool false)]⟩, [.lv 2 [.i a0.N, .ro (a0.Most.map (cL cI_i64))], .lv 5 [.i a1.I, .i a1.J, .i a1.Most, .i a1.Span.Low, .i a1.Span.High], .lv 2 [.i v4.1.N, .ro (v4.1.Most.map (cL cI_i64))], .lv 2 [.i v5.1.N, .ro (v5.1.Most.map (cL cI_i64))], .lv 2 [.i v6.1.N, .ro (v6.1.Most.map (cL cI_i64))], .lv 2 [.i v7.1.N, .ro (v7.1.Most.map (cL cI_i64))], .lv 2 [.i v8.1.N, .ro (v8.1.Most.map (cL cI_i64))], .lv 2 [.i v9.1.N, .ro (v9.1.Most.map (cL cI_i64))]]⟩ ?_
              replace h := Option.some.inj h; subst h
              show _ = _
              kernel_rfl
          · replace h := fork_f c15 h
            refine O_p 20 ?_
            refine O_nil ?_
            refine Gh_e ⟨⟨100, [(4, .bool false)]⟩, [.lv 2 [.i a0.N, .ro (a0.Most.map (cL cI_i64))], .lv 5 [.i a1.I, .i a1.J, .i a1.Most, .i a1.Span.Low, .i a1.Span.High], .lv 2 [.i v4.1.N, .ro (v4.1.Most.map (cL cI_i64))], .lv 2 [.i v5.1.N, .ro (v5.1.Most.map (cL cI_i64))], .lv 2 [.i v6.1.N, .ro (v6.1.Most.map (cL cI_i64))], .lv 2 [.i v7.1.N, .ro (v7.1.Most.map (cL cI_i64))], .lv 2 [.i v8.1.N, .ro (v8.1.Most.map (cL cI_i64))], .lv 2 [.i v9.1.N, .ro (v9.1.Most.map (cL cI_i64))]]⟩ ?_
            replace h := Option.some.inj h; subst h
            show _ = _
            kernel_rfl
        · replace h := fork_f c14 h
          refine O_p 25 ?_
          refine O_nil ?_
          refine Gh_e ⟨⟨100, [(4, .bool false)]⟩, [.lv 2 [.i a0.N, .ro (a0.Most.map (cL cI_i64))], .lv 5 [.i a1.I, .i a1.J, .i a1.Most, .i a1.Span.Low, .i a1.Span.High], .lv 2 [.i v4.1.N, .ro (v4.1.Most.map (cL cI_i64))], .lv 2 [.i v5.1.N, .ro (v5.1.Most.map (cL cI_i64))], .lv 2 [.i v6.1.N, .ro (v6.1.Most.map (cL cI_i64))], .lv 2 [.i v7.1.N, .ro (v7.1.Most.map (cL cI_i64))], .lv 2 [.i v8.1.N, .ro (v8.1.Most.map (cL cI_i64))], .lv 2 [.i v9.1.N, .ro (v9.1.Most.map (cL cI_i64))]]⟩ ?_
          replace h := Option.some.inj h; subst h
          show _ = _
          kernel_rfl
      · replace h := fork_f c12 h
        refine O_p 30 ?_
        refine O_nil ?_
        refine Gh_e ⟨⟨100, [(4, .bool false)]⟩, [.lv 2 [.i a0.N, .ro (a0.Most.map (cL cI_i64))], .lv 5 [.i a1.I, .i a1.J, .i a1.Most, .i a1.Span.Low, .i a1.Span.High], .lv 2 [.i v4.1.N, .ro (v4.1.Most.map (cL cI_i64))], .lv 2 [.i v5.1.N, .ro (v5.1.Most.map (cL cI_i64))], .lv 2 [.i v6.1.N, .ro (v6.1.Most.map (cL cI_i64))], .lv 2 [.i v7.1.N, .ro (v7.1.Most.map (cL cI_i64))], .lv 2 [.i v8.1.N, .ro (v8.1.Most.map (cL cI_i64))], .lv 2 [.i v9.1.N, .ro (v9.1.Most.map (cL cI_i64))]]⟩ ?_
        replace h := Option.some.inj h; subst h
        show _ = _
        kernel_rfl
    · refine W_ret ?_
      replace h := Option.some.inj h; subst h
      exact Fin_free (l := [.bool w10]) (by kernel_rfl) (by kernel_rfl) rfl
end G11
