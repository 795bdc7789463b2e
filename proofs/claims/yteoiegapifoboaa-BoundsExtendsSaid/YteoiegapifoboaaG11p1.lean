/- The code computes the models, printed by a program of mine (dec.py). No condition. -/
import Derived.Test.YteoiegapifoboaaG11p0
import Derived.Test.YteoiegapifoboaaG11x
import Derived.Test.YteoiegapifoboaaG11a
namespace G11
open Go Go.Pl Go.Am Go.Am.As
set_option linter.unusedVariables false
set_option linter.unusedSimpArgs false
set_option maxHeartbeats 1000000

theorem p22 (a0 : (List Int)) (a1 : (List Int)) (r : Bool) (h : m22 a0 a1 = some r) : Pt E0 hp 22 [.ro (a0.map cI_i64), .ro (a1.map cI_i64)] (.bool r) := by
  unfold m22 at h
  refine Pt_W (fn22) rfl (by decide) ?_
  refine W_seq ?_
  refine W_gh ?_
  refine W_reg ?_
  refine O_p 1 ?_
  refine O_nil ?_
  refine Gh_e ⟨⟨26, [(0, .ro (a0.map cI_i64)), (1, .ro (a1.map cI_i64))]⟩, []⟩ ?_
  refine W_seq ?_
  refine W_seq ?_
  refine W_gh ?_
  refine W_reg ?_
  refine O_p 1 ?_
  refine O_len (l := a0) cI_i64 (by kernel_rfl) (by kernel_rfl) ?_
  refine O_p 1 ?_
  refine O_len (l := a1) cI_i64 (by kernel_rfl) (by kernel_rfl) ?_
  refine O_p 1 ?_
  refine O_nil ?_
  refine Gh_e ⟨⟨26, [(0, .ro (a0.map cI_i64)), (1, .ro (a1.map cI_i64)), (10, .bool ((a0.length : Int) != (a1.length : Int)))]⟩, []⟩ ?_
  refine W_gh ?_
  refine W_cond (c := ((a0.length : Int) != (a1.length : Int))) (by kernel_rfl) (fun c1 => ?_) (fun c1 => ?_)
  · replace h := fork_t c1 h
    refine W_seq ?_
    refine W_reg ?_
    refine O_p 1 ?_
    refine O_nil ?_
    refine W_ret ?_
    replace h := Option.some.inj h; subst h
    exact Fin_free (l := [.bool false]) (by kernel_rfl) (by kernel_rfl) rfl
  · replace h := fork_f c1 h
    refine W_skip ?_
    refine Gh_e ⟨⟨26, [(0, .ro (a0.map cI_i64)), (1, .ro (a1.map cI_i64))]⟩, []⟩ ?_
    refine W_seq ?_
    refine W_seq ?_
    refine W_gh ?_
    refine W_reg ?_
    refine O_p 1 ?_
    refine O_len (l := a0) cI_i64 (by kernel_rfl) (by kernel_rfl) ?_
    refine O_p 1 ?_
    refine O_nil ?_
    refine Gh_e ⟨⟨26, [(0, .ro (a0.map cI_i64)), (1, .ro (a1.map cI_i64)), (12, .i (a0.length : Int)), (13, .i 0)]⟩, []⟩ ?_
    refine W_loop (fun s2 : Int => ⟨⟨26, [(0, .ro (a0.map cI_i64)), (1, .ro (a1.map cI_i64)), (12, .i (a0.length : Int)), (13, .i s2)]⟩, []⟩) (fun w3 : Unit => ⟨⟨26, []⟩, []⟩) h (by kernel_rfl) (fun s2 c h => ?_) (fun w3 h => ?_)
    · refine W_gh ?_
      refine W_seq ?_
      refine W_reg ?_
      refine O_p 1 ?_
      refine O_nil ?_
      refine W_seq ?_
      refine W_gh ?_
      refine W_cond (c := (decide (s2 < (a0.length : Int)))) (by kernel_rfl) (fun c4 => ?_) (fun c4 => ?_)
      · replace h := fork_t c4 h
        refine W_skip ?_
        refine Gh_e ⟨⟨26, [(0, .ro (a0.map cI_i64)), (1, .ro (a1.map cI_i64)), (12, .i (a0.length : Int)), (13, .i s2)]⟩, []⟩ ?_
        refine W_seq ?_
        refine W_gh ?_
        refine W_block ?_
        refine W_seq ?_
        refine W_gh ?_
        refine W_reg ?_
        refine O_p 2 ?_
        refine O_nil ?_
        refine Gh_e ⟨⟨26, [(0, .ro (a0.map cI_i64)), (1, .ro (a1.map cI_i64)), (5, .i s2), (12, .i (a0.length : Int)), (13, .i s2)]⟩, []⟩ ?_
        refine W_seq ?_
        refine W_gh ?_
        refine W_draw ?_
        refine O_p 2 ?_
        refine O_idx (kd := .i64) cI_i64 h (fun _ => rfl) (by kernel_rfl) (by kernel_rfl) (by kernel_rfl) (fun v5 e_v5 h => ?_)
        refine O_p 3 ?_
        refine O_idx (kd := .i64) cI_i64 h (fun _ => rfl) (by kernel_rfl) (by kernel_rfl) (by kernel_rfl) (fun v6 e_v6 h => ?_)
        refine O_p 2 ?_
        refine O_nil ?_
        refine Gh_e ⟨⟨26, [(0, .ro (a0.map cI_i64)), (1, .ro (a1.map cI_i64)), (12, .i (a0.length : Int)), (13, .i s2), (24, .bool (v5 != v6))]⟩, []⟩ ?_
        refine W_gh ?_
        refine W_cond (c := (v5 != v6)) (by kernel_rfl) (fun c7 => ?_) (fun c7 => ?_)
        · replace h := fork_t c7 h
          refine W_seq ?_
          refine W_reg ?_
          refine O_p 1 ?_
          refine O_nil ?_
          refine W_ret ?_
          replace h := Option.some.inj h; subst h
          refine ⟨_, rfl, fun h => ?_⟩
          replace h := Option.some.inj h; subst h
          exact Fin_free (l := [.bool false]) (by kernel_rfl) (by kernel_rfl) rfl
        · replace h := fork_f c7 h
          refine W_skip ?_
          refine Gh_e ⟨⟨26, [(0, .ro (a0.map cI_i64)), (1, .ro (a1.map cI_i64)), (12, .i (a0.length : Int)), (13, .i s2)]⟩, []⟩ ?_
          refine Gh_e ⟨⟨26, [(0, .ro (a0.map cI_i64)), (1, .ro (a1.map cI_i64)), (12, .i (a0.length : Int)), (13, .i s2)]⟩, []⟩ ?_
          refine W_gh ?_
          refine W_reg ?_
          refine O_p 2 ?_
          refine O_nil ?_
          refine Gh_e ⟨⟨26, [(0, .ro (a0.map cI_i64)), (1, .ro (a1.map cI_i64)), (12, .i (a0.length : Int)), (13, .i (addI .i64 s2 1))]⟩, []⟩ ?_
          refine Gh_e ⟨⟨26, [(0, .ro (a0.map cI_i64)), (1, .ro (a1.map cI_i64)), (12, .i (a0.length : Int)), (13, .i (addI .i64 s2 1))]⟩, []⟩ ?_
          replace h := Option.some.inj h; subst h
          exact ⟨_, rfl, by kernel_rfl⟩
      · replace h := fork_f c4 h
        refine W_exit ?_
        refine X_hit ?_
        refine Gh_e ⟨⟨26, []⟩, []⟩ ?_
        replace h := Option.some.inj h; subst h
        exact ⟨_, rfl, by kernel_rfl⟩
    · refine W_seq ?_
      refine W_reg ?_
      refine O_p 1 ?_
      refine O_nil ?_
      refine W_ret ?_
      replace h := Option.some.inj h; subst h
      exact Fin_free (l := [.bool true]) (by kernel_rfl) (by kernel_rfl) rfl

theorem p4 (a0 : SBounds) (a1 : Int) (r : Bool) (h : m4 a0 a1 = some r) : Pt E0 hp 4 [.agg (cSBounds a0), .i a1] (.bool r) := by
  unfold m4 at h
  refine Pt_W (fn4) rfl (by decide) ?_
  refine W_seq ?_
  refine W_gh ?_
  refine W_reg ?_
  refine O_p 2 ?_
  refine O_nil ?_
  refine Gh_e ⟨⟨69, [(1, .i a1), (2, .po 0 0)]⟩, [.lv 2 [.i a0.N, .ro (a0.Most.map (cL cI_i64))]]⟩ ?_
  refine W_seq ?_
  refine W_seq ?_
  refine W_gh ?_
  refine W_reg ?_
  refine O_p 1 ?_
  refine O_call (fun v => .bool v) h (.inr rfl) (ys := [.agg (cSBounds a0)]) (fun _ e => p12 _ _ e) (by kernel_rfl) (by kernel_rfl) (bels_cons (okSBounds.bel _) rfl) (fun v1 e_v1 h => ?_)
  refine O_p 1 ?_
  refine O_nil ?_
  refine Gh_e ⟨⟨69, [(1, .i a1), (2, .po 0 0), (17, .bool (!v1))]⟩, [.lv 2 [.i a0.N, .ro (a0.Most.map (cL cI_i64))]]⟩ ?_
  refine W_gh ?_
  refine W_cond (c := (!v1)) (by kernel_rfl) (fun c2 => ?_) (fun c2 => ?_)
  · replace h := fork_t c2 h
    refine W_seq ?_
    refine W_gh ?_
    refine W_reg ?_
    refine O_call (fun v => .bool v) h (.inr rfl) (ys := []) (fun _ e => p13  _ e) (by kernel_rfl) (by kernel_rfl) rfl (fun v3 e_v3 h => ?_)
    refine O_p 1 ?_
    refine O_nil ?_
    refine Gh_e ⟨⟨69, [(1, .i a1), (2, .po 0 0), (4, .bool v3), (17, .bool (!v1))]⟩, [.lv 2 [.i a0.N, .ro (a0.Most.map (cL cI_i64))]]⟩ ?_
    refine W_ret ?_
    replace h := Option.some.inj h; subst h
    exact Fin_free (l := [.bool v3]) (by kernel_rfl) (by kernel_rfl) rfl
  · replace h := fork_f c2 h
    refine W_skip ?_
    refine Gh_e ⟨⟨69, [(1, .i a1), (2, .po 0 0)]⟩, [.lv 2 [.i a0.N, .ro (a0.Most.map (cL cI_i64))]]⟩ ?_
    refine W_seq ?_
    refine W_gh ?_
    refine W_reg ?_
    refine O_p 2 ?_
    refine O_call (fun v => .tup [.i v.1, .i v.2.1, .i v.2.2]) h (.inr rfl) (ys := [.agg (cSBounds a0), .i a1]) (fun _ e => p18 _ _ _ e) (by kernel_rfl) (by kernel_rfl) (bels_cons (okSBounds.bel _) (bels_cons rfl rfl)) (fun v4 e_v4 h => ?_)
    refine O_p 7 ?_
    refine O_nil ?_
    refine Gh_e ⟨⟨69, [(1, .i a1), (2, .po 0 0), (5, .i v4.1), (6, .i v4.2.1), (7, .i v4.2.2)]⟩, [.lv 2 [.i a0.N, .ro (a0.Most.map (cL cI_i64))]]⟩ ?_
    refine W_seq ?_
    refine W_gh ?_
    refine W_reg ?_
    refine O_p 2 ?_
    refine O_call (fun v => .tup [.i v.1, .i v.2.1, .i v.2.2]) h (.inr rfl) (ys := [.agg (cSBounds a0), .i a1]) (fun _ e => p19 _ _ _ e) (by kernel_rfl) (by kernel_rfl) (bels_cons (okSBounds.bel _) (bels_cons rfl rfl)) (fun v5 e_v5 h => ?_)
    refine O_p 7 ?_
    refine O_nil ?_
    refine Gh_e ⟨⟨69, [(2, .po 0 0), (5, .i v4.1), (6, .i v4.2.1), (7, .i v4.2.2), (8, .i v5.1), (9, .i v5.2.1), (10, .i v5.2.2)]⟩, [.lv 2 [.i a0.N, .ro (a0.Most.map (cL cI_i64))]]⟩ ?_
    refine W_seq ?_
    refine W_gh ?_
    refine W_reg ?_
    refine O_p 1 ?_
    refine O_call (fun v => .tup [.ro (v.1.map cI_i64), .i v.2]) h (.inr rfl) (ys := [.agg (cSBounds a0)]) (fun _ e => p20 _ _ e) (by kernel_rfl) (by kernel_rfl) (bels_cons (okSBounds.bel _) rfl) (fun v6 e_v6 h => ?_)
    refine O_p 5 ?_
    refine O_nil ?_
    refine Gh_e ⟨⟨69, [(2, .po 0 0), (5, .i v4.1), (6, .i v4.2.1), (7, .i v4.2.2), (8, .i v5.1), (9, .i v5.2.1), (10, .i v5.2.2), (11, .ro (v6.1.map cI_i64)), (12, .i v6.2)]⟩, [.lv 2 [.i a0.N, .ro (a0.Most.map (cL cI_i64))]]⟩ ?_
    refine W_seq ?_
    refine W_gh ?_
    refine W_reg ?_
    refine O_p 1 ?_
    refine O_call (fun v => .tup [.ro (v.1.map cI_i64), .i v.2]) h (.inr rfl) (ys := [.agg (cSBounds a0)]) (fun _ e => p21 _ _ e) (by kernel_rfl) (by kernel_rfl) (bels_cons (okSBounds.bel _) rfl) (fun v7 e_v7 h => ?_)
    refine O_p 5 ?_
    refine O_nil ?_
    refine Gh_e ⟨⟨69, [(5, .i v4.1), (6, .i v4.2.1), (7, .i v4.2.2), (8, .i v5.1), (9, .i v5.2.1), (10, .i v5.2.2), (11, .ro (v6.1.map cI_i64)), (12, .i v6.2), (13, .ro (v7.1.map cI_i64)), (14, .i v7.2)]⟩, [.lv 2 [.i a0.N, .ro (a0.Most.map (cL cI_i64))]]⟩ ?_
    refine W_seq ?_
    refine W_joinS (fun v : Bool => ⟨⟨69, [(4, .bool v)]⟩, [.lv 2 [.i a0.N, .ro (a0.Most.map (cL cI_i64))]]⟩) h (fun w h => ?_) (fun w8 e_w8 h => ?_)
    · refine W_gh ?_
      refine W_reg ?_
      refine O_call (fun v => .bool v) h (.inr rfl) (ys := []) (fun _ e => p13  _ e) (by kernel_rfl) (by kernel_rfl) rfl (fun v9 e_v9 h => ?_)
      refine O_p 1 ?_
      refine O_fork (n := 44) v9 (by kernel_rfl) (fun c10 => ?_) (fun c10 => ?_)
      · replace h := fork_t c10 h
        refine O_p 5 ?_
        refine O_fork (n := 49) (v4.1 == v5.1) (by kernel_rfl) (fun c11 => ?_) (fun c11 => ?_)
        · replace h := fork_t c11 h
          refine O_p 5 ?_
          refine O_fork (n := 54) (v4.2.1 == v5.2.1) (by kernel_rfl) (fun c12 => ?_) (fun c12 => ?_)
          · replace h := fork_t c12 h
            refine O_p 5 ?_
            refine O_fork (n := 59) (v4.2.2 == v5.2.2) (by kernel_rfl) (fun c13 => ?_) (fun c13 => ?_)
            · replace h := fork_t c13 h
              refine O_p 2 ?_
              refine O_call (fun v => .bool v) h (.inr rfl) (ys := [.ro (v6.1.map cI_i64), .ro (v7.1.map cI_i64)]) (fun _ e => p22 _ _ _ e) (by kernel_rfl) (by kernel_rfl) (bels_cons (ro_bel okI_i64.bel _) (bels_cons (ro_bel okI_i64.bel _) rfl)) (fun v14 e_v14 h => ?_)
              refine O_p 2 ?_
              refine O_fork (n := 64) v14 (by kernel_rfl) (fun c15 => ?_) (fun c15 => ?_)
              · replace h := fork_t c15 h
                refine O_p 5 ?_
                refine O_nil ?_
                refine Gh_e ⟨⟨69, [(4, .bool (v6.2 == v7.2))]⟩, [.lv 2 [.i a0.N, .ro (a0.Most.map (cL cI_i64))]]⟩ ?_
                replace h := Option.some.inj h; subst h
                show _ = _
                kernel_rfl
              · replace h := fork_f c15 h
                refine O_p 5 ?_
                refine O_nil ?_
                refine Gh_e ⟨⟨69, [(4, .bool false)]⟩, [.lv 2 [.i a0.N, .ro (a0.Most.map (cL cI_i64))]]⟩ ?_
                replace h := Option.some.inj h; subst h
                show _ = _
                kernel_rfl
            · replace h := fork_f c13 h
              refine O_p 10 ?_
              refine O_nil ?_
              refine Gh_e ⟨⟨69, [(4, .bool false)]⟩, [.lv 2 [.i a0.N, .ro (a0.Most.map (cL cI_i64))]]⟩ ?_
              replace h := Option.some.inj h; subst h
              show _ = _
              kernel_rfl
          · replace h := fork_f c12 h
            refine O_p 15 ?_
            refine O_nil ?_
            refine Gh_e ⟨⟨69, [(4, .bool false)]⟩, [.lv 2 [.i a0.N, .ro (a0.Most.map (cL cI_i64))]]⟩ ?_
            replace h := Option.some.inj h; subst h
            show _ = _
            kernel_rfl
        · replace h := fork_f c11 h
          refine O_p 20 ?_
          refine O_nil ?_
          refine Gh_e ⟨⟨69, [(4, .bool false)]⟩, [.lv 2 [.i a0.N, .ro (a0.Most.map (cL cI_i64))]]⟩ ?_
          replace h := Option.some.inj h; subst h
          show _ = _
          kernel_rfl
      · replace h := fork_f c10 h
        refine O_p 25 ?_
        refine O_nil ?_
        refine Gh_e ⟨⟨69, [(4, .bool false)]⟩, [.lv 2 [.i a0.N, .ro (a0.Most.map (cL cI_i64))]]⟩ ?_
        replace h := Option.some.inj h; subst h
        show _ = _
        kernel_rfl
    · refine W_ret ?_
      replace h := Option.some.inj h; subst h
      exact Fin_free (l := [.bool w8]) (by kernel_rfl) (by kernel_rfl) rfl
end G11
