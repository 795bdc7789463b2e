/- The pieces of the function that schedule.slots yields with, by the machine. No condition. -/
import Derived.Test.YtiicggigpcfefaaG17z
namespace G17.B
open Go Go.Pl Go.Am Go.Am.As
set_option linter.unusedVariables false
set_option linter.unusedSimpArgs false
set_option maxHeartbeats 1000000
def E0 : Env := { fns := L17.fns, glob := (fun _ => []) }
theorem fn54 : E0.fns 54 = some L17.r54 := rfl
theorem fn55 : E0.fns 55 = some L17.r55 := rfl
theorem fn56 : E0.fns 56 = some L17.r56 := rfl
theorem fn57 : E0.fns 57 = some L17.r57 := rfl
theorem fn75 : E0.fns 75 = some L17.r75 := rfl
theorem fn76 : E0.fns 76 = some L17.r76 := rfl
theorem fn77 : E0.fns 77 = some L17.r77 := rfl
def sL : RC → RC
  | .seq a _ => a
  | c => c
def sR : RC → RC
  | .seq _ b => b
  | c => c
def gI : RC → RC
  | .gh _ c _ => c
  | c => c
def bI : RC → RC
  | .block _ c => c
  | .loop c => c
  | c => c
def opsI : RC → List ROp
  | .reg os => os
  | _ => []
def RB : RC := L17.r70.body
def R1 : RC := sL RB
def R2 : RC := sL (sR RB)
/-- the loop's round -/
def RL : RC := gI (bI (bI (gI (sR (sR RB)))))
def R3 : RC := sL RL
def R4 : RC := sL (sR RL)
def RI : RC := bI (gI (sL (sR (sR RL))))
def R11 : RC := sR (sR (sR RL))
def R5 : RC := sL RI
def R6 : RC := sL (sR RI)
def R7 : RC := sL (sR (sR RI))
def R89 : RC := sL (sR (sR (sR RI)))
def R10 : RC := sR (sR (sR (sR RI)))
def O8 : List ROp := opsI (gI (sL R89))
def R9 : RC := sR R89
def RG : RC := .gh [] .skip [.trunc 1]

theorem p55 (a0 : SPlant) (a1 : SStroke) (r : SSpan) (h : m55 a0 a1 = some r) : Pt E0 hp 55 [.agg (cSPlant a0), .agg (cSStroke a1)] (.agg [.i r.Low, .i r.High]) := by
  unfold m55 at h
  refine Pt_W (fn55) rfl (by decide) ?_
  refine W_seq ?_
  refine W_gh ?_
  refine W_reg ?_
  refine O_p 3 ?_
  refine O_nil ?_
  refine Gh_e ⟨⟨22, [(2, .po 0 0), (3, .po 1 0), (4, .po 2 0)]⟩, [.lv 1 [.ro (a0.Travels.map cSTravel)], .lv 2 [.i a1.Actuator, .bool a1.Out], .lv 2 [.i 0, .i 0]]⟩ ?_
  refine W_seq ?_
  refine W_reg ?_
  refine O_p 1 ?_
  refine O_nil ?_
  refine W_seq ?_
  refine W_seq ?_
  refine W_gh ?_
  refine W_reg ?_
  refine O_p 2 ?_
  refine O_nil ?_
  refine Gh_e ⟨⟨22, [(2, .po 0 0), (3, .po 1 0), (4, .po 2 0), (5, .i 0), (8, .bool a1.Out)]⟩, [.lv 1 [.ro (a0.Travels.map cSTravel)], .lv 2 [.i a1.Actuator, .bool a1.Out], .lv 2 [.i 0, .i 0]]⟩ ?_
  refine W_cut ⟨⟨22, [(2, .po 0 0), (3, .po 1 0), (4, .po 2 0), (5, .i (bif a1.Out then 1 else 0))]⟩, [.lv 1 [.ro (a0.Travels.map cSTravel)], .lv 2 [.i a1.Actuator, .bool a1.Out], .lv 2 [.i 0, .i 0]]⟩ ?_ ?_
  · generalize e_g1 : ((bif a1.Out then 1 else 0) : Int) = g1
    refine W_gh ?_
    refine W_cond (c := a1.Out) (by kernel_rfl) (fun c2 => ?_) (fun c2 => ?_)
    · skip
      refine W_reg ?_
      refine O_p 1 ?_
      refine O_nil ?_
      refine Gh_e ⟨⟨22, [(2, .po 0 0), (3, .po 1 0), (4, .po 2 0), (5, .i 1)]⟩, [.lv 1 [.ro (a0.Travels.map cSTravel)], .lv 2 [.i a1.Actuator, .bool a1.Out], .lv 2 [.i 0, .i 0]]⟩ ?_
      have q := e_g1; simp only [c2, cond_true, cond_false, Bool.true_and, Bool.false_and, Bool.true_or, Bool.false_or] at q; subst q
      show _ = _
      kernel_rfl
    · skip
      refine W_skip ?_
      refine Gh_e ⟨⟨22, [(2, .po 0 0), (3, .po 1 0), (4, .po 2 0), (5, .i 0)]⟩, [.lv 1 [.ro (a0.Travels.map cSTravel)], .lv 2 [.i a1.Actuator, .bool a1.Out], .lv 2 [.i 0, .i 0]]⟩ ?_
      have q := e_g1; simp only [c2, cond_true, cond_false, Bool.true_and, Bool.false_and, Bool.true_or, Bool.false_or] at q; subst q
      show _ = _
      kernel_rfl
  · refine W_seq ?_
    refine W_gh ?_
    refine W_reg ?_
    refine O_p 4 ?_
    refine O_idx (kd := .i64) cSTravel h (fun _ => rfl) (by kernel_rfl) (by kernel_rfl) (by kernel_rfl) (fun v3 e_v3 h => ?_)
    refine O_p 3 ?_
    refine O_nil ?_
    refine Gh_e ⟨⟨22, [(4, .po 2 0), (5, .i (bif a1.Out then 1 else 0)), (6, .po 3 0)]⟩, [.lv 1 [.ro (a0.Travels.map cSTravel)], .lv 2 [.i a1.Actuator, .bool a1.Out], .lv 2 [.i 0, .i 0], .lv 4 [.i v3.Out.Low, .i v3.Out.High, .i v3.In.Low, .i v3.In.High]]⟩ ?_
    refine W_seq ?_
    refine W_gh ?_
    refine W_reg ?_
    refine O_p 6 ?_
    refine O_idxL (kd := .i64) (l := [(v3.In.Low, v3.In.High), (v3.Out.Low, v3.Out.High)]) (cP2 cI_i64) h (fun _ => rfl) rfl (by kernel_rfl) (by kernel_rfl) (by kernel_rfl) (fun v4 e_v4 h => ?_)
    refine O_p 1 ?_
    refine O_nil ?_
    refine Gh_e ⟨⟨22, [(4, .po 2 0)]⟩, [.lv 1 [.ro (a0.Travels.map cSTravel)], .lv 2 [.i a1.Actuator, .bool a1.Out], .lv 2 [.i v4.1, .i v4.2], .lv 4 [.i v3.Out.Low, .i v3.Out.High, .i v3.In.Low, .i v3.In.High]]⟩ ?_
    refine W_ret ?_
    replace h := Option.some.inj h; subst h
    exact Fin_free (l := [.agg [.i v4.1, .i v4.2]]) (by kernel_rfl) (by kernel_rfl) rfl

theorem p76 (a0 : SStroke) (a1 : (List STravel)) (r : Int) (h : m76 a0 a1 = some r) : Pt E0 hp 76 [.agg (cSStroke a0), .pro [.ro (a1.map cSTravel)]] (.i r) := by
  unfold m76 at h
  refine Pt_W (fn76) rfl (by decide) ?_
  refine W_seq ?_
  refine W_gh ?_
  refine W_reg ?_
  refine O_p 2 ?_
  refine O_nil ?_
  refine Gh_e ⟨⟨8, [(1, .pro [.ro (a1.map cSTravel)]), (2, .po 0 0)]⟩, [.lv 2 [.i a0.Actuator, .bool a0.Out]]⟩ ?_
  refine W_seq ?_
  refine W_gh ?_
  refine W_reg ?_
  refine O_p 2 ?_
  refine O_call (fun v => .agg [.i v.Low, .i v.High]) h (.inr rfl) (ys := [.agg (cSPlant (⟨a1⟩ : SPlant)), .agg (cSStroke a0)]) (fun _ e => p55 _ _ _ e) (by kernel_rfl) (by kernel_rfl) (bels_cons (okSPlant.bel _) (bels_cons (okSStroke.bel _) rfl)) (fun v1 e_v1 h => ?_)
  refine O_p 2 ?_
  refine O_nil ?_
  refine Gh_e ⟨⟨8, [(3, .i v1.Low)]⟩, [.lv 2 [.i a0.Actuator, .bool a0.Out]]⟩ ?_
  refine W_ret ?_
  replace h := Option.some.inj h; subst h
  exact Fin_free (l := [.i v1.Low]) (by kernel_rfl) (by kernel_rfl) rfl

theorem p75_76 (a0 : (List SStroke)) (a1 : (List STravel)) (r : Int) (h : m75_76 a0 a1 = some r) : Pt E0 hp 75 [.ro (a0.map cSStroke), .fn 76 [.pro [.ro (a1.map cSTravel)]]] (.i r) := by
  unfold m75_76 at h
  refine Pt_W (fn75) rfl (by decide) ?_
  refine W_seq ?_
  refine W_gh ?_
  refine W_reg ?_
  refine O_p 1 ?_
  refine O_nil ?_
  refine Gh_e ⟨⟨21, [(0, .ro (a0.map cSStroke)), (1, .fn 76 [.pro [.ro (a1.map cSTravel)]])]⟩, []⟩ ?_
  refine W_seq ?_
  refine W_reg ?_
  refine O_p 1 ?_
  refine O_nil ?_
  refine W_seq ?_
  refine W_seq ?_
  refine W_gh ?_
  refine W_reg ?_
  refine O_p 1 ?_
  refine O_len (l := a0) cSStroke (by kernel_rfl) (by kernel_rfl) ?_
  refine O_p 1 ?_
  refine O_nil ?_
  refine Gh_e ⟨⟨21, [(1, .fn 76 [.pro [.ro (a1.map cSTravel)]]), (5, .i 0), (8, .ro (a0.map cSStroke)), (9, .i (a0.length : Int)), (10, .i 0)]⟩, []⟩ ?_
  refine W_loopS (fun s1 : Int × Int => ⟨⟨21, [(1, .fn 76 [.pro [.ro (a1.map cSTravel)]]), (5, .i s1.2), (8, .ro (a0.map cSStroke)), (9, .i (a0.length : Int)), (10, .i s1.1)]⟩, []⟩) (fun w2 : Int => ⟨⟨21, [(5, .i w2)]⟩, []⟩) h (by kernel_rfl) (fun s1 c h => ?_) (fun w2 e_w2 h => ?_)
  · refine W_gh ?_
    refine W_seq ?_
    refine W_reg ?_
    refine O_p 1 ?_
    refine O_nil ?_
    refine W_seq ?_
    refine W_gh ?_
    refine W_cond (c := (decide (s1.1 < (a0.length : Int)))) (by kernel_rfl) (fun c3 => ?_) (fun c3 => ?_)
    · replace h := fork_t c3 h
      refine W_skip ?_
      refine Gh_e ⟨⟨21, [(1, .fn 76 [.pro [.ro (a1.map cSTravel)]]), (5, .i s1.2), (8, .ro (a0.map cSStroke)), (9, .i (a0.length : Int)), (10, .i s1.1)]⟩, []⟩ ?_
      refine W_seq ?_
      refine W_gh ?_
      refine W_block ?_
      refine W_seq ?_
      refine W_gh ?_
      refine W_reg ?_
      refine O_idx (kd := .i64) cSStroke h (fun _ => rfl) (by kernel_rfl) (by kernel_rfl) (by kernel_rfl) (fun v4 e_v4 h => ?_)
      refine O_p 3 ?_
      refine O_nil ?_
      refine Gh_e ⟨⟨21, [(1, .fn 76 [.pro [.ro (a1.map cSTravel)]]), (5, .i s1.2), (7, .po 0 0), (8, .ro (a0.map cSStroke)), (9, .i (a0.length : Int)), (10, .i s1.1)]⟩, [.lv 2 [.i v4.Actuator, .bool v4.Out]]⟩ ?_
      refine W_gh ?_
      refine W_reg ?_
      refine O_p 3 ?_
      refine O_callv (f := 76) (cap := [.pro [.ro (a1.map cSTravel)]]) (fun v => .i v) h (.inr rfl) (by kernel_rfl) (ys := [.agg (cSStroke v4), .pro [.ro (a1.map cSTravel)]]) (fun _ e => p76 _ _ _ e) (by kernel_rfl) (by kernel_rfl) (bels_cons (okSStroke.bel _) (bels_cons (bels_cons (ro_bel okSTravel.bel _) rfl) rfl)) (fun v5 e_v5 h => ?_)
      refine O_p 2 ?_
      refine O_nil ?_
      refine Gh_one (s1 := ⟨⟨21, [(1, .fn 76 [.pro [.ro (a1.map cSTravel)]]), (5, .i (maxI s1.2 v5)), (8, .ro (a0.map cSStroke)), (9, .i (a0.length : Int)), (10, .i s1.1)]⟩, [.lv 2 [.i v4.Actuator, .bool v4.Out]]⟩) (by kernel_rfl) ?_
      refine Gh_trunc0 (by kernel_rfl) ?_
      refine Gh_nil ?_
      refine Gh_one (s1 := ⟨⟨21, [(1, .fn 76 [.pro [.ro (a1.map cSTravel)]]), (5, .i (maxI s1.2 v5)), (8, .ro (a0.map cSStroke)), (9, .i (a0.length : Int)), (10, .i s1.1)]⟩, [.lv 2 [.i v4.Actuator, .bool v4.Out]]⟩) (by kernel_rfl) ?_
      refine Gh_at (s1 := ⟨⟨21, [(1, .fn 76 [.pro [.ro (a1.map cSTravel)]]), (5, .i (maxI s1.2 v5)), (8, .ro (a0.map cSStroke)), (9, .i (a0.length : Int)), (10, .i s1.1)]⟩, [.lv 2 [.i v4.Actuator, .bool v4.Out]]⟩) (by kernel_rfl) ?_
      refine Gh_trunc (s1 := ⟨⟨21, [(1, .fn 76 [.pro [.ro (a1.map cSTravel)]]), (5, .i (maxI s1.2 v5)), (8, .ro (a0.map cSStroke)), (9, .i (a0.length : Int)), (10, .i s1.1)]⟩, []⟩) (by kernel_rfl) (tb_free (bels_cons (bels_cons (ro_bel okSTravel.bel _) rfl) rfl) (tb_free rfl (tb_free (ro_bel okSStroke.bel _) (tb_free rfl (tb_free rfl rfl))))) (H1 := []) (by kernel_rfl) rfl (by kernel_rfl) ?_
      refine Gh_nil ?_
      refine W_gh ?_
      refine W_reg ?_
      refine O_p 2 ?_
      refine O_nil ?_
      refine Gh_e ⟨⟨21, [(1, .fn 76 [.pro [.ro (a1.map cSTravel)]]), (5, .i (maxI s1.2 v5)), (8, .ro (a0.map cSStroke)), (9, .i (a0.length : Int)), (10, .i (addI .i64 s1.1 1))]⟩, []⟩ ?_
      refine Gh_one (s1 := ⟨⟨21, [(1, .fn 76 [.pro [.ro (a1.map cSTravel)]]), (5, .i (maxI s1.2 v5)), (8, .ro (a0.map cSStroke)), (9, .i (a0.length : Int)), (10, .i (addI .i64 s1.1 1))]⟩, []⟩) (by kernel_rfl) ?_
      refine Gh_trunc0 (by kernel_rfl) ?_
      refine Gh_nil ?_
      replace h := Option.some.inj h; subst h
      exact ⟨_, rfl, by kernel_rfl⟩
    · replace h := fork_f c3 h
      refine W_exit ?_
      refine X_hit ?_
      refine Gh_one (s1 := ⟨⟨21, [(5, .i s1.2)]⟩, []⟩) (by kernel_rfl) ?_
      refine Gh_trunc0 (by kernel_rfl) ?_
      refine Gh_nil ?_
      replace h := Option.some.inj h; subst h
      exact ⟨_, rfl, by kernel_rfl⟩
  · refine W_seq ?_
    refine W_gh ?_
    refine W_reg ?_
    refine O_p 2 ?_
    refine O_nil ?_
    refine Gh_e ⟨⟨21, [(4, .i w2)]⟩, []⟩ ?_
    refine W_ret ?_
    replace h := Option.some.inj h; subst h
    exact Fin_free (l := [.i w2]) (by kernel_rfl) (by kernel_rfl) rfl

theorem p77 (a0 : SStroke) (a1 : (List STravel)) (r : Int) (h : m77 a0 a1 = some r) : Pt E0 hp 77 [.agg (cSStroke a0), .pro [.ro (a1.map cSTravel)]] (.i r) := by
  unfold m77 at h
  refine Pt_W (fn77) rfl (by decide) ?_
  refine W_seq ?_
  refine W_gh ?_
  refine W_reg ?_
  refine O_p 2 ?_
  refine O_nil ?_
  refine Gh_e ⟨⟨8, [(1, .pro [.ro (a1.map cSTravel)]), (2, .po 0 0)]⟩, [.lv 2 [.i a0.Actuator, .bool a0.Out]]⟩ ?_
  refine W_seq ?_
  refine W_gh ?_
  refine W_reg ?_
  refine O_p 2 ?_
  refine O_call (fun v => .agg [.i v.Low, .i v.High]) h (.inr rfl) (ys := [.agg (cSPlant (⟨a1⟩ : SPlant)), .agg (cSStroke a0)]) (fun _ e => p55 _ _ _ e) (by kernel_rfl) (by kernel_rfl) (bels_cons (okSPlant.bel _) (bels_cons (okSStroke.bel _) rfl)) (fun v1 e_v1 h => ?_)
  refine O_p 2 ?_
  refine O_nil ?_
  refine Gh_e ⟨⟨8, [(3, .i v1.High)]⟩, [.lv 2 [.i a0.Actuator, .bool a0.Out]]⟩ ?_
  refine W_ret ?_
  replace h := Option.some.inj h; subst h
  exact Fin_free (l := [.i v1.High]) (by kernel_rfl) (by kernel_rfl) rfl

theorem p75_77 (a0 : (List SStroke)) (a1 : (List STravel)) (r : Int) (h : m75_77 a0 a1 = some r) : Pt E0 hp 75 [.ro (a0.map cSStroke), .fn 77 [.pro [.ro (a1.map cSTravel)]]] (.i r) := by
  unfold m75_77 at h
  refine Pt_W (fn75) rfl (by decide) ?_
  refine W_seq ?_
  refine W_gh ?_
  refine W_reg ?_
  refine O_p 1 ?_
  refine O_nil ?_
  refine Gh_e ⟨⟨21, [(0, .ro (a0.map cSStroke)), (1, .fn 77 [.pro [.ro (a1.map cSTravel)]])]⟩, []⟩ ?_
  refine W_seq ?_
  refine W_reg ?_
  refine O_p 1 ?_
  refine O_nil ?_
  refine W_seq ?_
  refine W_seq ?_
  refine W_gh ?_
  refine W_reg ?_
  refine O_p 1 ?_
  refine O_len (l := a0) cSStroke (by kernel_rfl) (by kernel_rfl) ?_
  refine O_p 1 ?_
  refine O_nil ?_
  refine Gh_e ⟨⟨21, [(1, .fn 77 [.pro [.ro (a1.map cSTravel)]]), (5, .i 0), (8, .ro (a0.map cSStroke)), (9, .i (a0.length : Int)), (10, .i 0)]⟩, []⟩ ?_
  refine W_loopS (fun s1 : Int × Int => ⟨⟨21, [(1, .fn 77 [.pro [.ro (a1.map cSTravel)]]), (5, .i s1.2), (8, .ro (a0.map cSStroke)), (9, .i (a0.length : Int)), (10, .i s1.1)]⟩, []⟩) (fun w2 : Int => ⟨⟨21, [(5, .i w2)]⟩, []⟩) h (by kernel_rfl) (fun s1 c h => ?_) (fun w2 e_w2 h => ?_)
  · refine W_gh ?_
    refine W_seq ?_
    refine W_reg ?_
    refine O_p 1 ?_
    refine O_nil ?_
    refine W_seq ?_
    refine W_gh ?_
    refine W_cond (c := (decide (s1.1 < (a0.length : Int)))) (by kernel_rfl) (fun c3 => ?_) (fun c3 => ?_)
    · replace h := fork_t c3 h
      refine W_skip ?_
      refine Gh_e ⟨⟨21, [(1, .fn 77 [.pro [.ro (a1.map cSTravel)]]), (5, .i s1.2), (8, .ro (a0.map cSStroke)), (9, .i (a0.length : Int)), (10, .i s1.1)]⟩, []⟩ ?_
      refine W_seq ?_
      refine W_gh ?_
      refine W_block ?_
      refine W_seq ?_
      refine W_gh ?_
      refine W_reg ?_
      refine O_idx (kd := .i64) cSStroke h (fun _ => rfl) (by kernel_rfl) (by kernel_rfl) (by kernel_rfl) (fun v4 e_v4 h => ?_)
      refine O_p 3 ?_
      refine O_nil ?_
      refine Gh_e ⟨⟨21, [(1, .fn 77 [.pro [.ro (a1.map cSTravel)]]), (5, .i s1.2), (7, .po 0 0), (8, .ro (a0.map cSStroke)), (9, .i (a0.length : Int)), (10, .i s1.1)]⟩, [.lv 2 [.i v4.Actuator, .bool v4.Out]]⟩ ?_
      refine W_gh ?_
      refine W_reg ?_
      refine O_p 3 ?_
      refine O_callv (f := 77) (cap := [.pro [.ro (a1.map cSTravel)]]) (fun v => .i v) h (.inr rfl) (by kernel_rfl) (ys := [.agg (cSStroke v4), .pro [.ro (a1.map cSTravel)]]) (fun _ e => p77 _ _ _ e) (by kernel_rfl) (by kernel_rfl) (bels_cons (okSStroke.bel _) (bels_cons (bels_cons (ro_bel okSTravel.bel _) rfl) rfl)) (fun v5 e_v5 h => ?_)
      refine O_p 2 ?_
      refine O_nil ?_
      refine Gh_one (s1 := ⟨⟨21, [(1, .fn 77 [.pro [.ro (a1.map cSTravel)]]), (5, .i (maxI s1.2 v5)), (8, .ro (a0.map cSStroke)), (9, .i (a0.length : Int)), (10, .i s1.1)]⟩, [.lv 2 [.i v4.Actuator, .bool v4.Out]]⟩) (by kernel_rfl) ?_
      refine Gh_trunc0 (by kernel_rfl) ?_
      refine Gh_nil ?_
      refine Gh_one (s1 := ⟨⟨21, [(1, .fn 77 [.pro [.ro (a1.map cSTravel)]]), (5, .i (maxI s1.2 v5)), (8, .ro (a0.map cSStroke)), (9, .i (a0.length : Int)), (10, .i s1.1)]⟩, [.lv 2 [.i v4.Actuator, .bool v4.Out]]⟩) (by kernel_rfl) ?_
      refine Gh_at (s1 := ⟨⟨21, [(1, .fn 77 [.pro [.ro (a1.map cSTravel)]]), (5, .i (maxI s1.2 v5)), (8, .ro (a0.map cSStroke)), (9, .i (a0.length : Int)), (10, .i s1.1)]⟩, [.lv 2 [.i v4.Actuator, .bool v4.Out]]⟩) (by kernel_rfl) ?_
      refine Gh_trunc (s1 := ⟨⟨21, [(1, .fn 77 [.pro [.ro (a1.map cSTravel)]]), (5, .i (maxI s1.2 v5)), (8, .ro (a0.map cSStroke)), (9, .i (a0.length : Int)), (10, .i s1.1)]⟩, []⟩) (by kernel_rfl) (tb_free (bels_cons (bels_cons (ro_bel okSTravel.bel _) rfl) rfl) (tb_free rfl (tb_free (ro_bel okSStroke.bel _) (tb_free rfl (tb_free rfl rfl))))) (H1 := []) (by kernel_rfl) rfl (by kernel_rfl) ?_
      refine Gh_nil ?_
      refine W_gh ?_
      refine W_reg ?_
      refine O_p 2 ?_
      refine O_nil ?_
      refine Gh_e ⟨⟨21, [(1, .fn 77 [.pro [.ro (a1.map cSTravel)]]), (5, .i (maxI s1.2 v5)), (8, .ro (a0.map cSStroke)), (9, .i (a0.length : Int)), (10, .i (addI .i64 s1.1 1))]⟩, []⟩ ?_
      refine Gh_one (s1 := ⟨⟨21, [(1, .fn 77 [.pro [.ro (a1.map cSTravel)]]), (5, .i (maxI s1.2 v5)), (8, .ro (a0.map cSStroke)), (9, .i (a0.length : Int)), (10, .i (addI .i64 s1.1 1))]⟩, []⟩) (by kernel_rfl) ?_
      refine Gh_trunc0 (by kernel_rfl) ?_
      refine Gh_nil ?_
      replace h := Option.some.inj h; subst h
      exact ⟨_, rfl, by kernel_rfl⟩
    · replace h := fork_f c3 h
      refine W_exit ?_
      refine X_hit ?_
      refine Gh_one (s1 := ⟨⟨21, [(5, .i s1.2)]⟩, []⟩) (by kernel_rfl) ?_
      refine Gh_trunc0 (by kernel_rfl) ?_
      refine Gh_nil ?_
      replace h := Option.some.inj h; subst h
      exact ⟨_, rfl, by kernel_rfl⟩
  · refine W_seq ?_
    refine W_gh ?_
    refine W_reg ?_
    refine O_p 2 ?_
    refine O_nil ?_
    refine Gh_e ⟨⟨21, [(4, .i w2)]⟩, []⟩ ?_
    refine W_ret ?_
    replace h := Option.some.inj h; subst h
    exact Fin_free (l := [.i w2]) (by kernel_rfl) (by kernel_rfl) rfl

theorem p57 (a0 : SPlant) (a1 : SStep) (r : SSpan) (h : m57 a0 a1 = some r) : Pt E0 hp 57 [.agg (cSPlant a0), .agg (cSStep a1)] (.agg [.i r.Low, .i r.High]) := by
  unfold m57 at h
  refine Pt_W (fn57) rfl (by decide) ?_
  refine W_seq ?_
  refine W_gh ?_
  refine W_reg ?_
  refine O_p 3 ?_
  refine O_nil ?_
  refine Gh_e ⟨⟨14, [(2, .po 0 0), (3, .po 1 0), (4, .po 2 0)]⟩, [.lv 1 [.ro (a0.Travels.map cSTravel)], .lv 2 [.ro (a1.Strokes.map cSStroke), .i a1.Wait], .lv 2 [.i 0, .i 0]]⟩ ?_
  refine W_seq ?_
  refine W_gh ?_
  refine W_draw ?_
  refine O_p 3 ?_
  refine O_lent (fun v => .i v) h (.inr rfl) (ys := [.ro (a1.Strokes.map cSStroke), .fn 76 [.pro [.ro (a0.Travels.map cSTravel)]]]) (fun _ e => p75_76 _ _ _ e) (by kernel_rfl) (snaps_of (xs := [.ro (a1.Strokes.map cSStroke), .fn 76 [.po 0 0]]) (by kernel_rfl) (mapO_cons (pk_free (ro_bel okSStroke.bel _)) (mapO_cons (pk_fn (d := 5) (mapO_cons (pkc_box (id := 0) (nl := .norm) (sz := 1) (cs := [.ro (a0.Travels.map cSTravel)]) (by kernel_rfl) (mapO_bels (bels_cons (ro_bel okSTravel.bel _) rfl))) rfl)) rfl))) (fun _ => rfl) (fun v1 e_v1 h => ?_)
  refine O_p 3 ?_
  refine O_lent (fun v => .i v) h (.inr rfl) (ys := [.ro (a1.Strokes.map cSStroke), .fn 77 [.pro [.ro (a0.Travels.map cSTravel)]]]) (fun _ e => p75_77 _ _ _ e) (by kernel_rfl) (snaps_of (xs := [.ro (a1.Strokes.map cSStroke), .fn 77 [.po 0 0]]) (by kernel_rfl) (mapO_cons (pk_free (ro_bel okSStroke.bel _)) (mapO_cons (pk_fn (d := 5) (mapO_cons (pkc_box (id := 0) (nl := .norm) (sz := 1) (cs := [.ro (a0.Travels.map cSTravel)]) (by kernel_rfl) (mapO_bels (bels_cons (ro_bel okSTravel.bel _) rfl))) rfl)) rfl))) (fun _ => rfl) (fun v2 e_v2 h => ?_)
  refine O_p 2 ?_
  refine O_nil ?_
  refine Gh_e ⟨⟨14, [(4, .po 2 0)]⟩, [.lv 1 [.ro (a0.Travels.map cSTravel)], .lv 2 [.ro (a1.Strokes.map cSStroke), .i a1.Wait], .lv 2 [.i v1, .i v2]]⟩ ?_
  refine W_ret ?_
  replace h := Option.some.inj h; subst h
  exact Fin_free (l := [.agg [.i v1, .i v2]]) (by kernel_rfl) (by kernel_rfl) rfl

theorem p54 (a0 : SSpan) (a1 : SSpan) (r : SSpan) (h : m54 a0 a1 = some r) : Pt E0 hp 54 [.agg (cSSpan a0), .agg (cSSpan a1)] (.agg [.i r.Low, .i r.High]) := by
  unfold m54 at h
  refine Pt_W (fn54) rfl (by decide) ?_
  refine W_seq ?_
  refine W_gh ?_
  refine W_reg ?_
  refine O_p 3 ?_
  refine O_nil ?_
  refine Gh_e ⟨⟨16, [(2, .po 0 0), (3, .po 1 0), (4, .po 2 0)]⟩, [.lv 2 [.i a0.Low, .i a0.High], .lv 2 [.i a1.Low, .i a1.High], .lv 2 [.i 0, .i 0]]⟩ ?_
  refine W_seq ?_
  refine W_gh ?_
  refine W_reg ?_
  refine O_p 12 ?_
  refine O_nil ?_
  refine Gh_e ⟨⟨16, [(4, .po 2 0)]⟩, [.lv 2 [.i a0.Low, .i a0.High], .lv 2 [.i a1.Low, .i a1.High], .lv 2 [.i (addI .i64 a0.Low a1.Low), .i (addI .i64 a0.High a1.High)]]⟩ ?_
  refine W_ret ?_
  replace h := Option.some.inj h; subst h
  exact Fin_free (l := [.agg [.i (addI .i64 a0.Low a1.Low), .i (addI .i64 a0.High a1.High)]]) (by kernel_rfl) (by kernel_rfl) rfl

theorem p56 (a0 : SSpan) (a1 : Int) (r : SSpan) (h : m56 a0 a1 = some r) : Pt E0 hp 56 [.agg (cSSpan a0), .i a1] (.agg [.i r.Low, .i r.High]) := by
  unfold m56 at h
  refine Pt_W (fn56) rfl (by decide) ?_
  refine W_seq ?_
  refine W_gh ?_
  refine W_reg ?_
  refine O_p 2 ?_
  refine O_nil ?_
  refine Gh_e ⟨⟨10, [(1, .i a1), (2, .po 0 0), (4, .po 1 0)]⟩, [.lv 2 [.i a0.Low, .i a0.High], .lv 2 [.i 0, .i 0]]⟩ ?_
  refine W_seq ?_
  refine W_gh ?_
  refine W_reg ?_
  refine O_p 4 ?_
  refine O_call (fun v => .agg [.i v.Low, .i v.High]) h (.inr rfl) (ys := [.agg (cSSpan a0), .agg (cSSpan (⟨a1, a1⟩ : SSpan))]) (fun _ e => p54 _ _ _ e) (by kernel_rfl) (by kernel_rfl) (bels_cons (okSSpan.bel _) (bels_cons (okSSpan.bel _) rfl)) (fun v1 e_v1 h => ?_)
  refine O_p 1 ?_
  refine O_nil ?_
  refine Gh_e ⟨⟨10, [(4, .po 1 0)]⟩, [.lv 2 [.i a0.Low, .i a0.High], .lv 2 [.i v1.Low, .i v1.High]]⟩ ?_
  refine W_ret ?_
  replace h := Option.some.inj h; subst h
  exact Fin_free (l := [.agg [.i v1.Low, .i v1.High]]) (by kernel_rfl) (by kernel_rfl) rfl

theorem w1 (lid : Nat) (n : Int) (l : List SStep) (p : List STravel) : W E0 hp R1 0 (fun s => s = ⟨⟨36, [(0, .yld lid), (1, .pro [.i n, .ro (l.map cSStep)]), (2, .pro [.ro (p.map cSTravel)]), (4, .po 0 0)]⟩, [.lv 2 [.i 0, .i 0]]⟩) (fun _ _ => False) (fun _ => False) ⟨⟨36, [(0, .yld lid), (1, .pro [.i n, .ro (l.map cSStep)]), (2, .pro [.ro (p.map cSTravel)])]⟩, []⟩ := by
  refine W_reg ?_
  refine O_p 1 ?_
  refine O_nil ?_
  show _ = _
  kernel_rfl

theorem w2 (lid : Nat) (n : Int) (l : List SStep) (p : List STravel) : W E0 hp R2 0 (fun s => s = ⟨⟨36, [(0, .yld lid), (2, .pro [.ro (p.map cSTravel)]), (4, .po 0 0), (10, .ro (l.map cSStep)), (11, .i (l.length : Int)), (12, .i 0)]⟩, [.lv 2 [.i 0, .i 0]]⟩) (fun _ _ => False) (fun _ => False) ⟨⟨36, [(0, .yld lid), (1, .pro [.i n, .ro (l.map cSStep)]), (2, .pro [.ro (p.map cSTravel)]), (4, .po 0 0)]⟩, [.lv 2 [.i 0, .i 0]]⟩ := by
  refine W_gh ?_
  refine W_reg ?_
  refine O_p 2 ?_
  refine O_len (l := l) cSStep (by kernel_rfl) (by kernel_rfl) ?_
  refine O_p 1 ?_
  refine O_nil ?_
  refine Gh_e ⟨⟨36, [(0, .yld lid), (2, .pro [.ro (p.map cSTravel)]), (4, .po 0 0), (10, .ro (l.map cSStep)), (11, .i (l.length : Int)), (12, .i 0)]⟩, [.lv 2 [.i 0, .i 0]]⟩ ?_
  show _ = _
  kernel_rfl

theorem w3 (lid : Nat) (l : List SStep) (p : List STravel) (now : SSpan) (k : Int) : W E0 hp R3 0 (fun s => s = ⟨⟨36, [(0, .yld lid), (2, .pro [.ro (p.map cSTravel)]), (4, .po 0 0), (10, .ro (l.map cSStep)), (11, .i (l.length : Int)), (12, .i k), (13, .bool (decide (k < (l.length : Int))))]⟩, [.lv 2 [.i now.Low, .i now.High]]⟩) (fun _ _ => False) (fun _ => False) ⟨⟨36, [(0, .yld lid), (2, .pro [.ro (p.map cSTravel)]), (4, .po 0 0), (10, .ro (l.map cSStep)), (11, .i (l.length : Int)), (12, .i k)]⟩, [.lv 2 [.i now.Low, .i now.High]]⟩ := by
  refine W_reg ?_
  refine O_p 1 ?_
  refine O_nil ?_
  show _ = _
  kernel_rfl

theorem w4t (lid : Nat) (l : List SStep) (p : List STravel) (now : SSpan) (k : Int) : W E0 hp R4 0 (fun s => s = ⟨⟨36, [(0, .yld lid), (2, .pro [.ro (p.map cSTravel)]), (4, .po 0 0), (10, .ro (l.map cSStep)), (11, .i (l.length : Int)), (12, .i k)]⟩, [.lv 2 [.i now.Low, .i now.High]]⟩) (fun _ _ => False) (fun _ => False) ⟨⟨36, [(0, .yld lid), (2, .pro [.ro (p.map cSTravel)]), (4, .po 0 0), (10, .ro (l.map cSStep)), (11, .i (l.length : Int)), (12, .i k), (13, .bool true)]⟩, [.lv 2 [.i now.Low, .i now.High]]⟩ := by
  refine W_gh ?_
  refine W_cond (c := true) (by kernel_rfl) (fun _ => ?_) (fun e => by cases e)
  refine W_skip ?_
  refine Gh_e ⟨⟨36, [(0, .yld lid), (2, .pro [.ro (p.map cSTravel)]), (4, .po 0 0), (10, .ro (l.map cSStep)), (11, .i (l.length : Int)), (12, .i k)]⟩, [.lv 2 [.i now.Low, .i now.High]]⟩ ?_
  show _ = _
  kernel_rfl

theorem w4f (lid : Nat) (l : List SStep) (p : List STravel) (now : SSpan) (k : Int) : W E0 hp R4 0 (fun _ => False) (fun i s => i = 0 ∧ s = ⟨⟨36, [(0, .yld lid), (2, .pro [.ro (p.map cSTravel)]), (4, .po 0 0), (10, .ro (l.map cSStep)), (11, .i (l.length : Int)), (12, .i k), (13, .bool false)]⟩, [.lv 2 [.i now.Low, .i now.High]]⟩) (fun _ => False) ⟨⟨36, [(0, .yld lid), (2, .pro [.ro (p.map cSTravel)]), (4, .po 0 0), (10, .ro (l.map cSStep)), (11, .i (l.length : Int)), (12, .i k), (13, .bool false)]⟩, [.lv 2 [.i now.Low, .i now.High]]⟩ := by
  refine W_gh ?_
  refine W_cond (c := false) (by kernel_rfl) (fun e => by cases e) (fun _ => ?_)
  refine W_exit ?_
  exact ⟨rfl, by kernel_rfl⟩

theorem w5 (lid : Nat) (l : List SStep) (p : List STravel) (now : SSpan) (k : Int) (r : SStep) (h : ((idx l k).bind fun v1 => some v1) = some r) : W E0 hp R5 0 (fun s => s = ⟨⟨36, [(0, .yld lid), (2, .pro [.ro (p.map cSTravel)]), (4, .po 0 0), (5, .i k), (6, .po 1 0), (10, .ro (l.map cSStep)), (11, .i (l.length : Int)), (12, .i k)]⟩, [.lv 2 [.i now.Low, .i now.High], .lv 2 [.ro (r.Strokes.map cSStroke), .i r.Wait]]⟩) (fun _ _ => False) (fun _ => False) ⟨⟨36, [(0, .yld lid), (2, .pro [.ro (p.map cSTravel)]), (4, .po 0 0), (10, .ro (l.map cSStep)), (11, .i (l.length : Int)), (12, .i k)]⟩, [.lv 2 [.i now.Low, .i now.High]]⟩ := by
  refine W_gh ?_
  refine W_reg ?_
  refine O_p 1 ?_
  refine O_idx (kd := .i64) cSStep h (fun _ => rfl) (by kernel_rfl) (by kernel_rfl) (by kernel_rfl) (fun v1 e_v1 h => ?_)
  refine O_p 4 ?_
  refine O_nil ?_
  refine Gh_e ⟨⟨36, [(0, .yld lid), (2, .pro [.ro (p.map cSTravel)]), (4, .po 0 0), (5, .i k), (6, .po 1 0), (10, .ro (l.map cSStep)), (11, .i (l.length : Int)), (12, .i k)]⟩, [.lv 2 [.i now.Low, .i now.High], .lv 2 [.ro (v1.Strokes.map cSStroke), .i v1.Wait]]⟩ ?_
  replace h := Option.some.inj h; subst h
  show _ = _
  kernel_rfl

theorem w6 (lid : Nat) (l : List SStep) (p : List STravel) (now : SSpan) (k : Int) (x : SStep) (r : SSpan) (h : ((m57 (⟨p⟩ : SPlant) x).bind fun v1 => (m54 now v1).bind fun v2 => some v2) = some r) : W E0 hp R6 0 (fun s => s = ⟨⟨36, [(0, .yld lid), (2, .pro [.ro (p.map cSTravel)]), (4, .po 0 0), (5, .i k), (6, .po 1 0), (7, .po 2 0), (10, .ro (l.map cSStep)), (11, .i (l.length : Int)), (12, .i k)]⟩, [.lv 2 [.i now.Low, .i now.High], .lv 2 [.ro (x.Strokes.map cSStroke), .i x.Wait], .lv 2 [.i r.Low, .i r.High]]⟩) (fun _ _ => False) (fun _ => False) ⟨⟨36, [(0, .yld lid), (2, .pro [.ro (p.map cSTravel)]), (4, .po 0 0), (5, .i k), (6, .po 1 0), (10, .ro (l.map cSStep)), (11, .i (l.length : Int)), (12, .i k)]⟩, [.lv 2 [.i now.Low, .i now.High], .lv 2 [.ro (x.Strokes.map cSStroke), .i x.Wait]]⟩ := by
  refine W_gh ?_
  refine W_drawW (L := 2) (by kernel_rfl) ?_
  refine WD_ps 3 (by kernel_rfl) ?_
  refine WD_op rfl (fp_call (ys := [.agg [.ro (p.map cSTravel)], .agg [.ro (x.Strokes.map cSStroke), .i x.Wait]]) (by kernel_rfl) (bels_cons (bels_cons (ro_bel okSTravel.bel _) rfl) (bels_cons (bels_cons (ro_bel okSStroke.bel _) (bels_cons rfl rfl)) rfl))) ?_
  refine O_call (fun v => .agg [.i v.Low, .i v.High]) h (.inr rfl) (ys := [.agg (cSPlant (⟨p⟩ : SPlant)), .agg (cSStep x)]) (fun _ e => p57 _ _ _ e) (by kernel_rfl) (by kernel_rfl) (bels_cons (okSPlant.bel _) (bels_cons (okSStep.bel _) rfl)) (fun v1 e_v1 h => ?_)
  refine O_nil ?_
  refine WD_op rfl (fp_call (ys := [.agg [.i now.Low, .i now.High], .agg [.i v1.Low, .i v1.High]]) (by kernel_rfl) (bels_cons rfl (bels_cons rfl rfl))) ?_
  refine O_call (fun v => .agg [.i v.Low, .i v.High]) h (.inr rfl) (ys := [.agg (cSSpan now), .agg (cSSpan v1)]) (fun _ e => p54 _ _ _ e) (by kernel_rfl) (by kernel_rfl) (bels_cons (okSSpan.bel _) (bels_cons (okSSpan.bel _) rfl)) (fun v2 e_v2 h => ?_)
  refine O_nil ?_
  refine WD_ps 2 (by kernel_rfl) ?_
  refine WD_nil ?_
  refine ⟨by kernel_rfl, ?_⟩
  refine Gh_e ⟨⟨36, [(0, .yld lid), (2, .pro [.ro (p.map cSTravel)]), (4, .po 0 0), (5, .i k), (6, .po 1 0), (7, .po 2 0), (10, .ro (l.map cSStep)), (11, .i (l.length : Int)), (12, .i k)]⟩, [.lv 2 [.i now.Low, .i now.High], .lv 2 [.ro (x.Strokes.map cSStroke), .i x.Wait], .lv 2 [.i v2.Low, .i v2.High]]⟩ ?_
  replace h := Option.some.inj h; subst h
  show _ = _
  kernel_rfl

theorem w7 (lid : Nat) (l : List SStep) (p : List STravel) (now : SSpan) (k : Int) (x : SStep) (mv : SSpan) (r : SSpan) (h : ((m56 mv x.Wait).bind fun v1 => some v1) = some r) : W E0 hp R7 0 (fun s => s = ⟨⟨36, [(0, .yld lid), (2, .pro [.ro (p.map cSTravel)]), (4, .po 0 0), (5, .i k), (7, .po 2 0), (8, .po 3 0), (10, .ro (l.map cSStep)), (11, .i (l.length : Int)), (12, .i k)]⟩, [.lv 2 [.i now.Low, .i now.High], .lv 2 [.ro (x.Strokes.map cSStroke), .i x.Wait], .lv 2 [.i mv.Low, .i mv.High], .lv 2 [.i r.Low, .i r.High]]⟩) (fun _ _ => False) (fun _ => False) ⟨⟨36, [(0, .yld lid), (2, .pro [.ro (p.map cSTravel)]), (4, .po 0 0), (5, .i k), (6, .po 1 0), (7, .po 2 0), (10, .ro (l.map cSStep)), (11, .i (l.length : Int)), (12, .i k)]⟩, [.lv 2 [.i now.Low, .i now.High], .lv 2 [.ro (x.Strokes.map cSStroke), .i x.Wait], .lv 2 [.i mv.Low, .i mv.High]]⟩ := by
  refine W_gh ?_
  refine W_reg ?_
  refine O_p 3 ?_
  refine O_call (fun v => .agg [.i v.Low, .i v.High]) h (.inr rfl) (ys := [.agg (cSSpan mv), .i x.Wait]) (fun _ e => p56 _ _ _ e) (by kernel_rfl) (by kernel_rfl) (bels_cons (okSSpan.bel _) (bels_cons rfl rfl)) (fun v1 e_v1 h => ?_)
  refine O_p 2 ?_
  refine O_nil ?_
  refine Gh_e ⟨⟨36, [(0, .yld lid), (2, .pro [.ro (p.map cSTravel)]), (4, .po 0 0), (5, .i k), (7, .po 2 0), (8, .po 3 0), (10, .ro (l.map cSStep)), (11, .i (l.length : Int)), (12, .i k)]⟩, [.lv 2 [.i now.Low, .i now.High], .lv 2 [.ro (x.Strokes.map cSStroke), .i x.Wait], .lv 2 [.i mv.Low, .i mv.High], .lv 2 [.i v1.Low, .i v1.High]]⟩ ?_
  replace h := Option.some.inj h; subst h
  show _ = _
  kernel_rfl

theorem w11 (lid : Nat) (l : List SStep) (p : List STravel) (now : SSpan) (k : Int) : W E0 hp R11 0 (fun s => s = ⟨⟨36, [(0, .yld lid), (2, .pro [.ro (p.map cSTravel)]), (4, .po 0 0), (10, .ro (l.map cSStep)), (11, .i (l.length : Int)), (12, .i (addI .i64 k 1))]⟩, [.lv 2 [.i now.Low, .i now.High]]⟩) (fun _ _ => False) (fun _ => False) ⟨⟨36, [(0, .yld lid), (2, .pro [.ro (p.map cSTravel)]), (4, .po 0 0), (10, .ro (l.map cSStep)), (11, .i (l.length : Int)), (12, .i k)]⟩, [.lv 2 [.i now.Low, .i now.High]]⟩ := by
  refine W_gh ?_
  refine W_reg ?_
  refine O_p 2 ?_
  refine O_nil ?_
  refine Gh_e ⟨⟨36, [(0, .yld lid), (2, .pro [.ro (p.map cSTravel)]), (4, .po 0 0), (10, .ro (l.map cSStep)), (11, .i (l.length : Int)), (12, .i (addI .i64 k 1))]⟩, [.lv 2 [.i now.Low, .i now.High]]⟩ ?_
  show _ = _
  kernel_rfl

theorem w10 (lid : Nat) (l : List SStep) (p : List STravel) (now : SSpan) (k : Int) (x : SStep) (mv : SSpan) (e : SSpan) : W E0 hp R10 0 (fun s => s = ⟨⟨36, [(0, .yld lid), (2, .pro [.ro (p.map cSTravel)]), (4, .po 0 0), (10, .ro (l.map cSStep)), (11, .i (l.length : Int)), (12, .i k)]⟩, [.lv 2 [.i e.Low, .i e.High], .lv 2 [.ro (x.Strokes.map cSStroke), .i x.Wait], .lv 2 [.i mv.Low, .i mv.High], .lv 2 [.i e.Low, .i e.High]]⟩) (fun _ _ => False) (fun _ => False) ⟨⟨36, [(0, .yld lid), (2, .pro [.ro (p.map cSTravel)]), (4, .po 0 0), (8, .po 3 0), (10, .ro (l.map cSStep)), (11, .i (l.length : Int)), (12, .i k)]⟩, [.lv 2 [.i now.Low, .i now.High], .lv 2 [.ro (x.Strokes.map cSStroke), .i x.Wait], .lv 2 [.i mv.Low, .i mv.High], .lv 2 [.i e.Low, .i e.High]]⟩ := by
  refine W_gh ?_
  refine W_reg ?_
  refine O_p 2 ?_
  refine O_nil ?_
  refine Gh_e ⟨⟨36, [(0, .yld lid), (2, .pro [.ro (p.map cSTravel)]), (4, .po 0 0), (10, .ro (l.map cSStep)), (11, .i (l.length : Int)), (12, .i k)]⟩, [.lv 2 [.i e.Low, .i e.High], .lv 2 [.ro (x.Strokes.map cSStroke), .i x.Wait], .lv 2 [.i mv.Low, .i mv.High], .lv 2 [.i e.Low, .i e.High]]⟩ ?_
  show _ = _
  kernel_rfl

theorem w9t (lid : Nat) (l : List SStep) (p : List STravel) (now : SSpan) (k : Int) (x : SStep) (mv : SSpan) (e : SSpan) : W E0 hp R9 0 (fun _ => False) (fun _ _ => False) (fun s => s = ⟨⟨36, [(0, .yld lid), (2, .pro [.ro (p.map cSTravel)]), (4, .po 0 0), (8, .po 3 0), (10, .ro (l.map cSStep)), (11, .i (l.length : Int)), (12, .i k), (33, .bool true)]⟩, [.lv 2 [.i now.Low, .i now.High], .lv 2 [.ro (x.Strokes.map cSStroke), .i x.Wait], .lv 2 [.i mv.Low, .i mv.High], .lv 2 [.i e.Low, .i e.High]]⟩) ⟨⟨36, [(0, .yld lid), (2, .pro [.ro (p.map cSTravel)]), (4, .po 0 0), (8, .po 3 0), (10, .ro (l.map cSStep)), (11, .i (l.length : Int)), (12, .i k), (33, .bool true)]⟩, [.lv 2 [.i now.Low, .i now.High], .lv 2 [.ro (x.Strokes.map cSStroke), .i x.Wait], .lv 2 [.i mv.Low, .i mv.High], .lv 2 [.i e.Low, .i e.High]]⟩ := by
  refine W_gh ?_
  refine W_cond (c := true) (by kernel_rfl) (fun _ => ?_) (fun e => by cases e)
  refine W_ret ?_
  show _ = _
  kernel_rfl

theorem w9f (lid : Nat) (l : List SStep) (p : List STravel) (now : SSpan) (k : Int) (x : SStep) (mv : SSpan) (e : SSpan) : W E0 hp R9 0 (fun s => s = ⟨⟨36, [(0, .yld lid), (2, .pro [.ro (p.map cSTravel)]), (4, .po 0 0), (8, .po 3 0), (10, .ro (l.map cSStep)), (11, .i (l.length : Int)), (12, .i k)]⟩, [.lv 2 [.i now.Low, .i now.High], .lv 2 [.ro (x.Strokes.map cSStroke), .i x.Wait], .lv 2 [.i mv.Low, .i mv.High], .lv 2 [.i e.Low, .i e.High]]⟩) (fun _ _ => False) (fun _ => False) ⟨⟨36, [(0, .yld lid), (2, .pro [.ro (p.map cSTravel)]), (4, .po 0 0), (8, .po 3 0), (10, .ro (l.map cSStep)), (11, .i (l.length : Int)), (12, .i k), (33, .bool false)]⟩, [.lv 2 [.i now.Low, .i now.High], .lv 2 [.ro (x.Strokes.map cSStroke), .i x.Wait], .lv 2 [.i mv.Low, .i mv.High], .lv 2 [.i e.Low, .i e.High]]⟩ := by
  refine W_gh ?_
  refine W_cond (c := false) (by kernel_rfl) (fun e => by cases e) (fun _ => ?_)
  refine W_skip ?_
  refine Gh_e ⟨⟨36, [(0, .yld lid), (2, .pro [.ro (p.map cSTravel)]), (4, .po 0 0), (8, .po 3 0), (10, .ro (l.map cSStep)), (11, .i (l.length : Int)), (12, .i k)]⟩, [.lv 2 [.i now.Low, .i now.High], .lv 2 [.ro (x.Strokes.map cSStroke), .i x.Wait], .lv 2 [.i mv.Low, .i mv.High], .lv 2 [.i e.Low, .i e.High]]⟩ ?_
  show _ = _
  kernel_rfl

theorem wg (lid : Nat) (l : List SStep) (p : List STravel) (now : SSpan) (k : Int) (x : SStep) (mv : SSpan) (e : SSpan) : W E0 hp RG 0 (fun s => s = ⟨⟨36, [(0, .yld lid), (2, .pro [.ro (p.map cSTravel)]), (4, .po 0 0), (10, .ro (l.map cSStep)), (11, .i (l.length : Int)), (12, .i k)]⟩, [.lv 2 [.i now.Low, .i now.High]]⟩) (fun _ _ => False) (fun _ => False) ⟨⟨36, [(0, .yld lid), (2, .pro [.ro (p.map cSTravel)]), (4, .po 0 0), (10, .ro (l.map cSStep)), (11, .i (l.length : Int)), (12, .i k)]⟩, [.lv 2 [.i now.Low, .i now.High], .lv 2 [.ro (x.Strokes.map cSStroke), .i x.Wait], .lv 2 [.i mv.Low, .i mv.High], .lv 2 [.i e.Low, .i e.High]]⟩ := by
  refine W_gh ?_
  refine W_skip ?_
  refine Gh_at (s1 := ⟨⟨36, [(0, .yld lid), (2, .pro [.ro (p.map cSTravel)]), (4, .po 0 0), (10, .ro (l.map cSStep)), (11, .i (l.length : Int)), (12, .i k)]⟩, [.lv 2 [.i now.Low, .i now.High], .lv 2 [.ro (x.Strokes.map cSStroke), .i x.Wait], .lv 2 [.i mv.Low, .i mv.High], .lv 2 [.i e.Low, .i e.High]]⟩) (by kernel_rfl) ?_
  refine Gh_trunc (s1 := ⟨⟨36, [(0, .yld lid), (2, .pro [.ro (p.map cSTravel)]), (4, .po 0 0), (10, .ro (l.map cSStep)), (11, .i (l.length : Int)), (12, .i k)]⟩, [.lv 2 [.i now.Low, .i now.High]]⟩) (by kernel_rfl) (tb_free rfl (tb_free (bels_cons (ro_bel okSTravel.bel _) rfl) (tb_ref rfl (tb_free (ro_bel okSStep.bel _) (tb_free rfl (tb_free rfl rfl)))))) (H1 := [.lv 2 [.i now.Low, .i now.High]]) (by kernel_rfl) (ob_boxn (bn_free rfl (bn_free rfl rfl)) rfl) (by kernel_rfl) ?_
  refine Gh_nil ?_
  show _ = _
  kernel_rfl

theorem w8 (lid : Nat) (l : List SStep) (p : List STravel) (now : SSpan) (k : Int) (x : SStep) (mv : SSpan) (e : SSpan) : WO E0 hp false (O8.take 6) ⟨36, [(0, .yld lid), (2, .pro [.ro (p.map cSTravel)]), (4, .po 0 0), (5, .i k), (7, .po 2 0), (8, .po 3 0), (10, .ro (l.map cSStep)), (11, .i (l.length : Int)), (12, .i k)]⟩ [.lv 2 [.i now.Low, .i now.High], .lv 2 [.ro (x.Strokes.map cSStroke), .i x.Wait], .lv 2 [.i mv.Low, .i mv.High], .lv 2 [.i e.Low, .i e.High]] (fun t H => (⟨t, H⟩ : As.ST) = ⟨⟨36, [(0, .yld lid), (2, .pro [.ro (p.map cSTravel)]), (4, .po 0 0), (5, .i k), (7, .po 2 0), (8, .po 3 0), (10, .ro (l.map cSStep)), (11, .i (l.length : Int)), (12, .i k), (26, .yld lid), (27, .i k), (28, .agg [.i now.Low, .i now.High]), (29, .agg [.i mv.Low, .i mv.High]), (30, .agg [.i e.Low, .i e.High]), (31, .agg [.i now.Low, .i now.High, .i mv.Low, .i mv.High, .i e.Low, .i e.High])]⟩, [.lv 2 [.i now.Low, .i now.High], .lv 2 [.ro (x.Strokes.map cSStroke), .i x.Wait], .lv 2 [.i mv.Low, .i mv.High], .lv 2 [.i e.Low, .i e.High]]⟩) := by
  refine O_p 6 ?_
  refine O_nil ?_
  show _ = _
  kernel_rfl

theorem w8b (lid : Nat) (l : List SStep) (p : List STravel) (now : SSpan) (k : Int) (x : SStep) (mv : SSpan) (e : SSpan) (b : Bool) : WO E0 hp false (O8.drop 7) ⟨36, [(0, .yld lid), (2, .pro [.ro (p.map cSTravel)]), (4, .po 0 0), (5, .i k), (7, .po 2 0), (8, .po 3 0), (10, .ro (l.map cSStep)), (11, .i (l.length : Int)), (12, .i k), (26, .yld lid), (27, .i k), (28, .agg [.i now.Low, .i now.High]), (29, .agg [.i mv.Low, .i mv.High]), (30, .agg [.i e.Low, .i e.High]), (31, .agg [.i now.Low, .i now.High, .i mv.Low, .i mv.High, .i e.Low, .i e.High]), (32, .bool b)]⟩ [.lv 2 [.i now.Low, .i now.High], .lv 2 [.ro (x.Strokes.map cSStroke), .i x.Wait], .lv 2 [.i mv.Low, .i mv.High], .lv 2 [.i e.Low, .i e.High]] (fun t H => (⟨t, H⟩ : As.ST) = ⟨⟨36, [(0, .yld lid), (2, .pro [.ro (p.map cSTravel)]), (4, .po 0 0), (5, .i k), (7, .po 2 0), (8, .po 3 0), (10, .ro (l.map cSStep)), (11, .i (l.length : Int)), (12, .i k), (26, .yld lid), (27, .i k), (28, .agg [.i now.Low, .i now.High]), (29, .agg [.i mv.Low, .i mv.High]), (30, .agg [.i e.Low, .i e.High]), (31, .agg [.i now.Low, .i now.High, .i mv.Low, .i mv.High, .i e.Low, .i e.High]), (32, .bool b), (33, .bool (!b))]⟩, [.lv 2 [.i now.Low, .i now.High], .lv 2 [.ro (x.Strokes.map cSStroke), .i x.Wait], .lv 2 [.i mv.Low, .i mv.High], .lv 2 [.i e.Low, .i e.High]]⟩) := by
  refine O_p 1 ?_
  refine O_nil ?_
  show _ = _
  kernel_rfl
end G17.B
