/- The pieces of the function that schedule.slots yields with, by the machine. No condition. -/
import Derived.Test.YtiicggigpcfefaaG17z
namespace G17.B
open Go Go.Pl Go.Am Go.Am.As
set_option linter.unusedVariables false
set_option linter.unusedSimpArgs false
set_option maxHeartbeats 1000000
def E0 : Env := { fns := L17.fns, glob := (fun _ => []) }
theorem fn54 : E0.fns 54 = some L17.r54 := rfl
theorem fn55 : E0.fns 55 = some L17.r55 := rfl
theorem fn56 : E0.fns 56 = some L17.r56 := rfl
theorem fn57 : E0.fns 57 = some L17.r57 := rfl
theorem fn75 : E0.fns 75 = some L17.r75 := rfl
theorem fn76 : E0.fns 76 = some L17.r76 := rfl
theorem fn77 : E0.fns 77 = some L17.r77 := rfl
def sL : RC → RC
  | .seq a _ => a
  | c => c
def sR : RC → RC
  | .seq _ b => b
  | c => c
def gI : RC → RC
  | .gh _ c _ => c
  | c => c
def bI : RC → RC
  | .block _ c => c
  | .loop c => c
  | c => c
def opsI : RC → List ROp
  | .reg os => os
  | _ => []
def RB : RC := L17.r70.body
def R1 : RC := sL RB
def R2 : RC := sL (sR RB)
/-- the loop's round -/
def RL : RC := gI (bI (bI (gI (sR (sR RB)))))
def R3 : RC := sL RL
def R4 : RC := sL (sR RL)
def RI : RC := bI (gI (sL (sR (sR RL))))
def R11 : RC := sR (sR (sR RL))
def R5 : RC := sL RI
def R6 : RC := sL (sR RI)
def R7 : RC := sL (sR (sR RI))
def R89 : RC := sL (sR (sR (sR RI)))
def R10 : RC := sR (sR (sR (sR RI)))
def O8 : List ROp := opsI (gI (sL R89))
def R9 : RC := sR R89
def RG : RC := .gh [] .skip [.trunc 1]

theorem p55 (a0 : SPlant) (a1 : SStroke) (r : SSpan) (h : m55 a0 a1 = some r) : Pt E0 hp 55 [.agg (cSPlant a0), .agg (cSStroke a1)] (.agg [.int .i64 r.Low, .int .i64 r.High]) := by
  unfold m55 at h
  refine Pt_W (fn55) rfl (by decide) ?_
  refine W_seq ?_
  refine W_gh ?_
  refine W_reg ?_
  refine O_ps 3 (by kernel_rfl) ?_
  refine O_nil ?_
  refine Gh_end (s1 := ⟨⟨22, [(2, .pown 0 1 0 0), (3, .pown 1 1 0 0), (4, .pown 2 1 0 0)]⟩, [.live .norm 1 [[.ro (a0.Travels.map cSTravel)]], .live .norm 2 [[.int .i64 a1.Actuator, .bool a1.Out]], .live .norm 2 [[.int .i64 0, .int .i64 0]]]⟩) _ (by kernel_rfl) ?_
  refine W_seq ?_
  refine W_reg ?_
  refine O_ps 1 (by kernel_rfl) ?_
  refine O_nil ?_
  refine W_seq ?_
  refine W_seq ?_
  refine W_gh ?_
  refine W_reg ?_
  refine O_ps 2 (by kernel_rfl) ?_
  refine O_nil ?_
  refine Gh_end (s1 := ⟨⟨22, [(2, .pown 0 1 0 0), (3, .pown 1 1 0 0), (4, .pown 2 1 0 0), (5, .int .i64 0), (8, .bool a1.Out)]⟩, [.live .norm 1 [[.ro (a0.Travels.map cSTravel)]], .live .norm 2 [[.int .i64 a1.Actuator, .bool a1.Out]], .live .norm 2 [[.int .i64 0, .int .i64 0]]]⟩) _ (by kernel_rfl) ?_
  refine W_cut ⟨⟨22, [(2, .pown 0 1 0 0), (3, .pown 1 1 0 0), (4, .pown 2 1 0 0), (5, .int .i64 (bif a1.Out then 1 else 0))]⟩, [.live .norm 1 [[.ro (a0.Travels.map cSTravel)]], .live .norm 2 [[.int .i64 a1.Actuator, .bool a1.Out]], .live .norm 2 [[.int .i64 0, .int .i64 0]]]⟩ ?_ ?_
  · generalize e_g1 : ((bif a1.Out then 1 else 0) : Int) = g1
    refine W_gh ?_
    refine W_cond (c := a1.Out) (by kernel_rfl) (fun c2 => ?_) (fun c2 => ?_)
    · skip
      refine W_reg ?_
      refine O_ps 1 (by kernel_rfl) ?_
      refine O_nil ?_
      refine Gh_end (s1 := ⟨⟨22, [(2, .pown 0 1 0 0), (3, .pown 1 1 0 0), (4, .pown 2 1 0 0), (5, .int .i64 1)]⟩, [.live .norm 1 [[.ro (a0.Travels.map cSTravel)]], .live .norm 2 [[.int .i64 a1.Actuator, .bool a1.Out]], .live .norm 2 [[.int .i64 0, .int .i64 0]]]⟩) _ (by kernel_rfl) ?_
      have q := e_g1; simp only [c2, cond_true, cond_false, Bool.true_and, Bool.false_and, Bool.true_or, Bool.false_or] at q; subst q
      show _ = _
      kernel_rfl
    · skip
      refine W_skip ?_
      refine Gh_end (s1 := ⟨⟨22, [(2, .pown 0 1 0 0), (3, .pown 1 1 0 0), (4, .pown 2 1 0 0), (5, .int .i64 0)]⟩, [.live .norm 1 [[.ro (a0.Travels.map cSTravel)]], .live .norm 2 [[.int .i64 a1.Actuator, .bool a1.Out]], .live .norm 2 [[.int .i64 0, .int .i64 0]]]⟩) _ (by kernel_rfl) ?_
      have q := e_g1; simp only [c2, cond_true, cond_false, Bool.true_and, Bool.false_and, Bool.true_or, Bool.false_or] at q; subst q
      show _ = _
      kernel_rfl
  · refine W_seq ?_
    refine W_gh ?_
    refine W_reg ?_
    refine O_ps 4 (by kernel_rfl) ?_
    refine O_idx (kd := .i64) cSTravel h (fun _ => rfl) (by kernel_rfl) (by kernel_rfl) (by kernel_rfl) (fun v3 e_v3 h => ?_)
    refine O_ps 3 (by kernel_rfl) ?_
    refine O_nil ?_
    refine Gh_end (s1 := ⟨⟨22, [(4, .pown 2 1 0 0), (5, .int .i64 (bif a1.Out then 1 else 0)), (6, .pown 3 1 0 0)]⟩, [.live .norm 1 [[.ro (a0.Travels.map cSTravel)]], .live .norm 2 [[.int .i64 a1.Actuator, .bool a1.Out]], .live .norm 2 [[.int .i64 0, .int .i64 0]], .live .norm 4 [[.int .i64 v3.Out.Low, .int .i64 v3.Out.High, .int .i64 v3.In.Low, .int .i64 v3.In.High]]]⟩) _ (by kernel_rfl) ?_
    refine W_seq ?_
    refine W_gh ?_
    refine W_reg ?_
    refine O_ps 6 (by kernel_rfl) ?_
    refine O_idxL (kd := .i64) (l := [(v3.In.Low, v3.In.High), (v3.Out.Low, v3.Out.High)]) (cP2 cI_i64) h (fun _ => rfl) rfl (by kernel_rfl) (by kernel_rfl) (by kernel_rfl) (fun v4 e_v4 h => ?_)
    refine O_ps 1 (by kernel_rfl) ?_
    refine O_nil ?_
    refine Gh_end (s1 := ⟨⟨22, [(4, .pown 2 1 0 0)]⟩, [.live .norm 1 [[.ro (a0.Travels.map cSTravel)]], .live .norm 2 [[.int .i64 a1.Actuator, .bool a1.Out]], .live .norm 2 [[.int .i64 v4.1, .int .i64 v4.2]], .live .norm 4 [[.int .i64 v3.Out.Low, .int .i64 v3.Out.High, .int .i64 v3.In.Low, .int .i64 v3.In.High]]]⟩) _ (by kernel_rfl) ?_
    refine W_ret ?_
    replace h := Option.some.inj h; subst h
    exact Fin_free (l := [.agg [.int .i64 v4.1, .int .i64 v4.2]]) (by kernel_rfl) (by kernel_rfl) rfl

theorem p76 (a0 : SStroke) (a1 : (List STravel)) (r : Int) (h : m76 a0 a1 = some r) : Pt E0 hp 76 [.agg (cSStroke a0), .pro [.ro (a1.map cSTravel)]] (.int .i64 r) := by
  unfold m76 at h
  refine Pt_W (fn76) rfl (by decide) ?_
  refine W_seq ?_
  refine W_gh ?_
  refine W_reg ?_
  refine O_ps 2 (by kernel_rfl) ?_
  refine O_nil ?_
  refine Gh_end (s1 := ⟨⟨8, [(1, .pro [.ro (a1.map cSTravel)]), (2, .pown 0 1 0 0)]⟩, [.live .norm 2 [[.int .i64 a0.Actuator, .bool a0.Out]]]⟩) _ (by kernel_rfl) ?_
  refine W_seq ?_
  refine W_gh ?_
  refine W_reg ?_
  refine O_ps 2 (by kernel_rfl) ?_
  refine O_call (fun v => .agg [.int .i64 v.Low, .int .i64 v.High]) h (.inr rfl) (ys := [.agg (cSPlant (⟨a1⟩ : SPlant)), .agg (cSStroke a0)]) (fun _ e => p55 _ _ _ e) (by kernel_rfl) (by kernel_rfl) (bels_cons (okSPlant.bel _) (bels_cons (okSStroke.bel _) rfl)) (fun v1 e_v1 h => ?_)
  refine O_ps 2 (by kernel_rfl) ?_
  refine O_nil ?_
  refine Gh_end (s1 := ⟨⟨8, [(3, .int .i64 v1.Low)]⟩, [.live .norm 2 [[.int .i64 a0.Actuator, .bool a0.Out]]]⟩) _ (by kernel_rfl) ?_
  refine W_ret ?_
  replace h := Option.some.inj h; subst h
  exact Fin_free (l := [.int .i64 v1.Low]) (by kernel_rfl) (by kernel_rfl) rfl

theorem p75_76 (a0 : (List SStroke)) (a1 : (List STravel)) (r : Int) (h : m75_76 a0 a1 = some r) : Pt E0 hp 75 [.ro (a0.map cSStroke), .fn 76 [.pro [.ro (a1.map cSTravel)]]] (.int .i64 r) := by
  unfold m75_76 at h
  refine Pt_W (fn75) rfl (by decide) ?_
  refine W_seq ?_
  refine W_gh ?_
  refine W_reg ?_
  refine O_ps 1 (by kernel_rfl) ?_
  refine O_nil ?_
  refine Gh_end (s1 := ⟨⟨21, [(0, .ro (a0.map cSStroke)), (1, .fn 76 [.pro [.ro (a1.map cSTravel)]])]⟩, []⟩) _ (by kernel_rfl) ?_
  refine W_seq ?_
  refine W_reg ?_
  refine O_ps 1 (by kernel_rfl) ?_
  refine O_nil ?_
  refine W_seq ?_
  refine W_seq ?_
  refine W_gh ?_
  refine W_reg ?_
  refine O_ps 1 (by kernel_rfl) ?_
  refine O_len (l := a0) cSStroke (by kernel_rfl) (by kernel_rfl) ?_
  refine O_ps 1 (by kernel_rfl) ?_
  refine O_nil ?_
  refine Gh_end (s1 := ⟨⟨21, [(1, .fn 76 [.pro [.ro (a1.map cSTravel)]]), (5, .int .i64 0), (8, .ro (a0.map cSStroke)), (9, .int .i64 (a0.length : Int)), (10, .int .i64 0)]⟩, []⟩) _ (by kernel_rfl) ?_
  refine W_loopS (fun s1 : Int × Int => ⟨⟨21, [(1, .fn 76 [.pro [.ro (a1.map cSTravel)]]), (5, .int .i64 s1.2), (8, .ro (a0.map cSStroke)), (9, .int .i64 (a0.length : Int)), (10, .int .i64 s1.1)]⟩, []⟩) (fun w2 : Int => ⟨⟨21, [(1, .fn 76 [.pro [.ro (a1.map cSTravel)]]), (5, .int .i64 w2)]⟩, []⟩) h (by kernel_rfl) (fun s1 c h => ?_) (fun w2 e_w2 h => ?_)
  · refine W_gh ?_
    refine W_seq ?_
    refine W_reg ?_
    refine O_ps 1 (by kernel_rfl) ?_
    refine O_nil ?_
    refine W_seq ?_
    refine W_gh ?_
    refine W_cond (c := (decide (s1.1 < (a0.length : Int)))) (by kernel_rfl) (fun c3 => ?_) (fun c3 => ?_)
    · replace h := fork_t c3 h
      refine W_skip ?_
      refine Gh_end (s1 := ⟨⟨21, [(1, .fn 76 [.pro [.ro (a1.map cSTravel)]]), (5, .int .i64 s1.2), (8, .ro (a0.map cSStroke)), (9, .int .i64 (a0.length : Int)), (10, .int .i64 s1.1)]⟩, []⟩) _ (by kernel_rfl) ?_
      refine W_seq ?_
      refine W_gh ?_
      refine W_block ?_
      refine W_seq ?_
      refine W_gh ?_
      refine W_reg ?_
      refine O_idx (kd := .i64) cSStroke h (fun _ => rfl) (by kernel_rfl) (by kernel_rfl) (by kernel_rfl) (fun v4 e_v4 h => ?_)
      refine O_ps 3 (by kernel_rfl) ?_
      refine O_nil ?_
      refine Gh_end (s1 := ⟨⟨21, [(1, .fn 76 [.pro [.ro (a1.map cSTravel)]]), (5, .int .i64 s1.2), (7, .pown 0 1 0 0), (8, .ro (a0.map cSStroke)), (9, .int .i64 (a0.length : Int)), (10, .int .i64 s1.1)]⟩, [.live .norm 2 [[.int .i64 v4.Actuator, .bool v4.Out]]]⟩) _ (by kernel_rfl) ?_
      refine W_gh ?_
      refine W_reg ?_
      refine O_ps 3 (by kernel_rfl) ?_
      refine O_callv (f := 76) (cap := [.pro [.ro (a1.map cSTravel)]]) (fun v => .int .i64 v) h (.inr rfl) (by kernel_rfl) (ys := [.agg (cSStroke v4), .pro [.ro (a1.map cSTravel)]]) (fun _ e => p76 _ _ _ e) (by kernel_rfl) (by kernel_rfl) (bels_cons (okSStroke.bel _) (bels_cons (bels_cons (ro_bel okSTravel.bel _) rfl) rfl)) (fun v5 e_v5 h => ?_)
      refine O_ps 2 (by kernel_rfl) ?_
      refine O_nil ?_
      refine Gh_one (s1 := ⟨⟨21, [(1, .fn 76 [.pro [.ro (a1.map cSTravel)]]), (5, .int .i64 (maxI s1.2 v5)), (8, .ro (a0.map cSStroke)), (9, .int .i64 (a0.length : Int)), (10, .int .i64 s1.1)]⟩, [.live .norm 2 [[.int .i64 v4.Actuator, .bool v4.Out]]]⟩) (by kernel_rfl) ?_
      refine Gh_trunc0 (by kernel_rfl) ?_
      refine Gh_nil ?_
      refine Gh_one (s1 := ⟨⟨21, [(1, .fn 76 [.pro [.ro (a1.map cSTravel)]]), (5, .int .i64 (maxI s1.2 v5)), (8, .ro (a0.map cSStroke)), (9, .int .i64 (a0.length : Int)), (10, .int .i64 s1.1)]⟩, [.live .norm 2 [[.int .i64 v4.Actuator, .bool v4.Out]]]⟩) (by kernel_rfl) ?_
      refine Gh_at (s1 := ⟨⟨21, [(1, .fn 76 [.pro [.ro (a1.map cSTravel)]]), (5, .int .i64 (maxI s1.2 v5)), (8, .ro (a0.map cSStroke)), (9, .int .i64 (a0.length : Int)), (10, .int .i64 s1.1)]⟩, [.live .norm 2 [[.int .i64 v4.Actuator, .bool v4.Out]]]⟩) (by kernel_rfl) ?_
      refine Gh_trunc (s1 := ⟨⟨21, [(1, .fn 76 [.pro [.ro (a1.map cSTravel)]]), (5, .int .i64 (maxI s1.2 v5)), (8, .ro (a0.map cSStroke)), (9, .int .i64 (a0.length : Int)), (10, .int .i64 s1.1)]⟩, []⟩) (by kernel_rfl) (tb_free (bels_cons (bels_cons (ro_bel okSTravel.bel _) rfl) rfl) (tb_free rfl (tb_free (ro_bel okSStroke.bel _) (tb_free rfl (tb_free rfl rfl))))) (H1 := []) (by kernel_rfl) rfl (by kernel_rfl) ?_
      refine Gh_nil ?_
      refine W_gh ?_
      refine W_reg ?_
      refine O_ps 2 (by kernel_rfl) ?_
      refine O_nil ?_
      refine Gh_end (s1 := ⟨⟨21, [(1, .fn 76 [.pro [.ro (a1.map cSTravel)]]), (5, .int .i64 (maxI s1.2 v5)), (8, .ro (a0.map cSStroke)), (9, .int .i64 (a0.length : Int)), (10, .int .i64 (addI .i64 s1.1 1))]⟩, []⟩) _ (by kernel_rfl) ?_
      refine Gh_one (s1 := ⟨⟨21, [(1, .fn 76 [.pro [.ro (a1.map cSTravel)]]), (5, .int .i64 (maxI s1.2 v5)), (8, .ro (a0.map cSStroke)), (9, .int .i64 (a0.length : Int)), (10, .int .i64 (addI .i64 s1.1 1))]⟩, []⟩) (by kernel_rfl) ?_
      refine Gh_trunc0 (by kernel_rfl) ?_
      refine Gh_nil ?_
      replace h := Option.some.inj h; subst h
      exact ⟨_, rfl, by kernel_rfl⟩
    · replace h := fork_f c3 h
      refine W_exit ?_
      refine X_hit ?_
      refine Gh_one (s1 := ⟨⟨21, [(1, .fn 76 [.pro [.ro (a1.map cSTravel)]]), (5, .int .i64 s1.2)]⟩, []⟩) (by kernel_rfl) ?_
      refine Gh_trunc0 (by kernel_rfl) ?_
      refine Gh_nil ?_
      replace h := Option.some.inj h; subst h
      exact ⟨_, rfl, by kernel_rfl⟩
  · refine W_seq ?_
    refine W_gh ?_
    refine W_reg ?_
    refine O_ps 2 (by kernel_rfl) ?_
    refine O_nil ?_
    refine Gh_end (s1 := ⟨⟨21, [(1, .fn 76 [.pro [.ro (a1.map cSTravel)]]), (4, .int .i64 w2)]⟩, []⟩) _ (by kernel_rfl) ?_
    refine W_ret ?_
    replace h := Option.some.inj h; subst h
    exact Fin_free (l := [.int .i64 w2]) (by kernel_rfl) (by kernel_rfl) rfl

theorem p77 (a0 : SStroke) (a1 : (List STravel)) (r : Int) (h : m77 a0 a1 = some r) : Pt E0 hp 77 [.agg (cSStroke a0), .pro [.ro (a1.map cSTravel)]] (.int .i64 r) := by
  unfold m77 at h
  refine Pt_W (fn77) rfl (by decide) ?_
  refine W_seq ?_
  refine W_gh ?_
  refine W_reg ?_
  refine O_ps 2 (by kernel_rfl) ?_
  refine O_nil ?_
  refine Gh_end (s1 := ⟨⟨8, [(1, .pro [.ro (a1.map cSTravel)]), (2, .pown 0 1 0 0)]⟩, [.live .norm 2 [[.int .i64 a0.Actuator, .bool a0.Out]]]⟩) _ (by kernel_rfl) ?_
  refine W_seq ?_
  refine W_gh ?_
  refine W_reg ?_
  refine O_ps 2 (by kernel_rfl) ?_
  refine O_call (fun v => .agg [.int .i64 v.Low, .int .i64 v.High]) h (.inr rfl) (ys := [.agg (cSPlant (⟨a1⟩ : SPlant)), .agg (cSStroke a0)]) (fun _ e => p55 _ _ _ e) (by kernel_rfl) (by kernel_rfl) (bels_cons (okSPlant.bel _) (bels_cons (okSStroke.bel _) rfl)) (fun v1 e_v1 h => ?_)
  refine O_ps 2 (by kernel_rfl) ?_
  refine O_nil ?_
  refine Gh_end (s1 := ⟨⟨8, [(3, .int .i64 v1.High)]⟩, [.live .norm 2 [[.int .i64 a0.Actuator, .bool a0.Out]]]⟩) _ (by kernel_rfl) ?_
  refine W_ret ?_
  replace h := Option.some.inj h; subst h
  exact Fin_free (l := [.int .i64 v1.High]) (by kernel_rfl) (by kernel_rfl) rfl

theorem p75_77 (a0 : (List SStroke)) (a1 : (List STravel)) (r : Int) (h : m75_77 a0 a1 = some r) : Pt E0 hp 75 [.ro (a0.map cSStroke), .fn 77 [.pro [.ro (a1.map cSTravel)]]] (.int .i64 r) := by
  unfold m75_77 at h
  refine Pt_W (fn75) rfl (by decide) ?_
  refine W_seq ?_
  refine W_gh ?_
  refine W_reg ?_
  refine O_ps 1 (by kernel_rfl) ?_
  refine O_nil ?_
  refine Gh_end (s1 := ⟨⟨21, [(0, .ro (a0.map cSStroke)), (1, .fn 77 [.pro [.ro (a1.map cSTravel)]])]⟩, []⟩) _ (by kernel_rfl) ?_
  refine W_seq ?_
  refine W_reg ?_
  refine O_ps 1 (by kernel_rfl) ?_
  refine O_nil ?_
  refine W_seq ?_
  refine W_seq ?_
  refine W_gh ?_
  refine W_reg ?_
  refine O_ps 1 (by kernel_rfl) ?_
  refine O_len (l := a0) cSStroke (by kernel_rfl) (by kernel_rfl) ?_
  refine O_ps 1 (by kernel_rfl) ?_
  refine O_nil ?_
  refine Gh_end (s1 := ⟨⟨21, [(1, .fn 77 [.pro [.ro (a1.map cSTravel)]]), (5, .int .i64 0), (8, .ro (a0.map cSStroke)), (9, .int .i64 (a0.length : Int)), (10, .int .i64 0)]⟩, []⟩) _ (by kernel_rfl) ?_
  refine W_loopS (fun s1 : Int × Int => ⟨⟨21, [(1, .fn 77 [.pro [.ro (a1.map cSTravel)]]), (5, .int .i64 s1.2), (8, .ro (a0.map cSStroke)), (9, .int .i64 (a0.length : Int)), (10, .int .i64 s1.1)]⟩, []⟩) (fun w2 : Int => ⟨⟨21, [(1, .fn 77 [.pro [.ro (a1.map cSTravel)]]), (5, .int .i64 w2)]⟩, []⟩) h (by kernel_rfl) (fun s1 c h => ?_) (fun w2 e_w2 h => ?_)
  · refine W_gh ?_
    refine W_seq ?_
    refine W_reg ?_
    refine O_ps 1 (by kernel_rfl) ?_
    refine O_nil ?_
    refine W_seq ?_
    refine W_gh ?_
    refine W_cond (c := (decide (s1.1 < (a0.length : Int)))) (by kernel_rfl) (fun c3 => ?_) (fun c3 => ?_)
    · replace h := fork_t c3 h
      refine W_skip ?_
      refine Gh_end (s1 := ⟨⟨21, [(1, .fn 77 [.pro [.ro (a1.map cSTravel)]]), (5, .int .i64 s1.2), (8, .ro (a0.map cSStroke)), (9, .int .i64 (a0.length : Int)), (10, .int .i64 s1.1)]⟩, []⟩) _ (by kernel_rfl) ?_
      refine W_seq ?_
      refine W_gh ?_
      refine W_block ?_
      refine W_seq ?_
      refine W_gh ?_
      refine W_reg ?_
      refine O_idx (kd := .i64) cSStroke h (fun _ => rfl) (by kernel_rfl) (by kernel_rfl) (by kernel_rfl) (fun v4 e_v4 h => ?_)
      refine O_ps 3 (by kernel_rfl) ?_
      refine O_nil ?_
      refine Gh_end (s1 := ⟨⟨21, [(1, .fn 77 [.pro [.ro (a1.map cSTravel)]]), (5, .int .i64 s1.2), (7, .pown 0 1 0 0), (8, .ro (a0.map cSStroke)), (9, .int .i64 (a0.length : Int)), (10, .int .i64 s1.1)]⟩, [.live .norm 2 [[.int .i64 v4.Actuator, .bool v4.Out]]]⟩) _ (by kernel_rfl) ?_
      refine W_gh ?_
      refine W_reg ?_
      refine O_ps 3 (by kernel_rfl) ?_
      refine O_callv (f := 77) (cap := [.pro [.ro (a1.map cSTravel)]]) (fun v => .int .i64 v) h (.inr rfl) (by kernel_rfl) (ys := [.agg (cSStroke v4), .pro [.ro (a1.map cSTravel)]]) (fun _ e => p77 _ _ _ e) (by kernel_rfl) (by kernel_rfl) (bels_cons (okSStroke.bel _) (bels_cons (bels_cons (ro_bel okSTravel.bel _) rfl) rfl)) (fun v5 e_v5 h => ?_)
      refine O_ps 2 (by kernel_rfl) ?_
      refine O_nil ?_
      refine Gh_one (s1 := ⟨⟨21, [(1, .fn 77 [.pro [.ro (a1.map cSTravel)]]), (5, .int .i64 (maxI s1.2 v5)), (8, .ro (a0.map cSStroke)), (9, .int .i64 (a0.length : Int)), (10, .int .i64 s1.1)]⟩, [.live .norm 2 [[.int .i64 v4.Actuator, .bool v4.Out]]]⟩) (by kernel_rfl) ?_
      refine Gh_trunc0 (by kernel_rfl) ?_
      refine Gh_nil ?_
      refine Gh_one (s1 := ⟨⟨21, [(1, .fn 77 [.pro [.ro (a1.map cSTravel)]]), (5, .int .i64 (maxI s1.2 v5)), (8, .ro (a0.map cSStroke)), (9, .int .i64 (a0.length : Int)), (10, .int .i64 s1.1)]⟩, [.live .norm 2 [[.int .i64 v4.Actuator, .bool v4.Out]]]⟩) (by kernel_rfl) ?_
      refine Gh_at (s1 := ⟨⟨21, [(1, .fn 77 [.pro [.ro (a1.map cSTravel)]]), (5, .int .i64 (maxI s1.2 v5)), (8, .ro (a0.map cSStroke)), (9, .int .i64 (a0.length : Int)), (10, .int .i64 s1.1)]⟩, [.live .norm 2 [[.int .i64 v4.Actuator, .bool v4.Out]]]⟩) (by kernel_rfl) ?_
      refine Gh_trunc (s1 := ⟨⟨21, [(1, .fn 77 [.pro [.ro (a1.map cSTravel)]]), (5, .int .i64 (maxI s1.2 v5)), (8, .ro (a0.map cSStroke)), (9, .int .i64 (a0.length : Int)), (10, .int .i64 s1.1)]⟩, []⟩) (by kernel_rfl) (tb_free (bels_cons (bels_cons (ro_bel okSTravel.bel _) rfl) rfl) (tb_free rfl (tb_free (ro_bel okSStroke.bel _) (tb_free rfl (tb_free rfl rfl))))) (H1 := []) (by kernel_rfl) rfl (by kernel_rfl) ?_
      refine Gh_nil ?_
      refine W_gh ?_
      refine W_reg ?_
      refine O_ps 2 (by kernel_rfl) ?_
      refine O_nil ?_
      refine Gh_end (s1 := ⟨⟨21, [(1, .fn 77 [.pro [.ro (a1.map cSTravel)]]), (5, .int .i64 (maxI s1.2 v5)), (8, .ro (a0.map cSStroke)), (9, .int .i64 (a0.length : Int)), (10, .int .i64 (addI .i64 s1.1 1))]⟩, []⟩) _ (by kernel_rfl) ?_
      refine Gh_one (s1 := ⟨⟨21, [(1, .fn 77 [.pro [.ro (a1.map cSTravel)]]), (5, .int .i64 (maxI s1.2 v5)), (8, .ro (a0.map cSStroke)), (9, .int .i64 (a0.length : Int)), (10, .int .i64 (addI .i64 s1.1 1))]⟩, []⟩) (by kernel_rfl) ?_
      refine Gh_trunc0 (by kernel_rfl) ?_
      refine Gh_nil ?_
      replace h := Option.some.inj h; subst h
      exact ⟨_, rfl, by kernel_rfl⟩
    · replace h := fork_f c3 h
      refine W_exit ?_
      refine X_hit ?_
      refine Gh_one (s1 := ⟨⟨21, [(1, .fn 77 [.pro [.ro (a1.map cSTravel)]]), (5, .int .i64 s1.2)]⟩, []⟩) (by kernel_rfl) ?_
      refine Gh_trunc0 (by kernel_rfl) ?_
      refine Gh_nil ?_
      replace h := Option.some.inj h; subst h
      exact ⟨_, rfl, by kernel_rfl⟩
  · refine W_seq ?_
    refine W_gh ?_
    refine W_reg ?_
    refine O_ps 2 (by kernel_rfl) ?_
    refine O_nil ?_
    refine Gh_end (s1 := ⟨⟨21, [(1, .fn 77 [.pro [.ro (a1.map cSTravel)]]), (4, .int .i64 w2)]⟩, []⟩) _ (by kernel_rfl) ?_
    refine W_ret ?_
    replace h := Option.some.inj h; subst h
    exact Fin_free (l := [.int .i64 w2]) (by kernel_rfl) (by kernel_rfl) rfl

theorem p57 (a0 : SPlant) (a1 : SStep) (r : SSpan) (h : m57 a0 a1 = some r) : Pt E0 hp 57 [.agg (cSPlant a0), .agg (cSStep a1)] (.agg [.int .i64 r.Low, .int .i64 r.High]) := by
  unfold m57 at h
  refine Pt_W (fn57) rfl (by decide) ?_
  refine W_seq ?_
  refine W_gh ?_
  refine W_reg ?_
  refine O_ps 3 (by kernel_rfl) ?_
  refine O_nil ?_
  refine Gh_end (s1 := ⟨⟨14, [(2, .pown 0 1 0 0), (3, .pown 1 1 0 0), (4, .pown 2 1 0 0)]⟩, [.live .norm 1 [[.ro (a0.Travels.map cSTravel)]], .live .norm 2 [[.ro (a1.Strokes.map cSStroke), .int .i64 a1.Wait]], .live .norm 2 [[.int .i64 0, .int .i64 0]]]⟩) _ (by kernel_rfl) ?_
  refine W_seq ?_
  refine W_gh ?_
  refine W_draw ?_
  refine O_ps 3 (by kernel_rfl) ?_
  refine O_lent (fun v => .int .i64 v) h (.inr rfl) (ys := [.ro (a1.Strokes.map cSStroke), .fn 76 [.pro [.ro (a0.Travels.map cSTravel)]]]) (fun _ e => p75_76 _ _ _ e) (by kernel_rfl) (snaps_of (xs := [.ro (a1.Strokes.map cSStroke), .fn 76 [.pown 0 1 0 0]]) (by kernel_rfl) (mapO_cons (pk_free (ro_bel okSStroke.bel _)) (mapO_cons (pk_fn (d := 5) (mapO_cons (pkc_box (id := 0) (nl := .norm) (sz := 1) (cs := [.ro (a0.Travels.map cSTravel)]) (by kernel_rfl) (mapO_bels (bels_cons (ro_bel okSTravel.bel _) rfl))) rfl)) rfl))) (fun _ => rfl) (fun v1 e_v1 h => ?_)
  refine O_ps 3 (by kernel_rfl) ?_
  refine O_lent (fun v => .int .i64 v) h (.inr rfl) (ys := [.ro (a1.Strokes.map cSStroke), .fn 77 [.pro [.ro (a0.Travels.map cSTravel)]]]) (fun _ e => p75_77 _ _ _ e) (by kernel_rfl) (snaps_of (xs := [.ro (a1.Strokes.map cSStroke), .fn 77 [.pown 0 1 0 0]]) (by kernel_rfl) (mapO_cons (pk_free (ro_bel okSStroke.bel _)) (mapO_cons (pk_fn (d := 5) (mapO_cons (pkc_box (id := 0) (nl := .norm) (sz := 1) (cs := [.ro (a0.Travels.map cSTravel)]) (by kernel_rfl) (mapO_bels (bels_cons (ro_bel okSTravel.bel _) rfl))) rfl)) rfl))) (fun _ => rfl) (fun v2 e_v2 h => ?_)
  refine O_ps 2 (by kernel_rfl) ?_
  refine O_nil ?_
  refine Gh_end (s1 := ⟨⟨14, [(4, .pown 2 1 0 0)]⟩, [.live .norm 1 [[.ro (a0.Travels.map cSTravel)]], .live .norm 2 [[.ro (a1.Strokes.map cSStroke), .int .i64 a1.Wait]], .live .norm 2 [[.int .i64 v1, .int .i64 v2]]]⟩) _ (by kernel_rfl) ?_
  refine W_ret ?_
  replace h := Option.some.inj h; subst h
  exact Fin_free (l := [.agg [.int .i64 v1, .int .i64 v2]]) (by kernel_rfl) (by kernel_rfl) rfl

theorem p54 (a0 : SSpan) (a1 : SSpan) (r : SSpan) (h : m54 a0 a1 = some r) : Pt E0 hp 54 [.agg (cSSpan a0), .agg (cSSpan a1)] (.agg [.int .i64 r.Low, .int .i64 r.High]) := by
  unfold m54 at h
  refine Pt_W (fn54) rfl (by decide) ?_
  refine W_seq ?_
  refine W_gh ?_
  refine W_reg ?_
  refine O_ps 3 (by kernel_rfl) ?_
  refine O_nil ?_
  refine Gh_end (s1 := ⟨⟨16, [(2, .pown 0 1 0 0), (3, .pown 1 1 0 0), (4, .pown 2 1 0 0)]⟩, [.live .norm 2 [[.int .i64 a0.Low, .int .i64 a0.High]], .live .norm 2 [[.int .i64 a1.Low, .int .i64 a1.High]], .live .norm 2 [[.int .i64 0, .int .i64 0]]]⟩) _ (by kernel_rfl) ?_
  refine W_seq ?_
  refine W_gh ?_
  refine W_reg ?_
  refine O_ps 12 (by kernel_rfl) ?_
  refine O_nil ?_
  refine Gh_end (s1 := ⟨⟨16, [(4, .pown 2 1 0 0)]⟩, [.live .norm 2 [[.int .i64 a0.Low, .int .i64 a0.High]], .live .norm 2 [[.int .i64 a1.Low, .int .i64 a1.High]], .live .norm 2 [[.int .i64 (addI .i64 a0.Low a1.Low), .int .i64 (addI .i64 a0.High a1.High)]]]⟩) _ (by kernel_rfl) ?_
  refine W_ret ?_
  replace h := Option.some.inj h; subst h
  exact Fin_free (l := [.agg [.int .i64 (addI .i64 a0.Low a1.Low), .int .i64 (addI .i64 a0.High a1.High)]]) (by kernel_rfl) (by kernel_rfl) rfl

theorem p56 (a0 : SSpan) (a1 : Int) (r : SSpan) (h : m56 a0 a1 = some r) : Pt E0 hp 56 [.agg (cSSpan a0), .int .i64 a1] (.agg [.int .i64 r.Low, .int .i64 r.High]) := by
  unfold m56 at h
  refine Pt_W (fn56) rfl (by decide) ?_
  refine W_seq ?_
  refine W_gh ?_
  refine W_reg ?_
  refine O_ps 2 (by kernel_rfl) ?_
  refine O_nil ?_
  refine Gh_end (s1 := ⟨⟨10, [(1, .int .i64 a1), (2, .pown 0 1 0 0), (4, .pown 1 1 0 0)]⟩, [.live .norm 2 [[.int .i64 a0.Low, .int .i64 a0.High]], .live .norm 2 [[.int .i64 0, .int .i64 0]]]⟩) _ (by kernel_rfl) ?_
  refine W_seq ?_
  refine W_gh ?_
  refine W_reg ?_
  refine O_ps 4 (by kernel_rfl) ?_
  refine O_call (fun v => .agg [.int .i64 v.Low, .int .i64 v.High]) h (.inr rfl) (ys := [.agg (cSSpan a0), .agg (cSSpan (⟨a1, a1⟩ : SSpan))]) (fun _ e => p54 _ _ _ e) (by kernel_rfl) (by kernel_rfl) (bels_cons (okSSpan.bel _) (bels_cons (okSSpan.bel _) rfl)) (fun v1 e_v1 h => ?_)
  refine O_ps 1 (by kernel_rfl) ?_
  refine O_nil ?_
  refine Gh_end (s1 := ⟨⟨10, [(4, .pown 1 1 0 0)]⟩, [.live .norm 2 [[.int .i64 a0.Low, .int .i64 a0.High]], .live .norm 2 [[.int .i64 v1.Low, .int .i64 v1.High]]]⟩) _ (by kernel_rfl) ?_
  refine W_ret ?_
  replace h := Option.some.inj h; subst h
  exact Fin_free (l := [.agg [.int .i64 v1.Low, .int .i64 v1.High]]) (by kernel_rfl) (by kernel_rfl) rfl

theorem w1 (lid : Nat) (n : Int) (l : List SStep) (p : List STravel) : W E0 hp R1 0 (fun s => s = ⟨⟨36, [(0, .yld lid), (1, .pro [.int .i64 n, .ro (l.map cSStep)]), (2, .pro [.ro (p.map cSTravel)]), (4, .pown 0 1 0 0)]⟩, [.live .norm 2 [[.int .i64 0, .int .i64 0]]]⟩) (fun _ _ => False) (fun _ => False) ⟨⟨36, [(0, .yld lid), (1, .pro [.int .i64 n, .ro (l.map cSStep)]), (2, .pro [.ro (p.map cSTravel)])]⟩, []⟩ := by
  refine W_reg ?_
  refine O_ps 1 (by kernel_rfl) ?_
  refine O_nil ?_
  show _ = _
  kernel_rfl

theorem w2 (lid : Nat) (n : Int) (l : List SStep) (p : List STravel) : W E0 hp R2 0 (fun s => s = ⟨⟨36, [(0, .yld lid), (2, .pro [.ro (p.map cSTravel)]), (4, .pown 0 1 0 0), (10, .ro (l.map cSStep)), (11, .int .i64 (l.length : Int)), (12, .int .i64 0)]⟩, [.live .norm 2 [[.int .i64 0, .int .i64 0]]]⟩) (fun _ _ => False) (fun _ => False) ⟨⟨36, [(0, .yld lid), (1, .pro [.int .i64 n, .ro (l.map cSStep)]), (2, .pro [.ro (p.map cSTravel)]), (4, .pown 0 1 0 0)]⟩, [.live .norm 2 [[.int .i64 0, .int .i64 0]]]⟩ := by
  refine W_gh ?_
  refine W_reg ?_
  refine O_ps 2 (by kernel_rfl) ?_
  refine O_len (l := l) cSStep (by kernel_rfl) (by kernel_rfl) ?_
  refine O_ps 1 (by kernel_rfl) ?_
  refine O_nil ?_
  refine Gh_end (s1 := ⟨⟨36, [(0, .yld lid), (2, .pro [.ro (p.map cSTravel)]), (4, .pown 0 1 0 0), (10, .ro (l.map cSStep)), (11, .int .i64 (l.length : Int)), (12, .int .i64 0)]⟩, [.live .norm 2 [[.int .i64 0, .int .i64 0]]]⟩) _ (by kernel_rfl) ?_
  show _ = _
  kernel_rfl

theorem w3 (lid : Nat) (l : List SStep) (p : List STravel) (now : SSpan) (k : Int) : W E0 hp R3 0 (fun s => s = ⟨⟨36, [(0, .yld lid), (2, .pro [.ro (p.map cSTravel)]), (4, .pown 0 1 0 0), (10, .ro (l.map cSStep)), (11, .int .i64 (l.length : Int)), (12, .int .i64 k), (13, .bool (decide (k < (l.length : Int))))]⟩, [.live .norm 2 [[.int .i64 now.Low, .int .i64 now.High]]]⟩) (fun _ _ => False) (fun _ => False) ⟨⟨36, [(0, .yld lid), (2, .pro [.ro (p.map cSTravel)]), (4, .pown 0 1 0 0), (10, .ro (l.map cSStep)), (11, .int .i64 (l.length : Int)), (12, .int .i64 k)]⟩, [.live .norm 2 [[.int .i64 now.Low, .int .i64 now.High]]]⟩ := by
  refine W_reg ?_
  refine O_ps 1 (by kernel_rfl) ?_
  refine O_nil ?_
  show _ = _
  kernel_rfl

theorem w4t (lid : Nat) (l : List SStep) (p : List STravel) (now : SSpan) (k : Int) : W E0 hp R4 0 (fun s => s = ⟨⟨36, [(0, .yld lid), (2, .pro [.ro (p.map cSTravel)]), (4, .pown 0 1 0 0), (10, .ro (l.map cSStep)), (11, .int .i64 (l.length : Int)), (12, .int .i64 k)]⟩, [.live .norm 2 [[.int .i64 now.Low, .int .i64 now.High]]]⟩) (fun _ _ => False) (fun _ => False) ⟨⟨36, [(0, .yld lid), (2, .pro [.ro (p.map cSTravel)]), (4, .pown 0 1 0 0), (10, .ro (l.map cSStep)), (11, .int .i64 (l.length : Int)), (12, .int .i64 k), (13, .bool true)]⟩, [.live .norm 2 [[.int .i64 now.Low, .int .i64 now.High]]]⟩ := by
  refine W_gh ?_
  refine W_cond (c := true) (by kernel_rfl) (fun _ => ?_) (fun e => by cases e)
  refine W_skip ?_
  refine Gh_end (s1 := ⟨⟨36, [(0, .yld lid), (2, .pro [.ro (p.map cSTravel)]), (4, .pown 0 1 0 0), (10, .ro (l.map cSStep)), (11, .int .i64 (l.length : Int)), (12, .int .i64 k)]⟩, [.live .norm 2 [[.int .i64 now.Low, .int .i64 now.High]]]⟩) _ (by kernel_rfl) ?_
  show _ = _
  kernel_rfl

theorem w4f (lid : Nat) (l : List SStep) (p : List STravel) (now : SSpan) (k : Int) : W E0 hp R4 0 (fun _ => False) (fun i s => i = 0 ∧ s = ⟨⟨36, [(0, .yld lid), (2, .pro [.ro (p.map cSTravel)]), (4, .pown 0 1 0 0), (10, .ro (l.map cSStep)), (11, .int .i64 (l.length : Int)), (12, .int .i64 k), (13, .bool false)]⟩, [.live .norm 2 [[.int .i64 now.Low, .int .i64 now.High]]]⟩) (fun _ => False) ⟨⟨36, [(0, .yld lid), (2, .pro [.ro (p.map cSTravel)]), (4, .pown 0 1 0 0), (10, .ro (l.map cSStep)), (11, .int .i64 (l.length : Int)), (12, .int .i64 k), (13, .bool false)]⟩, [.live .norm 2 [[.int .i64 now.Low, .int .i64 now.High]]]⟩ := by
  refine W_gh ?_
  refine W_cond (c := false) (by kernel_rfl) (fun e => by cases e) (fun _ => ?_)
  refine W_exit ?_
  exact ⟨rfl, by kernel_rfl⟩

theorem w5 (lid : Nat) (l : List SStep) (p : List STravel) (now : SSpan) (k : Int) (r : SStep) (h : ((idx l k).bind fun v1 => some v1) = some r) : W E0 hp R5 0 (fun s => s = ⟨⟨36, [(0, .yld lid), (2, .pro [.ro (p.map cSTravel)]), (4, .pown 0 1 0 0), (5, .int .i64 k), (6, .pown 1 1 0 0), (10, .ro (l.map cSStep)), (11, .int .i64 (l.length : Int)), (12, .int .i64 k)]⟩, [.live .norm 2 [[.int .i64 now.Low, .int .i64 now.High]], .live .norm 2 [[.ro (r.Strokes.map cSStroke), .int .i64 r.Wait]]]⟩) (fun _ _ => False) (fun _ => False) ⟨⟨36, [(0, .yld lid), (2, .pro [.ro (p.map cSTravel)]), (4, .pown 0 1 0 0), (10, .ro (l.map cSStep)), (11, .int .i64 (l.length : Int)), (12, .int .i64 k)]⟩, [.live .norm 2 [[.int .i64 now.Low, .int .i64 now.High]]]⟩ := by
  refine W_gh ?_
  refine W_reg ?_
  refine O_ps 1 (by kernel_rfl) ?_
  refine O_idx (kd := .i64) cSStep h (fun _ => rfl) (by kernel_rfl) (by kernel_rfl) (by kernel_rfl) (fun v1 e_v1 h => ?_)
  refine O_ps 4 (by kernel_rfl) ?_
  refine O_nil ?_
  refine Gh_end (s1 := ⟨⟨36, [(0, .yld lid), (2, .pro [.ro (p.map cSTravel)]), (4, .pown 0 1 0 0), (5, .int .i64 k), (6, .pown 1 1 0 0), (10, .ro (l.map cSStep)), (11, .int .i64 (l.length : Int)), (12, .int .i64 k)]⟩, [.live .norm 2 [[.int .i64 now.Low, .int .i64 now.High]], .live .norm 2 [[.ro (v1.Strokes.map cSStroke), .int .i64 v1.Wait]]]⟩) _ (by kernel_rfl) ?_
  replace h := Option.some.inj h; subst h
  show _ = _
  kernel_rfl

theorem w6 (lid : Nat) (l : List SStep) (p : List STravel) (now : SSpan) (k : Int) (x : SStep) (r : SSpan) (h : ((m57 (⟨p⟩ : SPlant) x).bind fun v1 => (m54 now v1).bind fun v2 => some v2) = some r) : W E0 hp R6 0 (fun s => s = ⟨⟨36, [(0, .yld lid), (2, .pro [.ro (p.map cSTravel)]), (4, .pown 0 1 0 0), (5, .int .i64 k), (6, .pown 1 1 0 0), (7, .pown 2 1 0 0), (10, .ro (l.map cSStep)), (11, .int .i64 (l.length : Int)), (12, .int .i64 k)]⟩, [.live .norm 2 [[.int .i64 now.Low, .int .i64 now.High]], .live .norm 2 [[.ro (x.Strokes.map cSStroke), .int .i64 x.Wait]], .live .norm 2 [[.int .i64 r.Low, .int .i64 r.High]]]⟩) (fun _ _ => False) (fun _ => False) ⟨⟨36, [(0, .yld lid), (2, .pro [.ro (p.map cSTravel)]), (4, .pown 0 1 0 0), (5, .int .i64 k), (6, .pown 1 1 0 0), (10, .ro (l.map cSStep)), (11, .int .i64 (l.length : Int)), (12, .int .i64 k)]⟩, [.live .norm 2 [[.int .i64 now.Low, .int .i64 now.High]], .live .norm 2 [[.ro (x.Strokes.map cSStroke), .int .i64 x.Wait]]]⟩ := by
  refine W_gh ?_
  refine W_drawW (L := 2) (by kernel_rfl) ?_
  refine WD_ps 3 (by kernel_rfl) ?_
  refine WD_op rfl (fp_call (ys := [.agg [.ro (p.map cSTravel)], .agg [.ro (x.Strokes.map cSStroke), .int .i64 x.Wait]]) (by kernel_rfl) (bels_cons (bels_cons (ro_bel okSTravel.bel _) rfl) (bels_cons (bels_cons (ro_bel okSStroke.bel _) (bels_cons rfl rfl)) rfl))) ?_
  refine O_call (fun v => .agg [.int .i64 v.Low, .int .i64 v.High]) h (.inr rfl) (ys := [.agg (cSPlant (⟨p⟩ : SPlant)), .agg (cSStep x)]) (fun _ e => p57 _ _ _ e) (by kernel_rfl) (by kernel_rfl) (bels_cons (okSPlant.bel _) (bels_cons (okSStep.bel _) rfl)) (fun v1 e_v1 h => ?_)
  refine O_nil ?_
  refine WD_op rfl (fp_call (ys := [.agg [.int .i64 now.Low, .int .i64 now.High], .agg [.int .i64 v1.Low, .int .i64 v1.High]]) (by kernel_rfl) (bels_cons rfl (bels_cons rfl rfl))) ?_
  refine O_call (fun v => .agg [.int .i64 v.Low, .int .i64 v.High]) h (.inr rfl) (ys := [.agg (cSSpan now), .agg (cSSpan v1)]) (fun _ e => p54 _ _ _ e) (by kernel_rfl) (by kernel_rfl) (bels_cons (okSSpan.bel _) (bels_cons (okSSpan.bel _) rfl)) (fun v2 e_v2 h => ?_)
  refine O_nil ?_
  refine WD_ps 2 (by kernel_rfl) ?_
  refine WD_nil ?_
  refine ⟨by kernel_rfl, ?_⟩
  refine Gh_end (s1 := ⟨⟨36, [(0, .yld lid), (2, .pro [.ro (p.map cSTravel)]), (4, .pown 0 1 0 0), (5, .int .i64 k), (6, .pown 1 1 0 0), (7, .pown 2 1 0 0), (10, .ro (l.map cSStep)), (11, .int .i64 (l.length : Int)), (12, .int .i64 k)]⟩, [.live .norm 2 [[.int .i64 now.Low, .int .i64 now.High]], .live .norm 2 [[.ro (x.Strokes.map cSStroke), .int .i64 x.Wait]], .live .norm 2 [[.int .i64 v2.Low, .int .i64 v2.High]]]⟩) _ (by kernel_rfl) ?_
  replace h := Option.some.inj h; subst h
  show _ = _
  kernel_rfl

theorem w7 (lid : Nat) (l : List SStep) (p : List STravel) (now : SSpan) (k : Int) (x : SStep) (mv : SSpan) (r : SSpan) (h : ((m56 mv x.Wait).bind fun v1 => some v1) = some r) : W E0 hp R7 0 (fun s => s = ⟨⟨36, [(0, .yld lid), (2, .pro [.ro (p.map cSTravel)]), (4, .pown 0 1 0 0), (5, .int .i64 k), (7, .pown 2 1 0 0), (8, .pown 3 1 0 0), (10, .ro (l.map cSStep)), (11, .int .i64 (l.length : Int)), (12, .int .i64 k)]⟩, [.live .norm 2 [[.int .i64 now.Low, .int .i64 now.High]], .live .norm 2 [[.ro (x.Strokes.map cSStroke), .int .i64 x.Wait]], .live .norm 2 [[.int .i64 mv.Low, .int .i64 mv.High]], .live .norm 2 [[.int .i64 r.Low, .int .i64 r.High]]]⟩) (fun _ _ => False) (fun _ => False) ⟨⟨36, [(0, .yld lid), (2, .pro [.ro (p.map cSTravel)]), (4, .pown 0 1 0 0), (5, .int .i64 k), (6, .pown 1 1 0 0), (7, .pown 2 1 0 0), (10, .ro (l.map cSStep)), (11, .int .i64 (l.length : Int)), (12, .int .i64 k)]⟩, [.live .norm 2 [[.int .i64 now.Low, .int .i64 now.High]], .live .norm 2 [[.ro (x.Strokes.map cSStroke), .int .i64 x.Wait]], .live .norm 2 [[.int .i64 mv.Low, .int .i64 mv.High]]]⟩ := by
  refine W_gh ?_
  refine W_reg ?_
  refine O_ps 3 (by kernel_rfl) ?_
  refine O_call (fun v => .agg [.int .i64 v.Low, .int .i64 v.High]) h (.inr rfl) (ys := [.agg (cSSpan mv), .int .i64 x.Wait]) (fun _ e => p56 _ _ _ e) (by kernel_rfl) (by kernel_rfl) (bels_cons (okSSpan.bel _) (bels_cons rfl rfl)) (fun v1 e_v1 h => ?_)
  refine O_ps 2 (by kernel_rfl) ?_
  refine O_nil ?_
  refine Gh_end (s1 := ⟨⟨36, [(0, .yld lid), (2, .pro [.ro (p.map cSTravel)]), (4, .pown 0 1 0 0), (5, .int .i64 k), (7, .pown 2 1 0 0), (8, .pown 3 1 0 0), (10, .ro (l.map cSStep)), (11, .int .i64 (l.length : Int)), (12, .int .i64 k)]⟩, [.live .norm 2 [[.int .i64 now.Low, .int .i64 now.High]], .live .norm 2 [[.ro (x.Strokes.map cSStroke), .int .i64 x.Wait]], .live .norm 2 [[.int .i64 mv.Low, .int .i64 mv.High]], .live .norm 2 [[.int .i64 v1.Low, .int .i64 v1.High]]]⟩) _ (by kernel_rfl) ?_
  replace h := Option.some.inj h; subst h
  show _ = _
  kernel_rfl

theorem w11 (lid : Nat) (l : List SStep) (p : List STravel) (now : SSpan) (k : Int) : W E0 hp R11 0 (fun s => s = ⟨⟨36, [(0, .yld lid), (2, .pro [.ro (p.map cSTravel)]), (4, .pown 0 1 0 0), (10, .ro (l.map cSStep)), (11, .int .i64 (l.length : Int)), (12, .int .i64 (addI .i64 k 1))]⟩, [.live .norm 2 [[.int .i64 now.Low, .int .i64 now.High]]]⟩) (fun _ _ => False) (fun _ => False) ⟨⟨36, [(0, .yld lid), (2, .pro [.ro (p.map cSTravel)]), (4, .pown 0 1 0 0), (10, .ro (l.map cSStep)), (11, .int .i64 (l.length : Int)), (12, .int .i64 k)]⟩, [.live .norm 2 [[.int .i64 now.Low, .int .i64 now.High]]]⟩ := by
  refine W_gh ?_
  refine W_reg ?_
  refine O_ps 2 (by kernel_rfl) ?_
  refine O_nil ?_
  refine Gh_end (s1 := ⟨⟨36, [(0, .yld lid), (2, .pro [.ro (p.map cSTravel)]), (4, .pown 0 1 0 0), (10, .ro (l.map cSStep)), (11, .int .i64 (l.length : Int)), (12, .int .i64 (addI .i64 k 1))]⟩, [.live .norm 2 [[.int .i64 now.Low, .int .i64 now.High]]]⟩) _ (by kernel_rfl) ?_
  show _ = _
  kernel_rfl

theorem w10 (lid : Nat) (l : List SStep) (p : List STravel) (now : SSpan) (k : Int) (x : SStep) (mv : SSpan) (e : SSpan) : W E0 hp R10 0 (fun s => s = ⟨⟨36, [(0, .yld lid), (2, .pro [.ro (p.map cSTravel)]), (4, .pown 0 1 0 0), (10, .ro (l.map cSStep)), (11, .int .i64 (l.length : Int)), (12, .int .i64 k)]⟩, [.live .norm 2 [[.int .i64 e.Low, .int .i64 e.High]], .live .norm 2 [[.ro (x.Strokes.map cSStroke), .int .i64 x.Wait]], .live .norm 2 [[.int .i64 mv.Low, .int .i64 mv.High]], .live .norm 2 [[.int .i64 e.Low, .int .i64 e.High]]]⟩) (fun _ _ => False) (fun _ => False) ⟨⟨36, [(0, .yld lid), (2, .pro [.ro (p.map cSTravel)]), (4, .pown 0 1 0 0), (8, .pown 3 1 0 0), (10, .ro (l.map cSStep)), (11, .int .i64 (l.length : Int)), (12, .int .i64 k)]⟩, [.live .norm 2 [[.int .i64 now.Low, .int .i64 now.High]], .live .norm 2 [[.ro (x.Strokes.map cSStroke), .int .i64 x.Wait]], .live .norm 2 [[.int .i64 mv.Low, .int .i64 mv.High]], .live .norm 2 [[.int .i64 e.Low, .int .i64 e.High]]]⟩ := by
  refine W_gh ?_
  refine W_reg ?_
  refine O_ps 2 (by kernel_rfl) ?_
  refine O_nil ?_
  refine Gh_end (s1 := ⟨⟨36, [(0, .yld lid), (2, .pro [.ro (p.map cSTravel)]), (4, .pown 0 1 0 0), (10, .ro (l.map cSStep)), (11, .int .i64 (l.length : Int)), (12, .int .i64 k)]⟩, [.live .norm 2 [[.int .i64 e.Low, .int .i64 e.High]], .live .norm 2 [[.ro (x.Strokes.map cSStroke), .int .i64 x.Wait]], .live .norm 2 [[.int .i64 mv.Low, .int .i64 mv.High]], .live .norm 2 [[.int .i64 e.Low, .int .i64 e.High]]]⟩) _ (by kernel_rfl) ?_
  show _ = _
  kernel_rfl

theorem w9t (lid : Nat) (l : List SStep) (p : List STravel) (now : SSpan) (k : Int) (x : SStep) (mv : SSpan) (e : SSpan) : W E0 hp R9 0 (fun _ => False) (fun _ _ => False) (fun s => s = ⟨⟨36, [(0, .yld lid), (2, .pro [.ro (p.map cSTravel)]), (4, .pown 0 1 0 0), (8, .pown 3 1 0 0), (10, .ro (l.map cSStep)), (11, .int .i64 (l.length : Int)), (12, .int .i64 k), (33, .bool true)]⟩, [.live .norm 2 [[.int .i64 now.Low, .int .i64 now.High]], .live .norm 2 [[.ro (x.Strokes.map cSStroke), .int .i64 x.Wait]], .live .norm 2 [[.int .i64 mv.Low, .int .i64 mv.High]], .live .norm 2 [[.int .i64 e.Low, .int .i64 e.High]]]⟩) ⟨⟨36, [(0, .yld lid), (2, .pro [.ro (p.map cSTravel)]), (4, .pown 0 1 0 0), (8, .pown 3 1 0 0), (10, .ro (l.map cSStep)), (11, .int .i64 (l.length : Int)), (12, .int .i64 k), (33, .bool true)]⟩, [.live .norm 2 [[.int .i64 now.Low, .int .i64 now.High]], .live .norm 2 [[.ro (x.Strokes.map cSStroke), .int .i64 x.Wait]], .live .norm 2 [[.int .i64 mv.Low, .int .i64 mv.High]], .live .norm 2 [[.int .i64 e.Low, .int .i64 e.High]]]⟩ := by
  refine W_gh ?_
  refine W_cond (c := true) (by kernel_rfl) (fun _ => ?_) (fun e => by cases e)
  refine W_ret ?_
  show _ = _
  kernel_rfl

theorem w9f (lid : Nat) (l : List SStep) (p : List STravel) (now : SSpan) (k : Int) (x : SStep) (mv : SSpan) (e : SSpan) : W E0 hp R9 0 (fun s => s = ⟨⟨36, [(0, .yld lid), (2, .pro [.ro (p.map cSTravel)]), (4, .pown 0 1 0 0), (8, .pown 3 1 0 0), (10, .ro (l.map cSStep)), (11, .int .i64 (l.length : Int)), (12, .int .i64 k)]⟩, [.live .norm 2 [[.int .i64 now.Low, .int .i64 now.High]], .live .norm 2 [[.ro (x.Strokes.map cSStroke), .int .i64 x.Wait]], .live .norm 2 [[.int .i64 mv.Low, .int .i64 mv.High]], .live .norm 2 [[.int .i64 e.Low, .int .i64 e.High]]]⟩) (fun _ _ => False) (fun _ => False) ⟨⟨36, [(0, .yld lid), (2, .pro [.ro (p.map cSTravel)]), (4, .pown 0 1 0 0), (8, .pown 3 1 0 0), (10, .ro (l.map cSStep)), (11, .int .i64 (l.length : Int)), (12, .int .i64 k), (33, .bool false)]⟩, [.live .norm 2 [[.int .i64 now.Low, .int .i64 now.High]], .live .norm 2 [[.ro (x.Strokes.map cSStroke), .int .i64 x.Wait]], .live .norm 2 [[.int .i64 mv.Low, .int .i64 mv.High]], .live .norm 2 [[.int .i64 e.Low, .int .i64 e.High]]]⟩ := by
  refine W_gh ?_
  refine W_cond (c := false) (by kernel_rfl) (fun e => by cases e) (fun _ => ?_)
  refine W_skip ?_
  refine Gh_end (s1 := ⟨⟨36, [(0, .yld lid), (2, .pro [.ro (p.map cSTravel)]), (4, .pown 0 1 0 0), (8, .pown 3 1 0 0), (10, .ro (l.map cSStep)), (11, .int .i64 (l.length : Int)), (12, .int .i64 k)]⟩, [.live .norm 2 [[.int .i64 now.Low, .int .i64 now.High]], .live .norm 2 [[.ro (x.Strokes.map cSStroke), .int .i64 x.Wait]], .live .norm 2 [[.int .i64 mv.Low, .int .i64 mv.High]], .live .norm 2 [[.int .i64 e.Low, .int .i64 e.High]]]⟩) _ (by kernel_rfl) ?_
  show _ = _
  kernel_rfl

theorem wg (lid : Nat) (l : List SStep) (p : List STravel) (now : SSpan) (k : Int) (x : SStep) (mv : SSpan) (e : SSpan) : W E0 hp RG 0 (fun s => s = ⟨⟨36, [(0, .yld lid), (2, .pro [.ro (p.map cSTravel)]), (4, .pown 0 1 0 0), (10, .ro (l.map cSStep)), (11, .int .i64 (l.length : Int)), (12, .int .i64 k)]⟩, [.live .norm 2 [[.int .i64 now.Low, .int .i64 now.High]]]⟩) (fun _ _ => False) (fun _ => False) ⟨⟨36, [(0, .yld lid), (2, .pro [.ro (p.map cSTravel)]), (4, .pown 0 1 0 0), (10, .ro (l.map cSStep)), (11, .int .i64 (l.length : Int)), (12, .int .i64 k)]⟩, [.live .norm 2 [[.int .i64 now.Low, .int .i64 now.High]], .live .norm 2 [[.ro (x.Strokes.map cSStroke), .int .i64 x.Wait]], .live .norm 2 [[.int .i64 mv.Low, .int .i64 mv.High]], .live .norm 2 [[.int .i64 e.Low, .int .i64 e.High]]]⟩ := by
  refine W_gh ?_
  refine W_skip ?_
  refine Gh_at (s1 := ⟨⟨36, [(0, .yld lid), (2, .pro [.ro (p.map cSTravel)]), (4, .pown 0 1 0 0), (10, .ro (l.map cSStep)), (11, .int .i64 (l.length : Int)), (12, .int .i64 k)]⟩, [.live .norm 2 [[.int .i64 now.Low, .int .i64 now.High]], .live .norm 2 [[.ro (x.Strokes.map cSStroke), .int .i64 x.Wait]], .live .norm 2 [[.int .i64 mv.Low, .int .i64 mv.High]], .live .norm 2 [[.int .i64 e.Low, .int .i64 e.High]]]⟩) (by kernel_rfl) ?_
  refine Gh_trunc (s1 := ⟨⟨36, [(0, .yld lid), (2, .pro [.ro (p.map cSTravel)]), (4, .pown 0 1 0 0), (10, .ro (l.map cSStep)), (11, .int .i64 (l.length : Int)), (12, .int .i64 k)]⟩, [.live .norm 2 [[.int .i64 now.Low, .int .i64 now.High]]]⟩) (by kernel_rfl) (tb_free rfl (tb_free (bels_cons (ro_bel okSTravel.bel _) rfl) (tb_ref rfl (tb_free (ro_bel okSStep.bel _) (tb_free rfl (tb_free rfl rfl)))))) (H1 := [.live .norm 2 [[.int .i64 now.Low, .int .i64 now.High]]]) (by kernel_rfl) (ob_boxn (bn_free rfl (bn_free rfl rfl)) rfl) (by kernel_rfl) ?_
  refine Gh_nil ?_
  show _ = _
  kernel_rfl

theorem w8 (lid : Nat) (l : List SStep) (p : List STravel) (now : SSpan) (k : Int) (x : SStep) (mv : SSpan) (e : SSpan) : WO E0 hp false (O8.take 6) ⟨36, [(0, .yld lid), (2, .pro [.ro (p.map cSTravel)]), (4, .pown 0 1 0 0), (5, .int .i64 k), (7, .pown 2 1 0 0), (8, .pown 3 1 0 0), (10, .ro (l.map cSStep)), (11, .int .i64 (l.length : Int)), (12, .int .i64 k)]⟩ [.live .norm 2 [[.int .i64 now.Low, .int .i64 now.High]], .live .norm 2 [[.ro (x.Strokes.map cSStroke), .int .i64 x.Wait]], .live .norm 2 [[.int .i64 mv.Low, .int .i64 mv.High]], .live .norm 2 [[.int .i64 e.Low, .int .i64 e.High]]] (fun t H => (⟨t, H⟩ : As.ST) = ⟨⟨36, [(0, .yld lid), (2, .pro [.ro (p.map cSTravel)]), (4, .pown 0 1 0 0), (5, .int .i64 k), (7, .pown 2 1 0 0), (8, .pown 3 1 0 0), (10, .ro (l.map cSStep)), (11, .int .i64 (l.length : Int)), (12, .int .i64 k), (26, .yld lid), (27, .int .i64 k), (28, .agg [.int .i64 now.Low, .int .i64 now.High]), (29, .agg [.int .i64 mv.Low, .int .i64 mv.High]), (30, .agg [.int .i64 e.Low, .int .i64 e.High]), (31, .agg [.int .i64 now.Low, .int .i64 now.High, .int .i64 mv.Low, .int .i64 mv.High, .int .i64 e.Low, .int .i64 e.High])]⟩, [.live .norm 2 [[.int .i64 now.Low, .int .i64 now.High]], .live .norm 2 [[.ro (x.Strokes.map cSStroke), .int .i64 x.Wait]], .live .norm 2 [[.int .i64 mv.Low, .int .i64 mv.High]], .live .norm 2 [[.int .i64 e.Low, .int .i64 e.High]]]⟩) := by
  refine O_ps 6 (by kernel_rfl) ?_
  refine O_nil ?_
  show _ = _
  kernel_rfl

theorem w8b (lid : Nat) (l : List SStep) (p : List STravel) (now : SSpan) (k : Int) (x : SStep) (mv : SSpan) (e : SSpan) (b : Bool) : WO E0 hp false (O8.drop 7) ⟨36, [(0, .yld lid), (2, .pro [.ro (p.map cSTravel)]), (4, .pown 0 1 0 0), (5, .int .i64 k), (7, .pown 2 1 0 0), (8, .pown 3 1 0 0), (10, .ro (l.map cSStep)), (11, .int .i64 (l.length : Int)), (12, .int .i64 k), (26, .yld lid), (27, .int .i64 k), (28, .agg [.int .i64 now.Low, .int .i64 now.High]), (29, .agg [.int .i64 mv.Low, .int .i64 mv.High]), (30, .agg [.int .i64 e.Low, .int .i64 e.High]), (31, .agg [.int .i64 now.Low, .int .i64 now.High, .int .i64 mv.Low, .int .i64 mv.High, .int .i64 e.Low, .int .i64 e.High]), (32, .bool b)]⟩ [.live .norm 2 [[.int .i64 now.Low, .int .i64 now.High]], .live .norm 2 [[.ro (x.Strokes.map cSStroke), .int .i64 x.Wait]], .live .norm 2 [[.int .i64 mv.Low, .int .i64 mv.High]], .live .norm 2 [[.int .i64 e.Low, .int .i64 e.High]]] (fun t H => (⟨t, H⟩ : As.ST) = ⟨⟨36, [(0, .yld lid), (2, .pro [.ro (p.map cSTravel)]), (4, .pown 0 1 0 0), (5, .int .i64 k), (7, .pown 2 1 0 0), (8, .pown 3 1 0 0), (10, .ro (l.map cSStep)), (11, .int .i64 (l.length : Int)), (12, .int .i64 k), (26, .yld lid), (27, .int .i64 k), (28, .agg [.int .i64 now.Low, .int .i64 now.High]), (29, .agg [.int .i64 mv.Low, .int .i64 mv.High]), (30, .agg [.int .i64 e.Low, .int .i64 e.High]), (31, .agg [.int .i64 now.Low, .int .i64 now.High, .int .i64 mv.Low, .int .i64 mv.High, .int .i64 e.Low, .int .i64 e.High]), (32, .bool b), (33, .bool (!b))]⟩, [.live .norm 2 [[.int .i64 now.Low, .int .i64 now.High]], .live .norm 2 [[.ro (x.Strokes.map cSStroke), .int .i64 x.Wait]], .live .norm 2 [[.int .i64 mv.Low, .int .i64 mv.High]], .live .norm 2 [[.int .i64 e.Low, .int .i64 e.High]]]⟩) := by
  refine O_ps 1 (by kernel_rfl) ?_
  refine O_nil ?_
  show _ = _
  kernel_rfl
end G17.B
