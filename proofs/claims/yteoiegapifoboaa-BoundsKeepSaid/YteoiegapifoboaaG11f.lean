/- BoundsKeep returns true for all bounds and times. No condition. -/
import Derived.Test.YteoiegapifoboaaG11s
import Derived.Test.YteoiegapifoboaaG11h
import Derived.Test.YteoiegapifoboaaG11p1
import Derived.Test.YteoiegapifoboaaRows
import Derived.ProofKit
namespace Go.Proofs.Yteoiegapifoboaa
open Go Go.Pl Go.Am Go.Am.As Go.ChangeShapes Go.WideShapes Go.ChangeAt Go.RowKit
open G11 (OkB OkI SBounds E0)

set_option maxRecDepth 100000 in
theorem law11 (xs : List AV) (h : ShVs Try.prog 6 Try.f11.params.toList xs) : Pu E0 G11.hp 11 xs (.bool true) := by
  rw [Try.params11] at h
  obtain ⟨x0, xs, rfl⟩ : ∃ x r, xs = x :: r := by cases xs with | nil => exact h.elim | cons x r => exact ⟨x, r, rfl⟩
  obtain ⟨h0, h⟩ := h
  obtain ⟨x1, xs, rfl⟩ : ∃ x r, xs = x :: r := by cases xs with | nil => exact h.elim | cons x r => exact ⟨x, r, rfl⟩
  obtain ⟨h1, h⟩ := h
  obtain ⟨x2, xs, rfl⟩ : ∃ x r, xs = x :: r := by cases xs with | nil => exact h.elim | cons x r => exact ⟨x, r, rfl⟩
  obtain ⟨h2, h⟩ := h
  obtain rfl : xs = [] := by cases xs with | nil => rfl | cons x r => exact h.elim
  obtain ⟨_, rfl, g0⟩ := shV_agg (by kernel_rfl) h0
  obtain ⟨b, rfl, hb⟩ := G11.bounds_of g0
  obtain ⟨_, rfl, g1⟩ := shV_agg (by kernel_rfl) h1
  obtain ⟨c, rfl, hc⟩ := G11.bounds_of g1
  obtain ⟨l, e2, hl⟩ := G11.ints_of (shV_one (by kernel_rfl) h2)
  obtain rfl : x2 = _ := by injection e2
  exact (G11.p11 b c l true (G11.plain11 b c l ⟨hb.1, hb.2.1, fun row hr => hb.2.2 row hr⟩ ⟨hc.1, hc.2.1, fun row hr => hc.2.2 row hr⟩ hl)).pu

set_option maxRecDepth 100000 in
theorem lifted11 (os : Os) (started : os.Started) (H : Type) (enc : TypeId × Value → H) :
    ReturnsInHanded {} Try.checked os 11 .any (Rows.boundsKeepSpec.pre6 enc Try.prog Try.f11 Rows.boundsKeepRow.domain false) (Rows.boundsKeepSpec.post enc Try.prog Try.f11 false true false false) := by
  refine returnsInHanded_of_change (C := Try.checked) G11.own started (by kernel_rfl) Try.func11
    (ChangeSpec.witness6 (enc := enc) (C := Try.checked) false ⟨#[], #[.agg #[.int .i64 0, .slice none 0 0], .agg #[.int .i64 0, .slice none 0 0], .slice none 0 0], []⟩ 8 (by kernel_rfl) (by kernel_rfl) (by kernel_rfl) (by kernel_rfl)) ?_
  intro W base args ds gs before hval0 hW hcnd _
  have hW' : DataW.Whole enc Try.prog Try.f11.params.toList Rows.boundsKeepSpec.vars false W args.toList ds gs before := hW
  refine law_calls (E := E0) (hp := G11.hp) (D := 6) (b := base) G11.env_ok (fun c _ _ => glob_nil c) (hval0) hW' rfl (tb := 4) rfl Try.underlying4 G11.laidOut ?_ ?_ law11
  · rw [Try.params11]; intro t ht; simp only [List.mem_cons, List.not_mem_nil, or_false] at ht
    rcases ht with rfl | rfl | rfl <;> exact ⟨⟨by kernel_rfl, of_decide_eq_true (by kernel_rfl)⟩, by kernel_rfl⟩
  · intro ds hds
    match ds, hds with
    | [d1, d2, d3], _ => exact ⟨rfl, rfl, rfl⟩

theorem holds11 : Rows.BoundsKeepSaid :=
  OpenClaim.holds_of_wide 11 Try.f11 rfl rfl rfl rfl rfl rfl rfl ⟨rfl, rfl, rfl, rfl, rfl⟩ rfl rfl rfl rfl rfl (by kernel_rfl) Try.func11 (by kernel_rfl)
    (of_decide_eq_true (by kernel_rfl)) (by unfold Func.isWrapper; first | (rw [if_pos (by decide +kernel)]; kernel_rfl) | (rw [if_neg (by decide +kernel)]; exact ⟨rfl, rfl⟩))
    (fun os started H enc _ => lifted11 os started H enc)
end Go.Proofs.Yteoiegapifoboaa
