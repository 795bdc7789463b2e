/- What the row's condition says of the package's table: the machine's global. No condition. -/
import Derived.Test.YtoobbcmofleljaaDoorG18v
import Derived.Test.YtoobbcmofleljaaDoorRows
import Derived.ProofKit
import Derived.LaidMore
import Derived.OpenShut
import Derived.MakeChecks
namespace G18
open Go.Proofs Go Go.Pl Go.Am Go.Am.As Go.ChangeShapes Go.WideShapes Go.ChangeAt Go.WideMaps Go.WideElems Go.RowKit
set_option maxRecDepth 100000

theorem gBits : Tryd.prog.globalNamed "pneumatic/group.bits" = some 0 := by kernel_rfl
theorem tBits : (Tryd.prog.globals[0]?).map (·.type) = some 77 := by kernel_rfl
abbrev laidB {H : Type} : List (String × DataW H) := [("pneumatic/group.bits", YtoobbcmofleljaaDoor.Rows.laid_pneumatic_group_bits)]

theorem cells_of {W : World} (h : laidMetH Tryd.prog laidB W) : ∀ j (hj : j < 6), W.cell? ⟨0, j, none⟩ = some (.int .u64 (([1, 2, 4, 8, 16, 32] : List Int)[j])) := by
  rw [MakeChecks.laidMetH_plain _ _ _ (by kernel_rfl)] at h
  obtain ⟨ps, ⟨g0, t0, cs0, f0, p0, q0, hg0, ht0, hv0, hd0, _⟩, _⟩ := h
  obtain rfl := Option.some.inj (gBits.symm.trans hg0)
  obtain rfl := Option.some.inj (tBits.symm.trans ht0)
  obtain ⟨xs, m1, q1, hx1, hlen, hn3, hel⟩ := DataW.trod_array Tryd.underlying77 hd0
  have c64 : Tryd.prog.cellsOf 64 = 1 := by kernel_rfl
  intro j hj
  have h0 := hel j hj
  rw [c64, Nat.mul_one] at h0
  have hjx : j < xs.length := by rw [hn3]; exact hj
  rw [List.getElem?_eq_getElem hjx] at h0
  obtain ⟨n, e1, e2, _⟩ := DataW.trod_int Tryd.underlying64 h0
  have hd : (xs.map (·.1))[j]? = some (.lit (.int .u64 (([1, 2, 4, 8, 16, 32] : List Int)[j]))) := by
    simp only [Prod.mk.injEq] at hx1
    have h1 := hx1.1
    unfold YtoobbcmofleljaaDoor.Rows.laid_pneumatic_group_bits at h1
    injection h1 with h1
    rw [← h1]
    have : j = 0 ∨ j = 1 ∨ j = 2 ∨ j = 3 ∨ j = 4 ∨ j = 5 := by omega
    rcases this with rfl | rfl | rfl | rfl | rfl | rfl <;> rfl
  rw [List.getElem?_map, List.getElem?_eq_getElem hjx, Option.map_some, e2] at hd
  simp only [Option.some.injEq, DataW.lit.injEq, Lit.int.injEq, true_and] at hd
  rw [World.var?_cell hg0 hv0 j]
  have e3 : cs0.toList[j]? = some (.int .u64 n) := by
    have := congrArg (fun l => l[0]?) e1
    simp only [List.getElem?_take, List.getElem?_drop] at this
    simpa using this
  rw [← hd]
  simpa using e3

/-- the machine's global -/
theorem glob_of {W : World} (h : laidMetH Tryd.prog laidB W) (c : Ctx) (hw : c.w = W) (hO : ∀ b, ¬ c.O b) : Glob c E0.glob := by
  intro g
  show V c (.pro (if g = 0 then _ else _)) _
  split
  · rename_i e
    subst e
    refine .pro _ _ (fun j => .int .u64 (([1, 2, 4, 8, 16, 32] : List Int).getD j 0)) (fun _ => ⟨rfl, hO _⟩) (fun j hj => ?_) (fun j hj => ?_)
    · have hj' : j < 6 := by simpa using hj
      have := cells_of h j hj'
      rw [hw]
      simp only [Nat.zero_add]
      rw [this]
      have : j = 0 ∨ j = 1 ∨ j = 2 ∨ j = 3 ∨ j = 4 ∨ j = 5 := by omega
      rcases this with rfl | rfl | rfl | rfl | rfl | rfl <;> rfl
    · have hj' : j < 6 := by simpa using hj
      have : j = 0 ∨ j = 1 ∨ j = 2 ∨ j = 3 ∨ j = 4 ∨ j = 5 := by omega
      rcases this with rfl | rfl | rfl | rfl | rfl | rfl <;> exact .int _ _
  · exact .pro [] _ (fun _ => undef) (fun h => absurd rfl h) (fun j hj => by simp at hj) (fun j hj => by simp at hj)
end G18
