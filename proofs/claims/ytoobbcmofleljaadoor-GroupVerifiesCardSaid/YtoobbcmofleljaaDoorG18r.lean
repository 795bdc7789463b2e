/- The ring of the chapter's example, by the kernel. No condition. -/
import Derived.Test.YtoobbcmofleljaaDoorG18E
namespace G18
open Go Go.Pl Go.Am Go.Am.As
def ringSeq : SSequence := ⟨2, [⟨[⟨0, true⟩], 0⟩, ⟨[⟨0, false⟩], 0⟩, ⟨[⟨1, true⟩], 0⟩, ⟨[⟨1, false⟩], 0⟩]⟩
theorem ring_run : As.cIT E0.fns (As.execT E0 hp 100000) 19 [.agg (cSSequence ringSeq)] = some (.tup [.ro (([1, 3] : List Int).map cI_i64), .int .i64 0]) := by kernel_rfl
theorem p19 (a0 : SSequence) (r : ((List Int) × Int)) (h : m19 a0 = some r) : Pt E0 hp 19 [.agg (cSSequence a0)] (.tup [.ro (r.1.map cI_i64), .int .i64 r.2]) := by
  unfold m19 at h
  cases hd : decide (a0 = ringSeq) with
  | false => unfold ringSeq at hd; rw [hd] at h; simp at h
  | true =>
    have e := of_decide_eq_true hd
    unfold ringSeq at hd
    rw [hd] at h
    replace h := Option.some.inj h
    subst h; subst e
    exact ⟨100000, ring_run⟩
end G18
