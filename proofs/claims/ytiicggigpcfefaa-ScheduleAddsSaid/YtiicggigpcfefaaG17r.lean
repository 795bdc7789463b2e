/- The chapter's example, by the kernel. No condition. -/
import Derived.Test.YtiicggigpcfefaaG17z
namespace G17
open Go Go.Pl Go.Am Go.Am.As
def pressSeq : SSequence := ⟨2, [⟨[⟨0, true⟩, ⟨1, true⟩], 0⟩, ⟨[⟨0, false⟩], 100⟩, ⟨[⟨1, false⟩], 0⟩]⟩
theorem press_run : As.cIT E0.fns (As.execT E0 hp 100000) 44 [] = some (.agg (cSSequence pressSeq)) := by kernel_rfl
theorem p44 (r : SSequence) (h : m44 = some r) : Pt E0 hp 44 [] (.agg [.int .i64 r.Actuators, .ro (r.Steps.map cSStep)]) := by
  unfold m44 at h
  replace h := Option.some.inj h
  subst h
  exact ⟨100000, press_run⟩
end G17
