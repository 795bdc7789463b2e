/- The examples of the chapter come out as they should: the kernel runs them. No condition. -/
import Derived.Test.YteoiegapifoboaaG11E
namespace G11
open Go Go.Pl Go.Am Go.Am.As
def tagB : Option AV → Bool
  | some (.bool true) => true
  | _ => false
theorem Pt_run {E : Env} {hp : Nat → Bool} (n : Nat) {f : Nat} {xs : List AV} (h : tagB (As.cIT E.fns (As.execT E hp n) f xs) = true) : Pt E hp f xs (.bool true) := by
  refine ⟨n, ?_⟩
  unfold tagB at h
  split at h
  · assumption
  · simp at h
theorem awake_run : tagB (As.cIT E0.fns (As.execT E0 hp 100000) 13 []) = true := by kernel_rfl
theorem p13 (r : Bool) (h : m13 = some r) : Pt E0 hp 13 [] (.bool r) := by
  unfold m13 at h
  replace h := Option.some.inj h; subst h
  exact Pt_run 100000 awake_run
end G11
