/- A sequence that is not too long. No condition. -/
import Derived.Test.YtoobbcmofleljaaDoorG18c
namespace G18
open Go Go.Pl
theorem m11_eq (s : SSequence) (hs : Small s) : ∃ b, m11 s = some b := by
  unfold m11
  by_cases h : s.Steps.length > 128
  · rw [cond_t (by simp; omega)]; exact ⟨_, rfl⟩
  · rw [cond_f (by simp; omega)]
    rw [iter_list s.Steps (fun x => bif decide ((x.Strokes.length : Int) > 40) then some false else none) ?hn () ?h0 ?h ?he]
    case hn => unfold fuel; omega
    case h0 => rfl
    case he =>
      try dsimp only
      rw [cond_f (lt_f (by omega))]
    case h =>
      intro k hk
      try dsimp only
      rw [cond_t (lt_t (by omega)), idx_lt hk]
      simp only [Option.bind_some]
      rw [addI_nat (by omega)]
      cases decide ((s.Steps[k].Strokes.length : Int) > 40) <;> rfl
    rw [findSome_if]
    cases s.Steps.any fun x => decide ((x.Strokes.length : Int) > 40) <;> exact ⟨_, rfl⟩
end G18
