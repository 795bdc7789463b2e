/- Sequences and pairs, as plain values. No condition. -/
import Derived.Test.YtoobbcmofleljaaDoorG18v
import Derived.Test.YtoobbcmofleljaaDoorG18b
import Derived.Test.YtoobbcmofleljaaDoorRows
namespace G18
set_option maxRecDepth 100000
open Go.Proofs Go Go.Pl Go.Am Go.Am.As

def OkSeq (s : SSequence) : Prop := s.Steps.length ≤ maxLen ∧ ∀ x ∈ s.Steps, x.Strokes.length ≤ maxLen

theorem stroke_of {D : Nat} {xs : List AV} (h : Sh Tryd.prog (D + 2) 49 xs) : ∃ y : SStroke, xs = cSStroke y := by
  obtain ⟨x, y, rfl, h1, h2⟩ := sh_struct2 Tryd.underlying49 rfl h
  obtain ⟨n, rfl, _⟩ := sh_int Tryd.underlying3 h1
  obtain ⟨b, rfl⟩ := sh_bool Tryd.underlying4 h2
  exact ⟨⟨n, b⟩, rfl⟩

theorem step_of {D : Nat} {xs : List AV} (h : Sh Tryd.prog (D + 4) 47 xs) : ∃ x : SStep, xs = cSStep x ∧ x.Strokes.length ≤ maxLen := by
  obtain ⟨x, y, rfl, h1, h2⟩ := sh_struct2 Tryd.underlying47 rfl h
  obtain ⟨l, rfl, hl, _⟩ := sh_slice (C := cSStroke) (R := fun _ => True) Tryd.underlying45 h1 (fun c hc => by
    obtain ⟨y, h⟩ := stroke_of hc
    exact ⟨y, h, trivial⟩)
  obtain ⟨n, rfl, _⟩ := sh_int Tryd.underlying3 h2
  exact ⟨⟨l, n⟩, rfl, hl⟩

theorem seq_of {D : Nat} {xs : List AV} (h : Sh Tryd.prog (D + 6) 24 xs) : ∃ s : SSequence, xs = cSSequence s ∧ OkSeq s := by
  obtain ⟨x, y, rfl, h1, h2⟩ := sh_struct2 Tryd.underlying24 rfl h
  obtain ⟨n, rfl, _⟩ := sh_int Tryd.underlying3 h1
  obtain ⟨l, rfl, hl, hr⟩ := sh_slice (C := cSStep) (R := fun x : SStep => x.Strokes.length ≤ maxLen) Tryd.underlying22 h2 (fun c hc => step_of hc)
  exact ⟨⟨n, l⟩, rfl, hl, hr⟩

theorem small_of {s : SSequence} (h : OkSeq s) : Small s := by
  have : maxLen ≤ 9223372036854775807 := by decide
  exact ⟨by have := h.1; omega, fun x hx => by have := h.2 x hx; omega⟩

theorem own : ownKnob Tryd.prog.godebug = none := by kernel_rfl
theorem laidOut : laidOutB Tryd.prog = true := by kernel_rfl
end G18
