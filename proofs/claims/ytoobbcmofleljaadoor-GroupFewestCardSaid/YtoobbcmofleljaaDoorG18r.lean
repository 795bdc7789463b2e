/- The ring of the chapter's example and its texts, by the kernel. No condition. -/
import Derived.Test.YtoobbcmofleljaaDoorG18E
namespace G18
open Go Go.Pl Go.Am Go.Am.As
def ringSeq : SSequence := ⟨2, [⟨[⟨0, true⟩], 0⟩, ⟨[⟨0, false⟩], 0⟩, ⟨[⟨1, true⟩], 0⟩, ⟨[⟨1, false⟩], 0⟩]⟩
theorem ring_run : As.cIT E0.fns (As.execT E0 hp 100000) 19 [.agg (cSSequence ringSeq)] = some (.tup [.ro (([1, 3] : List Int).map cI_i64), .int .i64 0]) := by kernel_rfl
theorem p19 (a0 : SSequence) (r : ((List Int) × Int)) (h : m19 a0 = some r) : Pt E0 hp 19 [.agg (cSSequence a0)] (.tup [.ro (r.1.map cI_i64), .int .i64 r.2]) := by
  unfold m19 at h
  cases hd : decide (a0 = ringSeq) with
  | false => unfold ringSeq at hd; rw [hd] at h; simp at h
  | true =>
    have e := of_decide_eq_true hd
    unfold ringSeq at hd
    rw [hd] at h
    replace h := Option.some.inj h
    subst h; subst e
    exact ⟨100000, ring_run⟩
def txt1 : List UInt8 := [65, 43, 59, 32, 66, 43, 59, 32, 66, 45, 59, 32, 65, 45]
def txt2 : List UInt8 := [65, 43, 59, 32, 65, 45, 59, 32, 66, 43, 59, 32, 66, 45]
def txt3 : List UInt8 := [65, 43, 59, 32, 66, 43, 59, 32, 65, 45, 59, 32, 67, 43, 59, 32, 66, 45, 59, 32, 67, 45]
def seq1 : SSequence := ⟨2, [⟨[⟨0, true⟩], 0⟩, ⟨[⟨1, true⟩], 0⟩, ⟨[⟨1, false⟩], 0⟩, ⟨[⟨0, false⟩], 0⟩]⟩
def seq3 : SSequence := ⟨3, [⟨[⟨0, true⟩], 0⟩, ⟨[⟨1, true⟩], 0⟩, ⟨[⟨0, false⟩], 0⟩, ⟨[⟨2, true⟩], 0⟩, ⟨[⟨1, false⟩], 0⟩, ⟨[⟨2, false⟩], 0⟩]⟩
theorem text_run1 : As.cIT E0.fns (As.execT E0 hp 100000) 34 [.str txt1] = some (.agg (cSSequence seq1)) := by kernel_rfl
theorem text_run2 : As.cIT E0.fns (As.execT E0 hp 100000) 34 [.str txt2] = some (.agg (cSSequence ringSeq)) := by kernel_rfl
theorem text_run3 : As.cIT E0.fns (As.execT E0 hp 100000) 34 [.str txt3] = some (.agg (cSSequence seq3)) := by kernel_rfl
theorem m34_cases (a0 : List UInt8) (r : SSequence) (h : m34 a0 = some r) : (a0 = txt1 ∧ r = seq1) ∨ (a0 = txt2 ∧ r = ringSeq) ∨ (a0 = txt3 ∧ r = seq3) := by
  unfold m34 at h
  cases h1 : decide (a0 = txt1) with
  | true =>
    have e := of_decide_eq_true h1
    unfold txt1 at h1
    rw [h1] at h
    exact .inl ⟨e, (Option.some.inj h).symm⟩
  | false =>
    unfold txt1 at h1
    rw [h1] at h
    cases h2 : decide (a0 = txt2) with
    | true =>
      have e := of_decide_eq_true h2
      unfold txt2 at h2
      rw [h2] at h
      exact .inr (.inl ⟨e, (Option.some.inj h).symm⟩)
    | false =>
      unfold txt2 at h2
      rw [h2] at h
      cases h3 : decide (a0 = txt3) with
      | true =>
        have e := of_decide_eq_true h3
        unfold txt3 at h3
        rw [h3] at h
        exact .inr (.inr ⟨e, (Option.some.inj h).symm⟩)
      | false =>
        unfold txt3 at h3
        rw [h3] at h
        simp at h
theorem p34 (a0 : (List UInt8)) (r : SSequence) (h : m34 a0 = some r) : Pt E0 hp 34 [.str a0] (.agg [.int .i64 r.Actuators, .ro (r.Steps.map cSStep)]) := by
  rcases m34_cases a0 r h with ⟨rfl, rfl⟩ | ⟨rfl, rfl⟩ | ⟨rfl, rfl⟩
  · exact ⟨100000, text_run1⟩
  · exact ⟨100000, text_run2⟩
  · exact ⟨100000, text_run3⟩
end G18
