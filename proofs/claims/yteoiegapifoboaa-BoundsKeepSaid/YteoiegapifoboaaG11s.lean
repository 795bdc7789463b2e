/- Bounds, as plain values. No condition. -/
import Derived.Test.YteoiegapifoboaaG11v
namespace G11
set_option maxRecDepth 100000
open Go.Proofs Go Go.Pl Go.Am Go.Am.As

def OkB (b : SBounds) : Prop := (-9223372036854775808 ≤ b.N ∧ b.N ≤ 9223372036854775807) ∧ b.Most.length ≤ maxLen ∧ ∀ row ∈ b.Most, row.length ≤ maxLen ∧ ∀ n ∈ row, -9223372036854775808 ≤ n ∧ n ≤ 9223372036854775807
def OkI (l : List Int) : Prop := l.length ≤ maxLen ∧ ∀ n ∈ l, -9223372036854775808 ≤ n ∧ n ≤ 9223372036854775807

theorem ints_of {D : Nat} {xs : List AV} (h : Sh Try.prog (D + 2) 27 xs) : ∃ l : List Int, xs = [.ro (l.map cI_i64)] ∧ OkI l := by
  obtain ⟨l, h1, h2, h3⟩ := sh_slice (C := cI_i64) (R := fun n : Int => -9223372036854775808 ≤ n ∧ n ≤ 9223372036854775807) Try.underlying27 h (fun c hc => by
    obtain ⟨n, h1, h2⟩ := sh_int Try.underlying3 hc
    exact ⟨n, h1, inK_i64 h2⟩)
  exact ⟨l, h1, h2, h3⟩

theorem bounds_of {D : Nat} {xs : List AV} (h : Sh Try.prog (D + 4) 24 xs) : ∃ b : SBounds, xs = cSBounds b ∧ OkB b := by
  obtain ⟨x, y, rfl, h1, h2⟩ := sh_struct2 Try.underlying24 rfl h
  obtain ⟨n, rfl, hn⟩ := sh_int Try.underlying3 h1
  obtain ⟨l, rfl, h3, h4⟩ := sh_slice (C := cL cI_i64) (R := OkI) Try.underlying22 h2 (fun c hc => by
    obtain ⟨l, h1, h2⟩ := ints_of hc
    exact ⟨l, h1, h2⟩)
  exact ⟨⟨n, l⟩, rfl, inK_i64 hn, h3, h4⟩

theorem change_of {D : Nat} {xs : List AV} (h : Sh Try.prog (D + 4) 59 xs) : ∃ x : SChange, xs = cSChange x := by
  obtain ⟨a, b, c, d, rfl, h1, h2, h3, h4⟩ := sh_struct4 Try.underlying59 rfl h
  obtain ⟨i, rfl, _⟩ := sh_int Try.underlying3 h1
  obtain ⟨j, rfl, _⟩ := sh_int Try.underlying3 h2
  obtain ⟨m, rfl, _⟩ := sh_int Try.underlying3 h3
  obtain ⟨u, v, rfl, h5, h6⟩ := sh_struct2 Try.underlying57 rfl h4
  obtain ⟨lo, rfl, _⟩ := sh_int Try.underlying3 h5
  obtain ⟨hi, rfl, _⟩ := sh_int Try.underlying3 h6
  exact ⟨⟨i, j, m, ⟨lo, hi⟩⟩, rfl⟩

theorem own : ownKnob Try.prog.godebug = none := by kernel_rfl
theorem laidOut : laidOutB Try.prog = true := by kernel_rfl
end G11
