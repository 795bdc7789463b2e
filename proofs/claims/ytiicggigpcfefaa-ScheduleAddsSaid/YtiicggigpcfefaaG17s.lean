/- Sequences, plants and times, as plain values. No condition. -/
import Derived.Test.YtiicggigpcfefaaG17g
import Derived.Test.YtiicggigpcfefaaG17t
import Derived.Test.YtiicggigpcfefaaAmZ5
namespace G17
set_option maxRecDepth 100000
open Go.Proofs Go Go.Pl Go.Am Go.Am.As

theorem sh_struct1 {P : Program} {D : Nat} {t : TypeId} {fs : Array Field} {f1 : Field} {xs : List AV} (hu : P.underlying t = some (.struct fs)) (hf : fs.toList = [f1]) (h : Sh P (D + 1) t xs) :
    Sh P D f1.type xs := by
  simp only [Sh, hu, hf] at h
  obtain ⟨a, b, rfl, h1, h2⟩ := h
  subst h2
  simpa using h1

def OkSeq (s : SSequence) : Prop := s.Steps.length ≤ maxLen ∧ ∀ x ∈ s.Steps, x.Strokes.length ≤ maxLen

theorem stroke_of {D : Nat} {xs : List AV} (h : Sh Try.prog (D + 2) 104 xs) : ∃ y : SStroke, xs = cSStroke y := by
  obtain ⟨x, y, rfl, h1, h2⟩ := sh_struct2 Try.underlying104 rfl h
  obtain ⟨n, rfl, _⟩ := sh_int Try.underlying3 h1
  obtain ⟨b, rfl⟩ := sh_bool Try.underlying4 h2
  exact ⟨⟨n, b⟩, rfl⟩

theorem step_of {D : Nat} {xs : List AV} (h : Sh Try.prog (D + 4) 76 xs) : ∃ x : SStep, xs = cSStep x ∧ x.Strokes.length ≤ maxLen := by
  obtain ⟨x, y, rfl, h1, h2⟩ := sh_struct2 Try.underlying76 rfl h
  obtain ⟨l, rfl, hl, _⟩ := sh_slice (C := cSStroke) (R := fun _ => True) Try.underlying74 h1 (fun c hc => by
    obtain ⟨y, h⟩ := stroke_of hc
    exact ⟨y, h, trivial⟩)
  obtain ⟨n, rfl, _⟩ := sh_int Try.underlying3 h2
  exact ⟨⟨l, n⟩, rfl, hl⟩

theorem seq_of {D : Nat} {xs : List AV} (h : Sh Try.prog (D + 6) 24 xs) : ∃ s : SSequence, xs = cSSequence s ∧ OkSeq s := by
  obtain ⟨x, y, rfl, h1, h2⟩ := sh_struct2 Try.underlying24 rfl h
  obtain ⟨n, rfl, _⟩ := sh_int Try.underlying3 h1
  obtain ⟨l, rfl, hl, hr⟩ := sh_slice (C := cSStep) (R := fun x : SStep => x.Strokes.length ≤ maxLen) Try.underlying22 h2 (fun c hc => step_of hc)
  exact ⟨⟨n, l⟩, rfl, hl, hr⟩

theorem small_of {s : SSequence} (h : OkSeq s) : Small s := by
  have : maxLen ≤ 9223372036854775807 := by decide
  exact ⟨by have := h.1; omega, fun x hx => by have := h.2 x hx; omega⟩

theorem span_of {D : Nat} {xs : List AV} (h : Sh Try.prog (D + 2) 38 xs) : ∃ x : SSpan, xs = cSSpan x := by
  obtain ⟨x, y, rfl, h1, h2⟩ := sh_struct2 Try.underlying38 rfl h
  obtain ⟨n, rfl, _⟩ := sh_int Try.underlying3 h1
  obtain ⟨m, rfl, _⟩ := sh_int Try.underlying3 h2
  exact ⟨⟨n, m⟩, rfl⟩

theorem travel_of {D : Nat} {xs : List AV} (h : Sh Try.prog (D + 3) 58 xs) : ∃ x : STravel, xs = cSTravel x := by
  obtain ⟨x, y, rfl, h1, h2⟩ := sh_struct2 Try.underlying58 rfl h
  obtain ⟨a, rfl⟩ := span_of h1
  obtain ⟨b, rfl⟩ := span_of h2
  exact ⟨⟨a, b⟩, rfl⟩

theorem plant_of {D : Nat} {xs : List AV} (h : Sh Try.prog (D + 5) 27 xs) : ∃ p : SPlant, xs = cSPlant p ∧ p.Travels.length ≤ maxLen := by
  have h1 := sh_struct1 Try.underlying27 rfl h
  obtain ⟨l, rfl, hl, _⟩ := sh_slice (C := cSTravel) (R := fun _ => True) Try.underlying25 h1 (fun c hc => by
    obtain ⟨y, h⟩ := travel_of hc
    exact ⟨y, h, trivial⟩)
  exact ⟨⟨l⟩, rfl, hl⟩

theorem pair_of {D : Nat} {xs : List AV} (h : Sh Try.prog (D + 2) 47 xs) : ∃ q : Int × Int, xs = cP2 cI_i64 q := by
  obtain ⟨a, b, rfl, h1, h2⟩ := sh_arr2 Try.underlying47 h
  obtain ⟨n, rfl, _⟩ := sh_int Try.underlying3 h1
  obtain ⟨m, rfl, _⟩ := sh_int Try.underlying3 h2
  exact ⟨(n, m), rfl⟩

theorem bytes_of {D : Nat} {xs : List AV} (h : Sh Try.prog (D + 2) 55 xs) : ∃ q : Int × Int, xs = cP2 cI_u8 q ∧ (0 ≤ q.1 ∧ q.1 < 256) ∧ 0 ≤ q.2 ∧ q.2 < 256 := by
  obtain ⟨a, b, rfl, h1, h2⟩ := sh_arr2 Try.underlying55 h
  obtain ⟨n, rfl, hn⟩ := sh_int Try.underlying5 h1
  obtain ⟨m, rfl, hm⟩ := sh_int Try.underlying5 h2
  have e1 : IntKind.u8.min = 0 := by decide
  have e2 : IntKind.u8.max = 255 := by decide
  unfold inK at hn hm
  rw [e1, e2] at hn hm
  exact ⟨(n, m), rfl, ⟨hn.1, by show n < 256; omega⟩, hm.1, by show m < 256; omega⟩

theorem ints_of {D : Nat} {xs : List AV} (h : Sh Try.prog (D + 2) 68 xs) : ∃ l : List Int, xs = [.ro (l.map cI_i64)] ∧ l.length ≤ maxLen := by
  obtain ⟨l, h1, h2, _⟩ := sh_slice (C := cI_i64) (R := fun _ => True) Try.underlying68 h (fun c hc => by
    obtain ⟨n, rfl, _⟩ := sh_int Try.underlying3 hc
    exact ⟨n, rfl, trivial⟩)
  exact ⟨l, h1, h2⟩

theorem times_of {D : Nat} {xs : List AV} (h : Sh Try.prog (D + 4) 77 xs) : ∃ l : List (List Int), xs = [.ro (l.map (cL cI_i64))] ∧ l.length ≤ maxLen ∧ ∀ m ∈ l, m.length ≤ maxLen := by
  obtain ⟨l, h1, h2, h3⟩ := sh_slice (C := cL cI_i64) (R := fun m : List Int => m.length ≤ maxLen) Try.underlying77 h (fun c hc => by
    obtain ⟨m, rfl, hm⟩ := ints_of hc
    exact ⟨m, rfl, hm⟩)
  exact ⟨l, h1, h2, h3⟩

theorem own : ownKnob Try.prog.godebug = none := by kernel_rfl
theorem laidOut : laidOutB Try.prog = true := by kernel_rfl
end G17
