/- Arguments of a type's shape, as plain values. No condition. -/
import Derived.Test.YteoiegapifoboaaAmZ3
import Derived.Test.YteoiegapifoboaaAmWr
namespace Go.Am
open Go.Am.As

def inK (k : IntKind) (n : Int) : Prop := k.min ≤ n ∧ n ≤ k.max
theorem wf_inK {k : IntKind} {n : Int} (h : (Lit.int k n).wf = true) : inK k n := by
  unfold inK; simpa [Lit.wf] using h
theorem inK_i64 {n : Int} (h : inK .i64 n) : -9223372036854775808 ≤ n ∧ n ≤ 9223372036854775807 := h

section
variable {P : Program} {D : Nat}

theorem sh_int {t : TypeId} {k : IntKind} {xs : List AV} (hu : P.underlying t = some (.int k)) (h : Sh P (D + 1) t xs) : ∃ n, xs = [.int k n] ∧ inK k n := by
  simp only [Sh, hu] at h
  obtain ⟨n, h1, h2⟩ := h
  exact ⟨n, h1, wf_inK h2⟩
theorem sh_bool {t : TypeId} {xs : List AV} (hu : P.underlying t = some .bool) (h : Sh P (D + 1) t xs) : ∃ b, xs = [.bool b] := by
  simpa only [Sh, hu] using h
theorem sh_str {t : TypeId} {xs : List AV} (hu : P.underlying t = some .string) (h : Sh P (D + 1) t xs) : ∃ s : List UInt8, xs = [.str s] ∧ s.length ≤ maxLen := by
  simpa only [Sh, hu] using h
theorem sh_map {α : Type} {C : α → List AV} {R : α → Prop} {S : List AV → Prop} (he : ∀ c, S c → ∃ a, c = C a ∧ R a) : ∀ es : List (List AV), (∀ c ∈ es, S c) → ∃ l : List α, es = l.map C ∧ ∀ a ∈ l, R a
  | [], _ => ⟨[], rfl, by simp⟩
  | c :: es, h => by
    obtain ⟨a, h1, h2⟩ := he c (h c (by simp))
    obtain ⟨l, h3, h4⟩ := sh_map he es fun c hc => h c (by simp [hc])
    exact ⟨a :: l, by simp [h1, h3], by simpa using ⟨h2, h4⟩⟩
theorem sh_slice {α : Type} {C : α → List AV} {R : α → Prop} {t e : TypeId} {xs : List AV} (hu : P.underlying t = some (.slice e)) (h : Sh P (D + 1) t xs) (he : ∀ c, Sh P D e c → ∃ a, c = C a ∧ R a) :
    ∃ l : List α, xs = [.ro (l.map C)] ∧ l.length ≤ maxLen ∧ ∀ a ∈ l, R a := by
  simp only [Sh, hu] at h
  obtain ⟨es, h1, h2, h3⟩ := h
  obtain ⟨l, h4, h5⟩ := sh_map he es h3
  subst h4
  exact ⟨l, h1, by simpa using h2, h5⟩
theorem sh_struct2 {t : TypeId} {fs : Array Field} {f1 f2 : Field} {xs : List AV} (hu : P.underlying t = some (.struct fs)) (hf : fs.toList = [f1, f2]) (h : Sh P (D + 1) t xs) :
    ∃ a b, xs = a ++ b ∧ Sh P D f1.type a ∧ Sh P D f2.type b := by
  simp only [Sh, hu, hf, ShL] at h
  obtain ⟨a, c, h1, h2, b, d, h3, h4, h5⟩ := h
  subst h5; subst h3
  exact ⟨a, b, by simpa using h1, h2, h4⟩
theorem sh_struct4 {t : TypeId} {fs : Array Field} {f1 f2 f3 f4 : Field} {xs : List AV} (hu : P.underlying t = some (.struct fs)) (hf : fs.toList = [f1, f2, f3, f4]) (h : Sh P (D + 1) t xs) :
    ∃ a b c d, xs = a ++ (b ++ (c ++ d)) ∧ Sh P D f1.type a ∧ Sh P D f2.type b ∧ Sh P D f3.type c ∧ Sh P D f4.type d := by
  simp only [Sh, hu, hf, ShL] at h
  obtain ⟨a, _, h1, h2, b, _, h3, h4, c, _, h5, h6, d, _, h7, h8, h9⟩ := h
  subst h9; subst h7; subst h5; subst h3
  exact ⟨a, b, c, d, by simpa using h1, h2, h4, h6, h8⟩
theorem sh_arr2 {t e : TypeId} {xs : List AV} (hu : P.underlying t = some (.array 2 e)) (h : Sh P (D + 1) t xs) : ∃ a b, xs = a ++ b ∧ Sh P D e a ∧ Sh P D e b := by
  simp only [Sh, hu, ShN] at h
  obtain ⟨a, c, h1, h2, b, d, h3, h4, h5⟩ := h
  subst h5; subst h3
  exact ⟨a, b, by simpa using h1, h2, h4⟩

/-- an argument that is a struct -/
theorem shV_agg {t : TypeId} {x : AV} (ha : aggT P t = true) (h : ShV P D t x) : ∃ xs, x = .agg xs ∧ Sh P D t xs := by simpa [ShV, ha] using h
theorem shV_one {t : TypeId} {x : AV} (ha : aggT P t = false) (h : ShV P D t x) : Sh P D t [x] := by simpa [ShV, ha] using h
end
end Go.Am
