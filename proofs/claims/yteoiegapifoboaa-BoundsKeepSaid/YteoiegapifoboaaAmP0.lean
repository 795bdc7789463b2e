/- The plain words of the models: reading, slicing, appending, loops with fuel. No condition. -/
import Derived.Calls
namespace Go.Pl

def addI (k : IntKind) (x y : Int) : Int := k.wrap (x + y)
def subI (k : IntKind) (x y : Int) : Int := k.wrap (x - y)
def mulI (k : IntKind) (x y : Int) : Int := k.wrap (x * y)
def idx {α : Type} (l : List α) (i : Int) : Option α := if 0 ≤ i then l[i.toNat]? else none

def appc {α : Type} (bytes : Nat) (l m : List α) : Option (List α) := if (l.length + m.length) * bytes ≤ 2 ^ 40 ∧ l.length + m.length ≤ 2 ^ 40 then some (l ++ m) else none

def mkc {α : Type} (bytes : Nat) (n : Int) (z : α) : Option (List α) := if 0 ≤ n ∧ n * bytes ≤ 2 ^ 40 ∧ n ≤ 2 ^ 40 then some (List.replicate n.toNat z) else none

def slcc {α : Type} (l : List α) (lo hi : Option Int) : Option (List α) :=
  if 0 ≤ lo.getD 0 ∧ lo.getD 0 ≤ hi.getD l.length ∧ hi.getD l.length ≤ l.length then some ((l.drop (lo.getD 0).toNat).take ((hi.getD l.length).toNat - (lo.getD 0).toNat)) else none

def quoc (k : IntKind) (x y : Int) : Option Int := if y = 0 then none else some (k.wrap (x.tdiv y))
def remc (x y : Int) : Option Int := if y = 0 then none else some (x.tmod y)
def shlc (k : IntKind) (x y : Int) : Option Int := if y < 0 then none else some (k.wrap (x * 2 ^ (min y.toNat k.bits)))
def shrc (k : IntKind) (x y : Int) : Option Int := if y < 0 then none else some (x.fdiv (2 ^ (min y.toNat k.bits)))
def shlI (k : IntKind) (x y : Int) : Int := k.wrap (x * 2 ^ (min y.toNat k.bits))
def shrI (k : IntKind) (x y : Int) : Int := x.fdiv (2 ^ (min y.toNat k.bits))
def andI (k : IntKind) (x y : Int) : Int := k.wrap ((BitVec.ofInt k.bits x) &&& (BitVec.ofInt k.bits y)).toNat
def orI (k : IntKind) (x y : Int) : Int := k.wrap ((BitVec.ofInt k.bits x) ||| (BitVec.ofInt k.bits y)).toNat
def catc (x y : List UInt8) : Option (List UInt8) := if x.length + y.length ≤ 2 ^ 40 then some (x ++ y) else none
def minI (x y : Int) : Int := if y < x then y else x
def maxI (x y : Int) : Int := if y > x then y else x
/-- is a slice that may be nil, nil? -/
def nilQ {α : Type} : Option (List α) → Option Bool
  | none => some true
  | some [] => none
  | some (_ :: _) => some false

/-- n elements, at least one -/
def mkc1 {α : Type} (bytes : Nat) (n : Int) (z : α) : Option (List α) := if 0 < n ∧ n * bytes ≤ 2 ^ 40 ∧ n ≤ 2 ^ 40 then some (List.replicate n.toNat z) else none
/-- a slice that is not nil, as it has elements -/
def nonE {α : Type} : List α → Option Unit
  | [] => none
  | _ :: _ => some ()

/-- an array of n elements -/
def Arr (n : Nat) (α : Type) : Type := { l : List α // l.length = n }
def Arr.put {n : Nat} {α : Type} (a : Arr n α) (i : Nat) (x : α) : Arr n α := ⟨a.1.set i x, by simp [a.2]⟩
def Arr.rep (n : Nat) {α : Type} (x : α) : Arr n α := ⟨List.replicate n x, by simp⟩
theorem Arr.len {n : Nat} {α : Type} (a : Arr n α) : a.1.length = n := a.2
/-- is a number an index? -/
def rngc (i : Int) (n : Nat) : Option Unit := if 0 ≤ i ∧ i < (n : Int) then some () else none
def Arr.at {n : Nat} {α : Type} [Inhabited α] (a : Arr n α) (k : Nat) : α := a.1.getD k default
def aidx {n : Nat} {α : Type} (a : Arr n α) (i : Int) : Option α := idx a.1 i
def aputc {n : Nat} {α : Type} (a : Arr n α) (i : Int) (x : α) : Option (Arr n α) := if 0 ≤ i ∧ i < n then some (a.put i.toNat x) else none

/-- a loop, n rounds at most -/
def iterN {σ ρ : Type} (body : σ → Option (σ ⊕ ρ)) : Nat → σ → Option ρ
  | 0, _ => none
  | n + 1, s => match body s with
    | none => none
    | some (.inl s') => iterN body n s'
    | some (.inr r) => some r

def fuel : Nat := 18446744073709551616

def iter {σ ρ : Type} (body : σ → Option (σ ⊕ ρ)) (s : σ) : Option ρ := iterN body fuel s

/-- rounds over a list, with a way out -/
def iterb {σ τ β ρ : Type} (body : σ → τ → Option (σ ⊕ (β ⊕ ρ))) (fin : σ → β) : List τ → σ → Option (β ⊕ ρ)
  | [], v => some (.inl (fin v))
  | y :: r, v => match body v y with
    | none => none
    | some (.inl v') => iterb body fin r v'
    | some (.inr x) => some x

theorem bind_some {α β : Type} {m : Option α} {f : α → Option β} {r : β} (h : m.bind f = some r) : ∃ v, m = some v ∧ f v = some r := by
  cases m with
  | none => simp at h
  | some v => exact ⟨v, rfl, h⟩

theorem map_some {α β : Type} {m : Option α} {f : α → β} {r : β} (h : m.map f = some r) : ∃ v, m = some v ∧ f v = r := by
  cases m with
  | none => simp at h
  | some v => exact ⟨v, rfl, by simpa using h⟩

theorem iterN_mono {σ ρ : Type} {body : σ → Option (σ ⊕ ρ)} : ∀ {n m : Nat} {s : σ} {r : ρ}, n ≤ m → iterN body n s = some r → iterN body m s = some r
  | 0, _, _, _, _, h => by simp [iterN] at h
  | n + 1, 0, _, _, hl, _ => by omega
  | n + 1, m + 1, s, r, hl, h => by
    rw [iterN] at h ⊢
    cases hb : body s with
    | none => rw [hb] at h; simp at h
    | some c =>
      cases c with
      | inl s' => rw [hb] at h; exact iterN_mono (n := n) (m := m) (by omega) h
      | inr r' => rw [hb] at h; exact h

/-- a loop's law: a relation of the state, and a number that goes down -/
theorem iter_rule {σ ρ : Type} {body : σ → Option (σ ⊕ ρ)} (I : σ → Prop) (m : σ → Nat) (Q : ρ → Prop) {s : σ} (h0 : I s) (hf : m s < fuel)
    (h : ∀ s, I s → (∃ s', body s = some (.inl s') ∧ I s' ∧ m s' < m s) ∨ ∃ r, body s = some (.inr r) ∧ Q r) : ∃ r, iter body s = some r ∧ Q r := by
  have key : ∀ n s, I s → m s < n → ∃ r, iterN body n s = some r ∧ Q r := by
    intro n
    induction n with
    | zero => intro s _ hlt; omega
    | succ n ih =>
      intro s hi hlt
      rcases h s hi with ⟨s', hb, hi', hm⟩ | ⟨r, hb, hq⟩
      · obtain ⟨r, h1, h2⟩ := ih s' hi' (by omega)
        exact ⟨r, by rw [iterN, hb]; exact h1, h2⟩
      · exact ⟨r, by rw [iterN, hb], hq⟩
  exact key fuel s h0 hf

end Go.Pl
