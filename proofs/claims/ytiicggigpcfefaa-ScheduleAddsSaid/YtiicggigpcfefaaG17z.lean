/- What schedule.slots yields, by the encodings. No condition. -/
import Derived.Test.YtiicggigpcfefaaG17E
namespace G17
open Go Go.Pl Go.Am Go.Am.As
theorem dStep_c (a : SStep) : dStep (cSStep a) = some a := by
  show (dL dStroke (a.Strokes.map cSStroke)).map _ = _
  rw [dL_map (d := dStroke) (C := cSStroke) (fun _ => rfl)]
  rfl
theorem gen70 (a0 : Int) (a1 : List SStep) (a2 : List STravel) (ys : List (Int × SSlot)) (h : gl70 a0 a1 a2 = some ys) :
    E0.gen 70 [.pro [.int .i64 a0, .ro (a1.map cSStep)], .pro [.ro (a2.map cSTravel)]] = some (ys.map C70) := by
  show (dL dStep (a1.map cSStep)).bind (fun l => (dL dTravel (a2.map cSTravel)).bind fun p => (gl70 a0 l p).map fun ys => ys.map C70) = _
  rw [dL_map dStep_c, dL_map (d := dTravel) (C := cSTravel) (fun _ => rfl)]
  simp only [Option.bind_some, h, Option.map_some]
/-- by the decoders: which values are meant -/
theorem dL_inv {α : Type} {d : List AV → Option α} {C : α → List AV} (h : ∀ x a, d x = some a → x = C a) : ∀ (xs : List (List AV)) (l : List α), dL d xs = some l → xs = l.map C
  | [], l, e => by
    injection e with e; subst e; rfl
  | x :: xs, l, e => by
    unfold dL at e
    cases h1 : d x with
    | none => rw [h1] at e; simp at e
    | some y =>
      cases h2 : dL d xs with
      | none => rw [h1, h2] at e; simp at e
      | some ys =>
        rw [h1, h2] at e
        simp only [Option.bind_some, Option.map_some, Option.some.injEq] at e
        subst e
        rw [h _ _ h1, dL_inv h xs ys h2]; rfl
theorem dStroke_inv (x : List AV) (a : SStroke) (h : dStroke x = some a) : x = cSStroke a := by
  unfold dStroke at h
  split at h
  · injection h with h; subst h; rfl
  · simp at h
theorem dTravel_inv (x : List AV) (a : STravel) (h : dTravel x = some a) : x = cSTravel a := by
  unfold dTravel at h
  split at h
  · injection h with h; subst h; rfl
  · simp at h
theorem dStep_inv (x : List AV) (a : SStep) (h : dStep x = some a) : x = cSStep a := by
  unfold dStep at h
  split at h
  · rename_i ss w
    cases e : dL dStroke ss with
    | none => rw [e] at h; simp at h
    | some l =>
      rw [e] at h
      simp only [Option.map_some, Option.some.injEq] at h
      subst h
      rw [dL_inv dStroke_inv ss l e]; rfl
  · simp at h
theorem gen17_inv {f : Nat} {cap : List AV} {out : List (List AV)} (h : gen17 f cap = some out) :
    f = 70 ∧ ∃ n l p ys, cap = [.pro [.int .i64 n, .ro (l.map cSStep)], .pro [.ro (p.map cSTravel)]] ∧ gl70 n l p = some ys ∧ out = ys.map C70 := by
  unfold gen17 at h
  split at h
  case h_2 => simp at h
  rename_i n ss ts
  split at h
  case isFalse => simp at h
  rename_i hf
  cases e1 : dL dStep ss with
  | none => rw [e1] at h; simp at h
  | some l =>
    cases e2 : dL dTravel ts with
    | none => rw [e1, e2] at h; simp at h
    | some p =>
      rw [e1, e2] at h
      simp only [Option.bind_some] at h
      cases e3 : gl70 n l p with
      | none => rw [e3] at h; simp at h
      | some ys =>
        rw [e3] at h
        simp only [Option.map_some, Option.some.injEq] at h
        rw [dL_inv dStep_inv ss l e1, dL_inv dTravel_inv ts p e2]
        exact ⟨hf, n, l, p, ys, rfl, e3, h.symm⟩
end G17
