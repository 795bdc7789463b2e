/- Typed states: values handed over, shapes of states. No condition. -/
import Derived.Test.YtafgdbaekppjcaaGreatDoorDnD
set_option linter.unusedSectionVars false
set_option linter.unusedVariables false
set_option linter.unusedSimpArgs false
namespace Dnm
open Go hiding Obj mark
open Go.Pl Go.Am Go.Am.As
set_option linter.unusedVariables false
section
variable {G : Nat → Type} {R : Type}
/- values that hold no memory -/
mutual
def TV.free : TV G → Bool
  | .agg l => TV.frees l
  | .tup l => TV.frees l
  | .fn _ l => TV.frees l
  | .po .. | .own _ | .pe .. | .pa .. | .sa .. => false
  | .raw v => v.bel 0
  | _ => true
def TV.frees : List (TV G) → Bool
  | [] => true
  | x :: xs => x.free && TV.frees xs
end
mutual
theorem free_bel {g : Ge G} (hg : g.Ok) (ln : Nat → Nat) : ∀ v : TV G, v.free = true → (v.av g ln).bel 0 = true
  | .agg l, h => frees_bel hg ln l h
  | .tup l, h => frees_bel hg ln l h
  | .fn _ l, h => frees_bel hg ln l h
  | .int _ _, _ | .bool _, _ | .str _, _ | .lst _ _, _ | .rol _, _ | .pro _, _ => rfl
  | .olst t o, _ => by cases o <;> rfl
  | .optr t o, _ => by cases o <;> rfl
  | .arr n t a, _ => (encOk hg (.arr n t)).bel a
  | .raw v, h => h
  | .po .., h | .own _, h | .pe .., h | .pa .., h | .sa .., h => by cases h
theorem frees_bel {g : Ge G} (hg : g.Ok) (ln : Nat → Nat) : ∀ l : List (TV G), TV.frees l = true → AV.bels 0 (TV.avs g ln l) = true
  | [], _ => rfl
  | x :: l, h => by
    simp only [TV.frees, Bool.and_eq_true] at h
    simp only [TV.avs, AV.bels, free_bel hg ln x h.1, frees_bel hg ln l h.2, Bool.and_self]
end
def freess : List (List (TV G)) → Bool
  | [] => true
  | x :: xs => TV.frees x && freess xs
theorem freess_bel {g : Ge G} (hg : g.Ok) (ln : Nat → Nat) : ∀ l : List (List (TV G)), freess l = true → AV.belss 0 (TV.avss g ln l) = true
  | [], _ => rfl
  | x :: l, h => by
    simp only [freess, Bool.and_eq_true] at h
    simp only [TV.avss, AV.belss, frees_bel hg ln x h.1, freess_bel hg ln l h.2, Bool.and_self]
def pkmV (f : TV G → Option (TV G)) : List (TV G) → Option (List (TV G))
  | [] => some []
  | x :: xs => (match f x with
    | some y => (match pkmV f xs with | some ys => some (y :: ys) | none => none)
    | none => none)
def pkcV (f : TV G → Option (TV G)) (H : List (TO G)) : TV G → Option (TV G)
  | .po id o => (match H[id]? with
    | some (.box cs) => (match pkmV f (cs.drop o) with | some l => some (.pro l) | none => none)
    | _ => none)
  | v => f v
def pkV (H : List (TO G)) : Nat → TV G → Option (TV G)
  | 0, v => if v.free then some v else none
  | d + 1, v => if v.free then some v else match v with
    | .own id => (match H[id]? with
      | some (.lst fl t l) => some (.lst t l)
      | some (.raws fl sz es) => if freess es then some (.rol es) else none
      | _ => none)
    | .sa id lo len m _ => (match H[id]? with
      | some (.arr n t a) => if t = .bool ∧ m = n then some (.lst t ((a.1.drop lo).take len)) else none
      | _ => none)
    | .agg l => (match pkmV (pkV H d) l with | some l => some (.agg l) | none => none)
    | .tup l => (match pkmV (pkV H d) l with | some l => some (.tup l) | none => none)
    | .fn f l => (match pkmV (pkcV (pkV H d) H) l with | some l => some (.fn f l) | none => none)
    | _ => none
theorem pkmV_ok {g : Ge G} {ln : Nat → Nat} {f : TV G → Option (TV G)} {p : AV → Option AV} (h : ∀ x y, f x = some y → p (x.av g ln) = some (y.av g ln)) : ∀ {l m : List (TV G)}, pkmV f l = some m → mapO p (TV.avs g ln l) = some (TV.avs g ln m)
  | [], m, e => by injection e with e; subst e; rfl
  | x :: l, m, e => by
    rw [pkmV] at e
    split at e
    case h_2 => cases e
    rename_i y hy
    split at e
    case h_2 => cases e
    rename_i ys hys
    injection e with e; subst e
    simp only [TV.avs, mapO, h _ _ hy, pkmV_ok h hys]
theorem mapOO_id {p : AV → Option AV} (hp : ∀ a, a.bel 0 = true → p a = some a) : ∀ {es : List (List AV)}, AV.belss 0 es = true → mapOO p es = some es
  | [], _ => rfl
  | e :: r, h => by
    simp only [AV.belss, Bool.and_eq_true] at h
    have h1 : ∀ {l : List AV}, AV.bels 0 l = true → mapO p l = some l := by
      intro l
      induction l with
      | nil => intro _; rfl
      | cons a l ih =>
        intro h
        simp only [AV.bels, Bool.and_eq_true] at h
        simp only [mapO, hp a h.1, ih h.2]
    simp only [mapOO, h1 h.1, mapOO_id hp h.2]
theorem saB {H : List Obj} {id n sz lo len : Nat} (a : Arr n Bool) (hH : H[id]? = some (.live .norm sz [(a.1.map fun b => [AV.bool b]).flatten])) (hc : lo + len ≤ n) (d : Nat) :
    (match arrElems H id 1 0 lo 1 len with | some l => (match mapOO (pk d H) l with | some l' => some (AV.ro l') | none => none) | none => none) = some (.ro (((a.1.drop lo).take len).map fun b => [AV.bool b])) := by
  have hn := a.2
  rw [flat1 (f := AV.bool)] at hH
  simp only [arrElems, getLive, hH, List.length_singleton, if_true, List.getElem?_cons_zero, List.length_map, hn, Nat.mul_one]
  rw [if_pos hc, ← List.map_drop, slc_arr_pk (C := fun b => [AV.bool b]) (fun _ => rfl) len _ (by rw [List.length_drop, hn]; omega)]
  dsimp only
  rw [mapOO_map (C := fun b => [AV.bool b]) (fun _ => rfl)]
theorem pkV_ok {g : Ge G} (hg : g.Ok) {s : DS G} : ∀ (d : Nat) {v w : TV G}, pkV s.H d v = some w → pk d (s.Hv g) (v.av g s.ln) = some (w.av g s.ln)
  | 0, v, w, h => by
    unfold pkV at h
    split at h
    · rename_i hf; injection h with h; subst h; exact pk_free (free_bel hg _ _ hf)
    · cases h
  | d + 1, v, w, h => by
    unfold pkV at h
    split at h
    · rename_i hf; injection h with h; subst h; exact pk_free (free_bel hg _ _ hf)
    rename_i hf
    have nb : ∀ {a : AV} {r : Option AV}, (∀ (b : AV), a.bel 0 = true → r = some b → b = a) → r.isSome = true → (match a with
        | .own id ext off len =>
          (match getLive (s.Hv g) id with
           | some (_, es) => if ext = es.length then
               (match mapOO (pk d (s.Hv g)) ((es.drop off).take len) with | some l => some (roOf (nlAt (s.Hv g) id) es l) | none => none)
              else none
           | none => none)
        | .arr id ext e o sz len =>
          (match arrElems (s.Hv g) id ext e o sz len with
           | some l => (match mapOO (pk d (s.Hv g)) l with | some l' => some (AV.ro l') | none => none)
           | none => none)
        | .agg cs => (match mapO (pk d (s.Hv g)) cs with | some l => some (.agg l) | none => none)
        | .tup cs => (match mapO (pk d (s.Hv g)) cs with | some l => some (.tup l) | none => none)
        | .fn f cap => (match mapO (pkc (pk d (s.Hv g)) (s.Hv g)) cap with | some l => some (.fn f l) | none => none)
        | _ => none) = r → pk (d + 1) (s.Hv g) a = r := by
      intro a r hid hs he
      unfold pk
      split
      · rename_i hb
        cases r with
        | none => cases hs
        | some b => rw [hid b hb rfl]
      · exact he
    have mid : ∀ {l m : List AV} {p : AV → Option AV}, (∀ a, a.bel 0 = true → p a = some a) → AV.bels 0 l = true → mapO p l = some m → m = l := by
      intro l
      induction l with
      | nil => intro m p _ _ h; injection h with h; exact h.symm
      | cons a l ih =>
        intro m p hp hb h
        simp only [AV.bels, Bool.and_eq_true] at hb
        rw [mapO, hp a hb.1] at h
        split at h
        case h_2 => cases h
        rename_i y ys h1 h2
        injection h1 with h1; subst h1
        injection h with h; subst h
        rw [ih hp hb.2 h2]
    split at h
    · rename_i id
      split at h
      · rename_i fl t l hid
        injection h with h; subst h
        refine nb (r := some (.ro (l.map (enc g t)))) (fun b hb => ?_) rfl ?_
        · simp [TV.av, AV.bel] at hb
        · simp only [TV.av, getLive, Hv_get hid, TO.av, setN_lst hid, List.length_map, if_true, List.drop_zero]
          rw [List.take_of_length_le (by simp), mapOO_map (encOk hg t).bel l]; rfl
      · rename_i fl sz es hid
        split at h
        case isFalse => cases h
        rename_i hfr
        injection h with h; subst h
        have e : s.ln id = es.length := by unfold DS.ln lnH; rw [hid]; rfl
        refine nb (r := some (.ro (TV.avss g s.ln es))) (fun b hb => ?_) rfl ?_
        · simp [TV.av, AV.bel] at hb
        · simp only [TV.av, getLive, Hv_get hid, TO.av, e]
          have hl : (TV.avss g s.ln es).length = es.length := by rw [avss_map, List.length_map]
          rw [if_pos hl.symm, List.drop_zero, List.take_of_length_le (by rw [hl]; exact Nat.le_refl _), mapOO_id (fun a ha => pk_free ha) (freess_bel hg s.ln es hfr)]; rfl
      · cases h
    · rename_i id lo len m hm
      split at h
      case h_2 => cases h
      rename_i n t a hid
      split at h
      case isFalse => cases h
      rename_i hc
      obtain ⟨rfl, hc⟩ := hc
      subst hc
      injection h with h; subst h
      rw [show (TV.sa id lo len _ hm : TV G).av g s.ln = if len = 0 then .ro [] else .arr id 1 0 lo 1 len from rfl]
      by_cases h0 : len = 0
      · subst h0
        rw [if_pos rfl]
        exact pk_free (v := AV.ro []) rfl
      · rw [if_neg h0]
        refine nb (r := some _) (fun b hb => ?_) rfl ?_
        · simp [AV.bel] at hb
        · exact saB (show Arr _ Bool from a) (Hv_get hid) hm d
    · rename_i l
      split at h
      case h_2 => cases h
      rename_i m hm
      injection h with h; subst h
      have h1 := pkmV_ok (g := g) (ln := s.ln) (fun x y e => pkV_ok hg d e) hm
      refine nb (r := some (.agg (TV.avs g s.ln m))) (fun b hb e => ?_) rfl (by simp only [TV.av, h1])
      injection e with e; subst e
      show AV.agg _ = AV.agg _
      rw [mid (fun a ha => pk_free ha) hb h1]
    · rename_i l
      split at h
      case h_2 => cases h
      rename_i m hm
      injection h with h; subst h
      have h1 := pkmV_ok (g := g) (ln := s.ln) (fun x y e => pkV_ok hg d e) hm
      refine nb (r := some (.tup (TV.avs g s.ln m))) (fun b hb e => ?_) rfl (by simp only [TV.av, h1])
      injection e with e; subst e
      show AV.tup _ = AV.tup _
      rw [mid (fun a ha => pk_free ha) hb h1]
    · rename_i f l
      split at h
      case h_2 => cases h
      rename_i m hm
      injection h with h; subst h
      have h1 := pkmV_ok (g := g) (ln := s.ln) (p := pkc (pk d (s.Hv g)) (s.Hv g)) (fun x y e => by
        unfold pkcV at e
        split at e
        · rename_i id o
          split at e
          case h_2 => cases e
          rename_i cs hid
          split at e
          case h_2 => cases e
          rename_i l' hl'
          injection e with e; subst e
          have h2 := pkmV_ok (g := g) (ln := s.ln) (fun x y e => pkV_ok hg d e) hl'
          simp only [TV.av, pkc, getLive, Hv_get hid, TO.av, List.length_singleton, if_true, List.getElem?_cons_zero]
          rw [show (TV.avs g s.ln cs).drop o = TV.avs g s.ln (cs.drop o) by rw [avs_map, avs_map, List.map_drop], h2]
        · rename_i hne
          have h3 := pkV_ok hg d e
          unfold pkc
          split
          · rename_i id ext e' o' ea
            -- a value with that reading is no packed one
            have : pk d (s.Hv g) (.pown id ext e' o') = none := by
              cases d with
              | zero => unfold pk; rw [if_neg (by simp [AV.refFree, AV.bel])]
              | succ d => unfold pk; rw [if_neg (by simp [AV.refFree, AV.bel])]
            rw [ea, this] at h3; cases h3
          · exact h3) hm
      refine nb (r := some (.fn f (TV.avs g s.ln m))) (fun b hb e => ?_) rfl (by simp only [TV.av, h1])
      injection e with e; subst e
      show AV.fn _ _ = AV.fn _ _
      congr 1
      refine mid (p := pkc (pk d (s.Hv g)) (s.Hv g)) (fun a ha => ?_) hb h1
      unfold pkc
      split
      · simp [AV.bel] at ha
      · exact pk_free ha
    · cases h
end
end Dnm
