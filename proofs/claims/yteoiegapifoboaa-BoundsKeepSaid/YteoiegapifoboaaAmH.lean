/- Operations that read: slices, indexes, fields, built values. Conditions: the relation of the values and of the heap. -/
import Derived.Test.YteoiegapifoboaaAmG
namespace Go.Am
section
variable {P : Program} {c : Ctx}

theorem bnd_run {d m : Nat} {x : Option AV} {xv : Option Value} {n : Nat} (hx : ∀ y, x = some y → ∃ yv, xv = some yv ∧ V c y yv) (hn : x = none → xv = none)
    (h : bnd d m x = some n) : (x = none ∧ xv = none ∧ n = d) ∨ (∃ k i, xv = some (.int k i) ∧ 0 ≤ i ∧ i ≤ (m : Int) ∧ n = i.toNat ∧ x ≠ none) := by
  unfold bnd at h
  split at h
  · injection h with h; exact .inl ⟨rfl, hn rfl, h.symm⟩
  · rename_i k i
    split at h
    · rename_i hb
      injection h with h
      obtain ⟨yv, e, hv⟩ := hx _ rfl
      cases hv
      exact .inr ⟨k, i, e, hb.1, hb.2, h.symm, by simp⟩
    · simp at h
  · simp at h

theorem run_sliceBound {k : IntKind} {i : Int} {y : Nat} (code : BoundsCode) (h0 : 0 ≤ i) (h1 : i ≤ (y : Int)) (w : World) :
    (Instr.sliceBound (.int k i) y code).run P w = .ok i.toNat w := by
  simp [Instr.sliceBound, asIntOf, h0, h1]

/-- the bounds of a slice expression: the lower, the upper; the capacity stays -/
theorem run_bounds {isS : Bool} {len len' cap : Nat} {lo hi : Option AV} {lov hiv : Option Value} {l h : Nat}
    (hlo : ∀ y, lo = some y → ∃ yv, lov = some yv ∧ V c y yv) (hlo' : lo = none → lov = none)
    (hhi : ∀ y, hi = some y → ∃ yv, hiv = some yv ∧ V c y yv) (hhi' : hi = none → hiv = none) (hcap : len' ≤ cap)
    (h1 : bnd len len' hi = some h) (h2 : bnd 0 h lo = some l) (w : World) :
    (Instr.sliceBounds isS len cap lov hiv none).run P w = .ok (l, h, cap) w := by
  unfold Instr.sliceBounds
  rcases bnd_run hhi hhi' h1 with ⟨_, rfl, rfl⟩ | ⟨k, i, rfl, i0, i1, rfl, _⟩
  · rcases bnd_run hlo hlo' h2 with ⟨_, rfl, rfl⟩ | ⟨k, i, rfl, i0, i1, rfl, _⟩
    · simp
    · simp [run_sliceBound _ i0 i1]
  · have : i ≤ (cap : Int) := by omega
    rcases bnd_run hlo hlo' h2 with ⟨_, rfl, rfl⟩ | ⟨k', i', rfl, j0, j1, rfl, _⟩
    · simp [run_sliceBound _ i0 this]
    · simp [run_sliceBound _ i0 this, run_sliceBound _ j0 j1]

theorem bnd_le {d m n : Nat} {x : Option AV} (h : bnd d m x = some n) : n ≤ max d m := by
  unfold bnd at h
  split at h
  · injection h with h; omega
  · split at h
    · injection h with h; omega
    · simp at h
  · simp at h

theorem add_addr (a : Addr) (n : Nat) (h : a.spot = none) : a.add n = ⟨a.block, a.off + n, none⟩ := by
  cases a; simp at h; subst h; exact add_eq _ _ _

theorem ro_nil (a : Addr) (cap : Nat) : V c (.ro []) (.slice (some a) 0 cap) :=
  .ro [] a cap 0 (fun _ _ => undef) (by simp) (by simp) (by simp) (by intro i j hi; simp at hi) (by intro i j hi; simp at hi)

theorem slc_V (hr : HR c) {t e : TypeId} {sz : Nat} (ht : P.underlying t = some (.slice e)) (hsz : szOf P e = some sz) {x r : AV} {xv : Value} {lo hi : Option AV} {lov hiv : Option Value}
    (hx : V c x xv) (hlo : ∀ y, lo = some y → ∃ yv, lov = some yv ∧ V c y yv) (hlo' : lo = none → lov = none)
    (hhi : ∀ y, hi = some y → ∃ yv, hiv = some yv ∧ V c y yv) (hhi' : hi = none → hiv = none)
    (h : slc c.H sz x lo hi = some r) : ∃ v, (Instr.sliceAt t xv lov hiv none).run P c.w = .ok v c.w ∧ V c r v := by
  have hrun : ∀ (a : Option Addr) (len cap l h : Nat), (Instr.sliceBounds true len cap lov hiv none).run P c.w = .ok (l, h, cap) c.w →
      (Instr.sliceAt t (.slice a len cap) lov hiv none).run P c.w = .ok (.slice (if cap = l then a else a.map (·.add (l * sz))) (h - l) (cap - l)) c.w := by
    intro a len cap l h hb
    simp only [Instr.sliceAt, Sem.run_bind, run_under ht, Result.andThen_ok, Instr.slice, hb, run_szOf hsz, Sem.run_pure]
  unfold slc at h
  split at h
  · rename_i es
    cases hx with
    | ro0 =>
      split at h
      case h_2 => simp at h
      rename_i hh eh
      split at h
      case h_2 => simp at h
      rename_i l el
      have hhle := bnd_le eh
      have hlle := bnd_le el
      have hb := run_bounds (P := P) (isS := true) (len := 0) (cap := 0) hlo hlo' hhi hhi' (Nat.le_refl _) eh el c.w
      refine ⟨_, hrun _ _ _ _ _ hb, ?_⟩
      have hh0 : hh = 0 := by simpa using hhle
      have hl0 : l = 0 := by omega
      subst hh0; subst hl0
      simp only [if_true] at h
      injection h with h; subst h
      simp only [if_true, Nat.sub_self]
      exact .ro0
    | ro _ a cap sz' vs hcap h1 h2 h3 h4 =>
      split at h
      case h_2 => simp at h
      rename_i hh eh
      split at h
      case h_2 => simp at h
      rename_i l el
      have hb := run_bounds (P := P) (isS := true) (len := es.length) (cap := cap) hlo hlo' hhi hhi' hcap eh el c.w
      have hhle := bnd_le eh
      have hlle := bnd_le el
      refine ⟨_, hrun _ _ _ _ _ hb, ?_⟩
      split at h
      · rename_i heq
        injection h with h; subst h; subst heq
        simp only [Nat.sub_self]
        by_cases hc : cap = l
        · rw [if_pos hc]; exact ro_nil _ _
        · rw [if_neg hc]; exact ro_nil _ _
      · rename_i hne
        split at h
        case h_2 => simp at h
        rename_i cs hcs
        obtain ⟨hl, rfl⟩ := List.getElem?_eq_some_iff.1 hcs
        split at h
        case isFalse => simp at h
        rename_i hlen
        injection h with h; subst h
        have hsz' : sz' = sz := by rw [← h2 l hl]; exact hlen
        subst hsz'
        have hcl : ¬ cap = l := by omega
        have hlen2 : hh - l = ((es.drop l).take (hh - l)).length := by simp; omega
        rw [if_neg hcl, Option.map_some]
        conv => rhs; rw [hlen2]
        by_cases hz : sz' = 0
        · subst hz
          refine .ro _ _ _ 0 (fun i j => vs (l + i) j) (by simp; omega) (by intro _ h0; omega) ?_ ?_ ?_
          · intro i hi; simp only [List.getElem_take, List.getElem_drop]; exact h2 _ _
          · intro i j hi hj
            simp only [List.getElem_take, List.getElem_drop] at hj
            rw [h2] at hj; omega
          · intro i j hi hj
            simp only [List.getElem_take, List.getElem_drop] at hj ⊢
            exact h4 _ _ _ hj
        · obtain ⟨hsp, hO⟩ := h1 (by intro e; simp [e] at hl) (by omega)
          rw [add_addr a _ hsp]
          refine .ro _ _ _ sz' (fun i j => vs (l + i) j) (by simp; omega) (fun _ _ => ⟨rfl, hO⟩) ?_ ?_ ?_
          · intro i hi; simp only [List.getElem_take, List.getElem_drop]; exact h2 _ _
          · intro i j hi hj
            simp only [List.getElem_take, List.getElem_drop] at hj
            have := h3 (l + i) j (by simp at hi; omega) hj
            simp only
            rw [← this]
            congr 2
            rw [Nat.add_mul]; omega
          · intro i j hi hj
            simp only [List.getElem_take, List.getElem_drop] at hj ⊢
            exact h4 _ _ _ hj
  · rename_i id ext off len
    split at h
    case h_2 => simp at h
    rename_i sz' es hl
    obtain ⟨nl, hid⟩ := getLive_some hl
    split at h
    case isFalse => simp at h
    rename_i hc
    obtain ⟨hext, rfl⟩ := hc
    split at h
    case h_2 => simp at h
    rename_i hh eh
    split at h
    case h_2 => simp at h
    rename_i l el
    have hhle := bnd_le eh
    have hlle := bnd_le el
    cases hx with
    | own _ _ _ _ _ how =>
      obtain ⟨hlt, _, how⟩ := how
      obtain ⟨hle, how⟩ := how _ _ _ hid
      obtain ⟨hol, how⟩ := how hext
      rcases how with ⟨hnl, hes, rfl⟩ | ⟨hnn, cap, rfl, hcap⟩
      · subst hes
        have hext0 : ext = 0 := by simpa using hext
        have hlen0 : len = 0 := by omega
        subst hlen0
        have hb := run_bounds (P := P) (isS := true) (len := 0) (cap := 0) hlo hlo' hhi hhi' (Nat.le_refl _) eh el c.w
        refine ⟨_, hrun _ _ _ _ _ hb, ?_⟩
        have hh0 : hh = 0 := by omega
        have hl0 : l = 0 := by omega
        subst hh0; subst hl0
        simp only [if_true] at h
        split at h
        · injection h with h; subst h
          simp only [if_true, Nat.sub_self]
          refine .own _ _ _ _ _ ⟨hlt, ⟨_, _, rfl⟩, fun nl' sz'' es'' hid' => ?_⟩
          rw [hid] at hid'
          injection hid' with hid'
          injection hid' with q1 q2 q3
          subst q1; subst q2; subst q3
          exact ⟨by omega, fun _ => ⟨by omega, .inl ⟨hnl, rfl, rfl⟩⟩⟩
        · injection h with h; subst h
          simp only [roOf, if_true, Nat.sub_self]
          exact .ro0
      · obtain ⟨cells, elem, b1, b2, b3, b4, b5⟩ := hr.back _ _ _ _ hid hnn
        have hcapl : len ≤ cap := by omega
        have hb := run_bounds (P := P) (isS := true) (len := len) (cap := cap) hlo hlo' hhi hhi' hcapl eh el c.w
        refine ⟨_, hrun _ _ _ _ _ hb, ?_⟩
        split at h
        · rename_i heq
          split at h
          · have hl0 : l = 0 := by
              have e0 : some 0 = some l := el
              injection e0 with e0; exact e0.symm
            injection h with h; subst h; subst heq
            subst hl0
            refine .own _ _ _ _ _ ⟨hlt, ?_, fun nl' sz'' es' hid' => ?_⟩
            · by_cases hcl : cap = 0
              · rw [if_pos hcl]; exact ⟨_, _, rfl⟩
              · rw [if_neg hcl]; exact ⟨_, _, rfl⟩
            · rw [hid] at hid'
              injection hid' with hid'
              injection hid' with q1 q2 q3
              subst q1; subst q2; subst q3
              refine ⟨hle, fun _ => ⟨by omega, .inr ⟨hnn, cap, ?_, by omega⟩⟩⟩
              by_cases hcl : cap = 0
              · rw [if_pos hcl]; simp
              · rw [if_neg hcl]; simp [add_eq]
          injection h with h; subst h; subst heq
          have hro : roOf (nlAt c.H id) es [] = .ro [] := rfl
          rw [hro]
          simp only [Nat.sub_self]
          by_cases hcl : cap = l
          · rw [if_pos hcl]; exact ro_nil _ _
          · rw [if_neg hcl]; exact ro_nil _ _
        · rename_i hne
          injection h with h; subst h
          have hcl : ¬ cap = l := by omega
          rw [if_neg hcl, Option.map_some, add_eq]
          refine .own _ _ _ _ _ ⟨hlt, ⟨_, _, rfl⟩, fun nl' sz'' es' hid' => ?_⟩
          rw [hid] at hid'
          injection hid' with hid'
          obtain ⟨rfl, rfl, rfl⟩ : nl = nl' ∧ sz' = sz'' ∧ es = es' := by injection hid' with a b c; exact ⟨a, b, c⟩
          refine ⟨hle, fun _ => ⟨by omega, .inr ⟨hnn, cap - l, ?_, by omega⟩⟩⟩
          rw [Nat.add_mul]
  · split at h
    case h_2 => simp at h
    rename_i hh eh
    split at h
    case h_2 => simp at h
    rename_i l el
    injection h with h; subst h
    cases hx
    have hhle := bnd_le eh
    have hlle := bnd_le el
    have hb := run_bounds (P := P) (isS := true) (len := 0) (cap := 0) hlo hlo' hhi hhi' (Nat.le_refl _) eh el c.w
    refine ⟨_, hrun _ _ _ _ _ hb, ?_⟩
    have hh0 : hh = 0 := by omega
    have hl0 : l = 0 := by omega
    subst hh0; subst hl0
    simp
    exact .nils
  · simp at h

end
end Go.Am
