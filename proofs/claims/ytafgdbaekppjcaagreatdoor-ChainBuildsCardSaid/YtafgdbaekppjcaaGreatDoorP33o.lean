/- Plain laws of chapter 33's models: ChainBuilds answers true. No condition. -/
import Derived.Test.YtafgdbaekppjcaaGreatDoorP33k
set_option linter.unusedSectionVars false
set_option linter.unusedVariables false
set_option linter.unusedSimpArgs false
namespace G33
open Go Go.Pl
set_option linter.unusedVariables false
set_option linter.unusedSimpArgs false
theorem size_one {e : SExpr} (h : e.Args = []) : Size 1 1 e := by
  have := Size.mk (d := 0) (e := e) (fun _ => 0) (by rw [h]; decide) (fun k hk => by rw [h] at hk; exact absurd hk (Nat.not_lt_zero _))
  rw [h] at this; exact this
theorem nest_one {e : SExpr} (h : e.Args = []) : Nest 1 e := .mk (by rw [h]; decide) (fun k hk => by rw [h] at hk; exact absurd hk (Nat.not_lt_zero _))
theorem lit_line (n : Int) : Lit (lineE n) := ⟨1, 1, size_one rfl, nest_one rfl, by decide, by decide⟩
theorem lit_no : Lit noE := ⟨1, 1, size_one rfl, nest_one rfl, by decide, by decide⟩
def Lines (l : List SExpr) : Prop := ∀ x ∈ l, ∃ n, x = lineE n
theorem sum_one : ∀ n : Nat, ((List.range n).map fun _ => 1).sum = n
  | 0 => rfl
  | n + 1 => by rw [List.range_succ, List.map_append, List.sum_append, sum_one n]; rfl
theorem lit_of (a : Int) {l : List SExpr} (h : Lines l) (hl : l.length ≤ 200) : Lit ⟨a, 0, l⟩ := by
  refine ⟨2, 1 + l.length, ?_, .mk (by show l.length < 1000; omega) (fun k hk => ?_), by decide, by omega⟩
  · have := Size.mk (d := 1) (e := ⟨a, 0, l⟩) (fun _ => 1) (by show l.length < 1000; omega) (fun k hk => by
      obtain ⟨n, e⟩ := h _ (List.getElem_mem hk)
      rw [e]
      exact size_one rfl)
    rw [show (1 + l.length : Nat) = 1 + ((List.range (⟨a, 0, l⟩ : SExpr).Args.length).map (fun _ => 1)).sum by rw [sum_one]]
    exact this
  · obtain ⟨n, e⟩ := h _ (List.getElem_mem hk)
    rw [e]
    exact nest_one rfl
theorem lit_sev (a : Int) {l : List SExpr} (h : Lines l) (hl : l.length ≤ 200) : Lit (sev a l) := by
  unfold sev
  split
  · rename_i x
    obtain ⟨n, rfl⟩ := h x (by simp)
    exact lit_line n
  · exact lit_of a h hl
theorem lines_sw (l : List SStroke) : Lines (l.map swE) := fun x hx => by
  obtain ⟨y, _, rfl⟩ := List.mem_map.1 hx
  exact ⟨_, rfl⟩
theorem lines_app {l m : List SExpr} (h : Lines l) (h2 : Lines m) : Lines (l ++ m) := fun x hx => by
  rcases List.mem_append.1 hx with hx | hx
  · exact h x hx
  · exact h2 x hx
theorem lines_one (n : Int) : Lines [lineE n] := fun x hx => ⟨n, by simpa using hx⟩
theorem lines_nil : Lines [] := fun x hx => by cases hx
theorem lines_end (s : SSequence) (n : Int) (k : Nat) : Lines (endE s n k) := by
  unfold endE
  split
  · split
    · exact lines_sw _
    · exact lines_one _
  · exact lines_nil
theorem lines_pil (s : SSequence) (M : List Int) (a : Int) (o : Bool) : ∀ k, Lines (pil s M a o k)
  | 0 => lines_nil
  | k + 1 => by
    rw [pil]
    refine lines_app (lines_pil s M a o k) ?_
    split
    · split
      · exact lines_one _
      · exact lines_nil
    · exact lines_nil
theorem end_len (s : SSequence) (h : Good s) (n : Int) (k : Nat) : (endE s n k).length ≤ 6 := by
  by_cases hk : k < s.Steps.length
  · exact endE_len h hk
  · unfold endE
    rw [List.getElem?_eq_none (by omega)]
    exact Nat.zero_le _
theorem ctl_lit {s : SSequence} (h : Good s) : ∀ x ∈ (ctl s).Signals, Lit x.On ∧ Lit x.Off := by
  intro x hx
  have hn := h.n64
  rcases List.mem_append.1 (show x ∈ base s ++ pils s (plc s) s.Actuators.toNat from hx) with hx | hx
  · rcases List.mem_append.1 (show x ∈ chain s ++ clks s (plc s) s.Steps.length from hx) with hx | hx
    · unfold chain at hx
      split at hx
      · have e0 := end_len s h (tb s) 0
        have e1 := end_len s h (tb s) 1
        simp only [List.mem_cons, List.not_mem_nil, or_false] at hx
        rcases hx with rfl | rfl
        · exact ⟨lit_sev 3 (lines_end s _ 0) (by omega), lit_sev 3 (lines_app (lines_end s _ 1) (lines_one _)) (by rw [List.length_append]; simp; omega)⟩
        · exact ⟨lit_of 2 (lines_one _) (by simp), lit_no⟩
      · obtain ⟨k, hk, rfl⟩ := List.mem_map.1 (show x ∈ (List.range s.Steps.length).map (modSig s) from hx)
        refine ⟨lit_sev 3 ?_ ?_, lit_line _⟩
        · refine lines_app (lines_app (lines_one _) (lines_end s _ _)) ?_
          split
          · exact lines_one _
          · exact lines_nil
        · have e0 := end_len s h (tb s) ((k + s.Steps.length - 1) % s.Steps.length)
          rw [List.length_append, List.length_cons]
          split <;> simp <;> omega
    · obtain ⟨k, hk, hx⟩ := List.mem_flatMap.1 (show x ∈ (List.range s.Steps.length).flatMap (clkOf s (plc s)) from hx)
      unfold clkOf at hx
      split at hx
      · rename_i y m hy hm
        split at hx
        · cases hx
        · simp only [List.mem_cons, List.not_mem_nil, or_false] at hx
          subst hx
          obtain ⟨hk', rfl⟩ := List.getElem?_eq_some_iff.1 hy
          have := (h.step k hk').le
          exact ⟨lit_of 3 (lines_app (lines_one m) (lines_sw _)) (by simp; omega), lit_no⟩
      · cases hx
  · obtain ⟨a, ha, hx⟩ := List.mem_flatMap.1 (show x ∈ (List.range s.Actuators.toNat).flatMap (fun a => [pilSig s (plc s) a true, pilSig s (plc s) a false]) from hx)
    have key : ∀ o, Lit (pilSig s (plc s) a o).On ∧ Lit (pilSig s (plc s) a o).Off := fun o =>
      ⟨lit_sev 4 (lines_pil s _ _ _ _) (by have := pil_len s (plc s) a o s.Steps.length; omega), lit_no⟩
    simp only [List.mem_cons, List.not_mem_nil, or_false] at hx
    rcases hx with rfl | rfl
    · exact key true
    · exact key false
theorem built_same (s : SSequence) : m14 (built s).1 (built s).1 = some true := by
  unfold built
  split
  · exact m14_refl (by show (0 : Nat) < _; decide) (by show (0 : Nat) < _; decide) (by show (0 : Nat) < _; decide) (by show (0 : Nat) < _; decide) (fun x hx => by cases hx)
  · rename_i he
    have he : err s = 0 := by omega
    have hc : chk s = 0 := by
      unfold err at he
      split at he
      · exact absurd he (by assumption)
      · omega
    have h := chk_good hc
    have ha6 := h.a6
    have hn := h.n64
    have hcn := cnt_le s s.Steps.length
    have hl := ctl_len h
    have p0 := pm_len (s := s) (d := 0) (k := s.Actuators.toNat)
    have p1 := pm_len (s := s) (d := 1) (k := s.Actuators.toNat)
    exact m14_refl (by show (1 : Nat) < 1000000; omega) (by show (ctl s).Signals.length < _; omega) (by show (pm s 0 _).length < _; omega) (by show (pm s 1 _).length < _; omega) (ctl_lit h)
theorem m10_some (s : SSequence) : ∃ b, m10 s = some b ∧ (b = true → Small s) := by
  unfold m10
  by_cases hs : s.Steps.length ≤ 128
  · rw [cond_f (by simp only [decide_eq_false_iff_not]; omega)]
    rw [iter_list s.Steps (fun x => bif decide ((x.Strokes.length : Int) > 40) then some false else none) ?hn () ?h0 ?h ?he]
    case hn => unfold fuel; omega
    case h0 => rfl
    case he =>
      try dsimp only
      rw [cond_f (lt_f (by omega))]
    case h =>
      intro k hk
      try dsimp only
      rw [cond_t (lt_t (by omega)), idx_lt hk]
      simp only [Option.bind_some]
      rw [addI_nat (by omega)]
      cases decide ((s.Steps[k].Strokes.length : Int) > 40) <;> rfl
    cases hf : s.Steps.findSome? (fun x => bif decide ((x.Strokes.length : Int) > 40) then some false else none) with
    | none =>
      refine ⟨true, rfl, fun _ => ⟨by omega, fun x hx => ?_⟩⟩
      rw [List.findSome?_eq_none_iff] at hf
      have := hf x hx
      cases hd : decide ((x.Strokes.length : Int) > 40) with
      | true => rw [hd] at this; cases this
      | false => rw [decide_eq_false_iff_not] at hd; omega
    | some r =>
      refine ⟨r, rfl, fun hr => ?_⟩
      obtain ⟨x, hx, hr2⟩ := List.exists_of_findSome?_eq_some hf
      cases hd : decide ((x.Strokes.length : Int) > 40) with
      | true => rw [hd] at hr2; injection hr2 with hr2; rw [hr] at hr2; cases hr2
      | false => rw [hd] at hr2; cases hr2
  · exact ⟨false, by rw [cond_t (by simp only [decide_eq_true_eq]; omega)], nofun⟩
theorem plain3 (s : SSequence) : m3 s = some true := by
  obtain ⟨b, hb, hS⟩ := m10_some s
  unfold m3
  rw [hb]
  cases b with
  | false => rfl
  | true =>
    simp only [Option.bind_some, Bool.not_true, cond_false]
    rw [m12_eq, m13_eq s (hS rfl)]
    simp only [Option.bind_some]
    rw [built_same s]
    simp only [Option.bind_some, cond_true]
    rw [cond_t (by simp)]
    rfl
end G33
