/- Parts of my machine and its laws, joined: P33k P33l P33m P33n. No condition. -/
import Derived.Test.YtafgdbaekppjcaaGreatDoorP33d
set_option linter.unusedSectionVars false
set_option linter.unusedVariables false
set_option linter.unusedSimpArgs false
section
namespace G33
open Go Go.Pl
set_option linter.unusedVariables false
set_option linter.unusedSimpArgs false
theorem m143_eq (s : SSequence) (f : Int) (M T : List Int) (hs : s.Steps.length ≤ 64) (hM : M.length = s.Steps.length) (h : ∀ k (h : k < s.Steps.length), StepOk s.Steps[k]) :
    m143 ⟨s, f, M, T⟩ = some (clks s M s.Steps.length) := by
  unfold m143
  rw [iter_fold (fun k : Nat => ((k : Int), clks s M k)) s.Steps.length ?hn (clks s M s.Steps.length) ?h0 ?h ?he]
  case hn => unfold fuel; omega
  case h0 => simp [clks]
  case he =>
    try dsimp only
    rw [cond_f (lt_f (by omega))]
  case h =>
    intro k hk
    try dsimp only
    have hc := clks_len s M k
    have ho := h k hk
    have hle := ho.le
    have hwt := ho.wait
    rw [cond_t (lt_t (by omega)), idx_lt hk]
    simp only [Option.bind_some, m217_line]
    rw [clks_succ, addI_nat (by omega)]
    have e : clkOf s M k = if s.Steps[k].Wait = 0 then [] else [⟨nameOf [119] k, 2, ⟨3, 0, lineE (M[k]'(by omega)) :: s.Steps[k].Strokes.map swE⟩, noE, s.Steps[k].Wait, false⟩] := by
      unfold clkOf; rw [List.getElem?_eq_getElem hk, List.getElem?_eq_getElem (show k < M.length by omega)]
    rw [e]
    by_cases hw : s.Steps[k].Wait = 0
    · rw [cond_f (by simp; omega), if_pos hw]
      simp
    · rw [cond_t (by simp; omega), if_neg hw, idx_lt (show k < M.length by omega)]
      simp only [Option.bind_some, SExpr.eta3]
      rw [iter_fold (fun i : Nat => ((i : Int), clks s M k, [lineE (M[k]'(by omega))], sws s.Steps[k].Strokes i)) s.Steps[k].Strokes.length ?hn (clks s M k, [lineE (M[k]'(by omega))], s.Steps[k].Strokes.map swE) ?h0 ?h ?he]
      case hn => unfold fuel; omega
      case h0 => simp [sws]
      case he =>
        try dsimp only
        rw [cond_f (lt_f (by omega)), sws_all]
      case h =>
        intro i hi
        try dsimp only
        obtain ⟨h1, h2⟩ := ho.act i hi
        have hl : (sws s.Steps[k].Strokes i).length = i := by simp [sws]; omega
        have e0 : mulI .i64 2 s.Steps[k].Strokes[i].Actuator = 2 * s.Steps[k].Strokes[i].Actuator := by unfold mulI; exact wrap_i64 (by omega) (by omega)
        rw [cond_t (lt_t (by omega)), idx_lt hi]
        simp only [Option.bind_some, e0]
        rw [sws_succ hi, addI_nat (by omega)]
        cases hx : s.Steps[k].Strokes[i].Out with
        | true =>
          simp only [cond_true, Option.bind_some]
          rw [addI_eq (by omega) (by omega), appc_eq (by simp [hl]; omega) (by simp [hl]; omega)]
          simp [swE, hx, lineE]
        | false =>
          simp only [cond_false, Option.bind_some]
          rw [appc_eq (by simp [hl]; omega) (by simp [hl]; omega)]
          simp [swE, hx, lineE]
      simp only [Option.bind_some]
      obtain ⟨t, ht, ht2⟩ := num_eq (p := [119]) (.inr rfl) (show k < 100 by omega)
      obtain ⟨v, hv, hv2⟩ := Option.bind_eq_some_iff.mp ht2
      rw [appc_eq (by simp; omega) (by simp; omega), hv]
      simp only [Option.bind_some]
      rw [hv2]
      have hnm : nameOf [119] k = t := by unfold nameOf; rw [ht]; rfl
      obtain ⟨y, l, hyl⟩ : ∃ y l, s.Steps[k].Strokes.map swE = y :: l := by
        cases hq : s.Steps[k].Strokes with
        | nil => have := ho.pos; rw [hq] at this; simp at this
        | cons a l => exact ⟨_, _, rfl⟩
      simp only [Option.bind_some, List.singleton_append]
      rw [hyl, m214_148, sev3, hnm]
      simp only [Option.bind_some, SExpr.eta3]
      rw [appc_eq (by simp; omega) (by simp; omega)]
      rfl
  rfl
end G33
end
section
namespace G33
open Go Go.Pl
set_option linter.unusedVariables false
set_option linter.unusedSimpArgs false
structure Good (s : SSequence) : Prop where
  a1 : 1 ≤ s.Actuators
  a6 : s.Actuators ≤ 6
  n0 : 0 < s.Steps.length
  n64 : s.Steps.length ≤ 64
  step : ∀ i (h : i < s.Steps.length), StepOk s.Steps[i]
theorem chk_good {s : SSequence} (h : chk s = 0) : Good s := by
  unfold chk at h
  split at h
  · omega
  split at h
  · omega
  split at h
  · omega
  rename_i h1 h2 h3
  split at h
  · rename_i r hr
    exfalso
    subst h
    unfold first at hr
    obtain ⟨k, _, hk⟩ := List.exists_of_findSome?_eq_some hr
    unfold seqG at hk
    split at hk
    · simp at hk
    · split at hk
      · rename_i h; injection hk with hk; exact h hk
      · simp at hk
  · rename_i hf
    rw [first_none_iff] at hf
    exact ⟨by omega, by omega, by omega, by omega, fun i hi => (seqG_none hi (hf i hi)).1.ok⟩
def sev (a : Int) : List SExpr → SExpr
  | [x] => x
  | l => ⟨a, 0, l⟩
theorem m148_sev (a : Int) (l : List SExpr) : m148 a l = some (sev a l) := by
  unfold m148
  match l with
  | [] => rfl
  | [x] => show some (⟨x.Op, x.Index, x.Args⟩ : SExpr) = _; rw [SExpr.eta3]; rfl
  | x :: y :: l => rw [cond_f (by simp; omega)]; rfl
def tb (s : SSequence) : Int := fst s + (s.Steps.length : Int)
def plc (s : SSequence) : List Int := if s.Steps.length = 2 then [fst s + 1, fst s] else mods (fst s) s.Steps.length
def modSig (s : SSequence) (k : Nat) : SSignal :=
  ⟨nameOf [109] k, 1, sev 3 (lineE (fst s + ((k + s.Steps.length - 1) % s.Steps.length : Nat)) :: endE s (tb s) ((k + s.Steps.length - 1) % s.Steps.length) ++ if k = 0 then [lineE (2 * s.Actuators)] else []),
    lineE (fst s + ((k + 1) % s.Steps.length : Nat)), 0, (k : Int) == (s.Steps.length : Int) - 1⟩
def modSigs (s : SSequence) (k : Nat) : List SSignal := (List.range k).map (modSig s)
theorem modSigs_succ {s : SSequence} {k : Nat} : modSigs s (k + 1) = modSigs s k ++ [modSig s k] := by
  unfold modSigs; rw [List.range_succ, List.map_append]; rfl
def chain (s : SSequence) : List SSignal := if s.Steps.length = 2 then
    [⟨[109, 49], 1, sev 3 (endE s (tb s) 0), sev 3 (endE s (tb s) 1 ++ [lineE (2 * s.Actuators)]), 0, true⟩, ⟨[109, 48], 0, ⟨2, 0, [lineE (fst s)]⟩, noE, 0, false⟩]
  else modSigs s s.Steps.length
theorem endE_ne {s : SSequence} (h : Good s) {n : Int} {k : Nat} (hk : k < s.Steps.length) : ∃ y l, endE s n k = y :: l := by
  unfold endE
  rw [List.getElem?_eq_getElem hk]
  dsimp only
  split
  · cases hq : s.Steps[k].Strokes with
    | nil => have := (h.step k hk).pos; rw [hq] at this; simp at this
    | cons a l => exact ⟨_, _, rfl⟩
  · exact ⟨_, _, rfl⟩
theorem endE_len {s : SSequence} (h : Good s) {n : Int} {k : Nat} (hk : k < s.Steps.length) : (endE s n k).length ≤ 6 := by
  unfold endE
  rw [List.getElem?_eq_getElem hk]
  dsimp only
  split
  · simpa using (h.step k hk).le
  · simp
theorem plan2 {s : SSequence} (h : Good s) : m82 s = some ⟨s, fst s, plc s, tms s (tb s) s.Steps.length⟩ := by
  rw [m82_eq s h.n64 h.a1 h.a6 (fun x hx => by obtain ⟨k, hk, rfl⟩ := List.getElem_of_mem hx; exact (h.step k hk).wait.1)]; rfl
theorem act2 {s : SSequence} (h : Good s) : mulI .i64 2 s.Actuators = 2 * s.Actuators := by
  have := h.a1; have := h.a6
  exact mulI_eq (by omega) (by omega)
theorem prev_eq {k n : Nat} (hk : k < n) (hn : n ≤ 64) : remc (subI .i64 (addI .i64 (k : Int) (n : Int)) 1) (n : Int) = some (((k + n - 1) % n : Nat) : Int) := by
  rw [addI_eq (by omega) (by omega), subI_eq (by omega) (by omega), show (k : Int) + (n : Int) - 1 = ((k + n - 1 : Nat) : Int) by omega]
  unfold remc
  rw [if_neg (by omega), Int.ofNat_tmod]
theorem next_eq {k n : Nat} (hk : k < n) (hn : n ≤ 64) : remc (addI .i64 (k : Int) 1) (n : Int) = some (((k + 1) % n : Nat) : Int) := by
  rw [addI_nat (by omega)]
  unfold remc
  rw [if_neg (by omega), Int.ofNat_tmod]
theorem tb_nn {s : SSequence} (h : Good s) : 0 ≤ tb s := by
  have := fst_le h.a1 h.a6; unfold tb; omega
theorem m142_eq {s : SSequence} (h : Good s) : m142 ⟨s, fst s, plc s, tms s (tb s) s.Steps.length⟩ = some (chain s) := by
  have hn0 := h.n0
  have hn := h.n64
  have hf := fst_le h.a1 h.a6
  have htb := tb_nn h
  unfold m142 m216
  dsimp only
  simp only [act2 h, m217_line, Option.bind_some, m214_148, m148_sev]
  by_cases h2 : s.Steps.length = 2
  · rw [cond_t (by simp [h2])]
    rw [show (0 : Int) = ((0 : Nat) : Int) from rfl, m215_eq s (tb s) (fst s) (plc s) htb (k := 0) (by omega) (h.step 0 (by omega))]
    rw [show (1 : Int) = ((1 : Nat) : Int) from rfl, m215_eq s (tb s) (fst s) (plc s) htb (k := 1) (by omega) (h.step 1 (by omega))]
    simp only [Option.bind_some]
    obtain ⟨y, l, e⟩ := endE_ne h (n := tb s) (k := 1) (by omega)
    have hl := endE_len h (n := tb s) (k := 1) (by omega)
    have en : nonE (endE s (tb s) 1) = some () := by rw [e]; rfl
    rw [en]
    simp only [Option.bind_some, SExpr.eta3]
    rw [appc_eq (by simp; omega) (by simp; omega)]
    have ei : idx (plc s) ((1 : Nat) : Int) = some (fst s) := by unfold plc; rw [if_pos h2]; rfl
    rw [ei]
    simp only [Option.bind_some, SExpr.eta3]
    unfold chain
    rw [if_pos h2]; rfl
  · rw [cond_f (by simp; omega)]
    have hp : plc s = mods (fst s) s.Steps.length := by unfold plc; rw [if_neg h2]
    rw [iter_fold (fun k : Nat => ((k : Int), modSigs s k)) s.Steps.length ?hn (.inl (modSigs s s.Steps.length)) ?h0 ?h ?he]
    case hn => unfold fuel; omega
    case h0 => simp [modSigs]
    case he =>
      try dsimp only
      rw [cond_f (lt_f (by omega))]
    case h =>
      intro k hk
      try dsimp only
      have hpv : (k + s.Steps.length - 1) % s.Steps.length < s.Steps.length := Nat.mod_lt _ hn0
      have hnx : (k + 1) % s.Steps.length < s.Steps.length := Nat.mod_lt _ hn0
      have mi : ∀ j, j < s.Steps.length → idx (plc s) (j : Int) = some (fst s + (j : Int)) := by
        intro j hj
        rw [hp, idx_lt (show j < (mods (fst s) s.Steps.length).length by simp [mods]; exact hj)]; simp [mods]
      rw [cond_t (lt_t (by omega)), prev_eq hk hn, next_eq hk hn]
      simp only [Option.bind_some]
      rw [mi _ hpv]
      simp only [Option.bind_some]
      rw [m215_eq s (tb s) (fst s) (plc s) htb hpv (h.step _ hpv)]
      have hl := endE_len h (n := tb s) hpv
      simp only [Option.bind_some, SExpr.eta3]
      rw [appc_eq (by simp; omega) (by simp; omega)]
      simp only [Option.bind_some, SExpr.eta3]
      obtain ⟨t, ht, ht2⟩ := num_eq (p := [109]) (.inl rfl) (show k < 100 by omega)
      obtain ⟨v, hv, hv2⟩ := Option.bind_eq_some_iff.mp ht2
      have hnm : nameOf [109] k = t := by unfold nameOf; rw [ht]; rfl
      have hml : (modSigs s k).length = k := by simp [modSigs]
      rw [modSigs_succ]
      have hsub : subI .i64 (s.Steps.length : Int) 1 = (s.Steps.length : Int) - 1 := subI_eq (by omega) (by omega)
      by_cases hk0 : k = 0
      · rw [cond_t (by simp [hk0]), appc_eq (by simp; omega) (by simp; omega)]
        simp only [Option.bind_some, SExpr.eta3]
        rw [hv]
        simp only [Option.bind_some]
        rw [hv2, mi _ hnx]
        simp only [Option.bind_some, SExpr.eta3]
        rw [appc_eq (by simp [hml]; omega) (by simp [hml]; omega)]
        simp only [Option.bind_some, Bool.not_true, cond_false]
        rw [hsub, addI_nat (by omega)]
        unfold modSig
        rw [if_pos hk0, hnm]; rfl
      · rw [cond_f (by simp; omega)]
        simp only [Option.bind_some, SExpr.eta3]
        rw [hv]
        simp only [Option.bind_some]
        rw [hv2, mi _ hnx]
        simp only [Option.bind_some, SExpr.eta3]
        rw [appc_eq (by simp [hml]; omega) (by simp [hml]; omega)]
        simp only [Option.bind_some, Bool.not_true, cond_false]
        rw [hsub, addI_nat (by omega)]
        unfold modSig
        rw [if_neg hk0, hnm]; simp
    unfold chain
    rw [if_neg h2]; rfl
theorem m84_good {s : SSequence} (h : Good s) : m84 s = some ⟨s, tms s (tb s) s.Steps.length⟩ := m84_eq s h.n64 h.a1 h.a6
theorem m87_good {s : SSequence} (h : Good s) : m87 s = some (plc s) := m87_eq s h.n64 h.a1 h.a6
theorem m85_eq {s : SSequence} (h : Good s) : m85 s = some (chain s) := by
  have hn0 := h.n0
  have hn := h.n64
  have hf := fst_le h.a1 h.a6
  have htb := tb_nn h
  unfold m85 m150
  rw [m84_good h, m87_good h]
  simp only [act2 h, m147_line, Option.bind_some, m148_sev]
  by_cases h2 : s.Steps.length = 2
  · rw [cond_t (by simp [h2])]
    rw [show (0 : Int) = ((0 : Nat) : Int) from rfl, m149_eq s (tb s) htb (k := 0) (by omega) (h.step 0 (by omega))]
    rw [show (1 : Int) = ((1 : Nat) : Int) from rfl, m149_eq s (tb s) htb (k := 1) (by omega) (h.step 1 (by omega))]
    simp only [Option.bind_some]
    have hl := endE_len h (n := tb s) (k := 1) (by omega)
    rw [appc_eq (by simp; omega) (by simp; omega)]
    simp only [Option.bind_some, SExpr.eta3, List.nil_append]
    rw [appc_eq (by simp; omega) (by simp; omega)]
    have ei : idx (plc s) ((1 : Nat) : Int) = some (fst s) := by unfold plc; rw [if_pos h2]; rfl
    rw [ei]
    simp only [Option.bind_some, SExpr.eta3]
    unfold chain
    rw [if_pos h2]; rfl
  · rw [cond_f (by simp; omega)]
    have hp : plc s = mods (fst s) s.Steps.length := by unfold plc; rw [if_neg h2]
    rw [iter_fold (fun k : Nat => ((k : Int), modSigs s k)) s.Steps.length ?hn (modSigs s s.Steps.length) ?h0 ?h ?he]
    case hn => unfold fuel; omega
    case h0 => simp [modSigs]
    case he =>
      try dsimp only
      rw [cond_f (lt_f (by omega))]
    case h =>
      intro k hk
      try dsimp only
      have hpv : (k + s.Steps.length - 1) % s.Steps.length < s.Steps.length := Nat.mod_lt _ hn0
      have hnx : (k + 1) % s.Steps.length < s.Steps.length := Nat.mod_lt _ hn0
      have mi : ∀ j, j < s.Steps.length → idx (plc s) (j : Int) = some (fst s + (j : Int)) := by
        intro j hj
        rw [hp, idx_lt (show j < (mods (fst s) s.Steps.length).length by simp [mods]; exact hj)]; simp [mods]
      rw [cond_t (lt_t (by omega)), prev_eq hk hn, next_eq hk hn]
      simp only [Option.bind_some]
      rw [mi _ hpv]
      simp only [Option.bind_some]
      rw [m149_eq s (tb s) htb hpv (h.step _ hpv)]
      have hl := endE_len h (n := tb s) hpv
      simp only [Option.bind_some, SExpr.eta3]
      rw [appc_eq (by simp; omega) (by simp; omega)]
      simp only [Option.bind_some, SExpr.eta3]
      obtain ⟨t, ht, ht2⟩ := num_eq (p := [109]) (.inl rfl) (show k < 100 by omega)
      have hnm : nameOf [109] k = t := by unfold nameOf; rw [ht]; rfl
      have hml : (modSigs s k).length = k := by simp [modSigs]
      rw [modSigs_succ]
      have hsub : subI .i64 (s.Steps.length : Int) 1 = (s.Steps.length : Int) - 1 := subI_eq (by omega) (by omega)
      by_cases hk0 : k = 0
      · rw [cond_t (by simp [hk0]), appc_eq (by simp; omega) (by simp; omega)]
        simp only [Option.bind_some, SExpr.eta3]
        rw [ht, mi _ hnx]
        simp only [Option.bind_some, SExpr.eta3]
        rw [appc_eq (by simp [hml]; omega) (by simp [hml]; omega)]
        simp only [Option.bind_some]
        rw [hsub, addI_nat (by omega)]
        unfold modSig
        rw [if_pos hk0, hnm]; rfl
      · rw [cond_f (by simp; omega)]
        simp only [Option.bind_some, SExpr.eta3]
        rw [ht, mi _ hnx]
        simp only [Option.bind_some, SExpr.eta3]
        rw [appc_eq (by simp [hml]; omega) (by simp [hml]; omega)]
        simp only [Option.bind_some]
        rw [hsub, addI_nat (by omega)]
        unfold modSig
        rw [if_neg hk0, hnm]; simp
    unfold chain
    rw [if_neg h2]; rfl
end G33
end
section
namespace G33
open Go Go.Pl
set_option linter.unusedVariables false
set_option linter.unusedSimpArgs false
def hit (a : Int) (o : Bool) (y : SStroke) : Bool := y.Actuator == a && y.Out == o
theorem any_first (l : List SStroke) (p : SStroke → Bool) : (match first l.length (fun k => match l[k]? with | some b => bif p b then some (k : Int) else none | none => none) with | none => decide ((-1 : Int) ≥ 0) | some r => decide (r ≥ 0)) = l.any p := by
  cases hf : first l.length (fun k => match l[k]? with | some b => bif p b then some (k : Int) else none | none => none) with
  | none =>
    rw [first_none_iff] at hf
    have : (l.any p) = false := by
      rw [List.any_eq_false]
      intro b hb
      obtain ⟨k, hk, rfl⟩ := List.getElem_of_mem hb
      have := hf k hk
      rw [List.getElem?_eq_getElem hk] at this
      dsimp only at this
      intro hc
      rw [hc] at this
      simp at this
    rw [this]; rfl
  | some r =>
    unfold first at hf
    obtain ⟨k, hk, hr⟩ := List.exists_of_findSome?_eq_some hf
    have hk' : k < l.length := by simpa using hk
    rw [List.getElem?_eq_getElem hk'] at hr
    dsimp only at hr
    cases hb : p l[k] with
    | false => rw [hb] at hr; simp at hr
    | true =>
      rw [hb] at hr
      simp only [cond_true, Option.some.injEq] at hr
      have : l.any p = true := by
        rw [List.any_eq_true]
        exact ⟨l[k], List.getElem_mem hk', hb⟩
      rw [this]
      subst hr
      simp
theorem m145_eq (x : SStroke) (a : Int) : m145 x a = some (hit a true x) := by
  unfold m145 hit; cases x.Out <;> simp
theorem m146_eq (x : SStroke) (a : Int) : m146 x a = some (hit a false x) := by
  unfold m146 hit; cases x.Out <;> simp
theorem m220_145_eq (l : List SStroke) (a : Int) (hl : l.length ≤ 6) : m220_145 l a = some (l.any (hit a true)) := by
  unfold m220_145 m252_145
  rw [iter_first (fun k : Nat => (k : Int)) (fun k => match l[k]? with | some b => bif hit a true b then some (k : Int) else none | none => none) l.length ?hn () ?h0 ?h ?he]
  case hn => unfold fuel; omega
  case h0 => rfl
  case he =>
    intro _
    try dsimp only
    rw [cond_f (lt_f (by omega))]
  case h =>
    intro k hk _
    try dsimp only
    rw [cond_t (lt_t (by omega)), idx_lt hk, List.getElem?_eq_getElem hk]
    simp only [Option.bind_some, m145_eq]
    rw [addI_nat (by omega)]
    cases hit a true l[k] <;> rfl
  rw [← any_first l (hit a true)]
  cases first l.length (fun k => match l[k]? with | some b => bif hit a true b then some (k : Int) else none | none => none) <;> rfl
theorem m220_146_eq (l : List SStroke) (a : Int) (hl : l.length ≤ 6) : m220_146 l a = some (l.any (hit a false)) := by
  unfold m220_146 m252_146
  rw [iter_first (fun k : Nat => (k : Int)) (fun k => match l[k]? with | some b => bif hit a false b then some (k : Int) else none | none => none) l.length ?hn () ?h0 ?h ?he]
  case hn => unfold fuel; omega
  case h0 => rfl
  case he =>
    intro _
    try dsimp only
    rw [cond_f (lt_f (by omega))]
  case h =>
    intro k hk _
    try dsimp only
    rw [cond_t (lt_t (by omega)), idx_lt hk, List.getElem?_eq_getElem hk]
    simp only [Option.bind_some, m146_eq]
    rw [addI_nat (by omega)]
    cases hit a false l[k] <;> rfl
  rw [← any_first l (hit a false)]
  cases first l.length (fun k => match l[k]? with | some b => bif hit a false b then some (k : Int) else none | none => none) <;> rfl
def pil (s : SSequence) (M : List Int) (a : Int) (o : Bool) : Nat → List SExpr
  | 0 => []
  | k + 1 => pil s M a o k ++ (match s.Steps[k]?, M[k]? with | some x, some m => if x.Strokes.any (hit a o) then [lineE m] else [] | _, _ => [])
theorem pil_succ {s : SSequence} {M : List Int} {a : Int} {o : Bool} {k : Nat} (hk : k < s.Steps.length) (hm : k < M.length) : pil s M a o (k + 1) = pil s M a o k ++ if s.Steps[k].Strokes.any (hit a o) then [lineE M[k]] else [] := by
  rw [pil, List.getElem?_eq_getElem hk, List.getElem?_eq_getElem hm]
theorem pil_len (s : SSequence) (M : List Int) (a : Int) (o : Bool) : ∀ k, (pil s M a o k).length ≤ k
  | 0 => Nat.le_refl _
  | k + 1 => by
    have := pil_len s M a o k
    rw [pil, List.length_append]
    split
    · split <;> simp <;> omega
    · simp; omega
def pname (a : Nat) (o : Bool) : List UInt8 := [UInt8.ofNat (97 + a), if o then 112 else 109]
def pilSig (s : SSequence) (M : List Int) (a : Nat) (o : Bool) : SSignal := ⟨pname a o, 0, sev 4 (pil s M a o s.Steps.length), noE, 0, false⟩
def pils (s : SSequence) (M : List Int) (k : Nat) : List SSignal := (List.range k).flatMap fun a => [pilSig s M a true, pilSig s M a false]
theorem pils_succ {s : SSequence} {M : List Int} {k : Nat} : pils s M (k + 1) = pils s M k ++ [pilSig s M k true, pilSig s M k false] := by
  unfold pils; rw [List.range_succ, List.flatMap_append]; simp
theorem pils_len (s : SSequence) (M : List Int) : ∀ k, (pils s M k).length = 2 * k
  | 0 => by simp [pils]
  | k + 1 => by rw [pils_succ, List.length_append, pils_len s M k]; simp; omega
theorem m144_145_eq (s : SSequence) (f : Int) (M T : List Int) (nm : List UInt8) (a : Int) (hs : s.Steps.length ≤ 64) (hM : M.length = s.Steps.length) (h : ∀ k (h : k < s.Steps.length), StepOk s.Steps[k]) :
    m144_145 ⟨s, f, M, T⟩ nm a = some ⟨nm, 0, sev 4 (pil s M a true s.Steps.length), noE, 0, false⟩ := by
  unfold m144_145
  rw [iter_fold (fun k : Nat => ((k : Int), ([] : List UInt8), (0 : Int), (0 : Int), (0 : Int), ([] : List SExpr), (0 : Int), (0 : Int), ([] : List SExpr), (0 : Int), false, pil s M a true k)) s.Steps.length ?hn (([] : List UInt8), (0 : Int), (0 : Int), (0 : Int), ([] : List SExpr), (0 : Int), (0 : Int), ([] : List SExpr), (0 : Int), false, pil s M a true s.Steps.length) ?h0 ?h ?he]
  case hn => unfold fuel; omega
  case h0 => rfl
  case he =>
    try dsimp only
    rw [cond_f (lt_f (by omega))]
  case h =>
    intro k hk
    try dsimp only
    have hl := pil_len s M a true k
    rw [cond_t (lt_t (by omega)), idx_lt hk]
    simp only [Option.bind_some]
    rw [m220_145_eq _ a (h k hk).le, pil_succ hk (by omega), addI_nat (by omega)]
    simp only [Option.bind_some]
    cases s.Steps[k].Strokes.any (hit a true) with
    | true =>
      simp only [cond_true]
      rw [idx_lt (show k < M.length by omega)]
      simp only [Option.bind_some, m217_line, SExpr.eta3]
      rw [appc_eq (by simp; omega) (by simp; omega)]
      rfl
    | false => simp
  simp only [Option.bind_some, m214_148, m148_sev, SExpr.eta3]
  rfl
theorem m144_146_eq (s : SSequence) (f : Int) (M T : List Int) (nm : List UInt8) (a : Int) (hs : s.Steps.length ≤ 64) (hM : M.length = s.Steps.length) (h : ∀ k (h : k < s.Steps.length), StepOk s.Steps[k]) :
    m144_146 ⟨s, f, M, T⟩ nm a = some ⟨nm, 0, sev 4 (pil s M a false s.Steps.length), noE, 0, false⟩ := by
  unfold m144_146
  rw [iter_fold (fun k : Nat => ((k : Int), ([] : List UInt8), (0 : Int), (0 : Int), (0 : Int), ([] : List SExpr), (0 : Int), (0 : Int), ([] : List SExpr), (0 : Int), false, pil s M a false k)) s.Steps.length ?hn (([] : List UInt8), (0 : Int), (0 : Int), (0 : Int), ([] : List SExpr), (0 : Int), (0 : Int), ([] : List SExpr), (0 : Int), false, pil s M a false s.Steps.length) ?h0 ?h ?he]
  case hn => unfold fuel; omega
  case h0 => rfl
  case he =>
    try dsimp only
    rw [cond_f (lt_f (by omega))]
  case h =>
    intro k hk
    try dsimp only
    have hl := pil_len s M a false k
    rw [cond_t (lt_t (by omega)), idx_lt hk]
    simp only [Option.bind_some]
    rw [m220_146_eq _ a (h k hk).le, pil_succ hk (by omega), addI_nat (by omega)]
    simp only [Option.bind_some]
    cases s.Steps[k].Strokes.any (hit a false) with
    | true =>
      simp only [cond_true]
      rw [idx_lt (show k < M.length by omega)]
      simp only [Option.bind_some, m217_line, SExpr.eta3]
      rw [appc_eq (by simp; omega) (by simp; omega)]
      rfl
    | false => simp
  simp only [Option.bind_some, m214_148, m148_sev, SExpr.eta3]
  rfl
theorem StepOk.lt {x : SStep} (h : StepOk x) : ∀ (d j : Nat) (hj : j + 1 + d < x.Strokes.length), x.Strokes[j].Actuator < x.Strokes[j + 1 + d].Actuator
  | 0, j, hj => h.inc j hj
  | d + 1, j, hj => Int.lt_trans (h.lt d j (by omega)) (h.inc (j + 1 + d) hj)
theorem hit_once {x : SStep} (h : StepOk x) {a : Int} {o : Bool} {i : Nat} (hi : i < x.Strokes.length) (hh : hit a o x.Strokes[i] = true) : (x.Strokes.take i).any (hit a o) = false := by
  rw [List.any_eq_false]
  intro y hy hc
  obtain ⟨j, hj, rfl⟩ := List.getElem_of_mem hy
  have hj' : j < i := by rw [List.length_take] at hj; omega
  rw [List.getElem_take] at hc
  have := h.lt (i - j - 1) j (by omega)
  simp only [show j + 1 + (i - j - 1) = i by omega] at this
  unfold hit at hh hc
  simp only [Bool.and_eq_true, beq_iff_eq] at hh hc
  omega
theorem letters {a : Nat} (h : a < 6) : slcc ([97, 98, 99, 100, 101, 102] : List UInt8) (some (a : Int)) (some ((a + 1 : Nat) : Int)) = some [UInt8.ofNat (97 + a)] := by
  have : a = 0 ∨ a = 1 ∨ a = 2 ∨ a = 3 ∨ a = 4 ∨ a = 5 := by omega
  rcases this with rfl | rfl | rfl | rfl | rfl | rfl <;> rfl
theorem rune {a : Nat} (h : a < 6) : (Utf8.encode (IntKind.wrap .i32 (addI .i64 97 (a : Int)))).data.toList = [UInt8.ofNat (97 + a)] := by
  have : a = 0 ∨ a = 1 ∨ a = 2 ∨ a = 3 ∨ a = 4 ∨ a = 5 := by omega
  rcases this with rfl | rfl | rfl | rfl | rfl | rfl <;> rfl
theorem catc_one (a : Nat) (n : UInt8) : catc [UInt8.ofNat (97 + a)] [n] = some [UInt8.ofNat (97 + a), n] := by
  unfold catc; rw [if_pos (by simp)]; rfl
theorem m88_eq (s : SSequence) (M T : List Int) (h0 : 1 ≤ s.Actuators) (h1 : s.Actuators ≤ 6) (hs : s.Steps.length ≤ 64) (hM : M.length = s.Steps.length) (h : ∀ k (h : k < s.Steps.length), StepOk s.Steps[k]) :
    m88 ⟨s, T⟩ M = some (pils s M s.Actuators.toNat) := by
  unfold m88
  rw [iter_fold (fun k : Nat => ((k : Int), pils s M k)) s.Actuators.toNat ?hn (pils s M s.Actuators.toNat) ?h0 ?h ?he]
  case hn => unfold fuel; omega
  case h0 => simp [pils]
  case he =>
    try dsimp only
    rw [cond_f (lt_f (by omega))]
  case h =>
    intro a ha
    try dsimp only
    have hpl := pils_len s M a
    rw [cond_t (lt_t (by omega)), pils_succ, addI_nat (by omega)]
    rw [iter_fold (fun k : Nat => ((k : Int), pils s M a ++ (([true, false] : List Bool).take k).map (pilSig s M a))) 2 ?hn (pils s M a ++ [pilSig s M a true, pilSig s M a false]) ?h0 ?h ?he]
    case hn => unfold fuel; omega
    case h0 => simp
    case he => rfl
    case h =>
      intro k hk
      try dsimp only
      have hk' : k < ([true, false] : List Bool).length := hk
      rw [cond_t (lt_t (by simp; omega)), idx_lt hk']
      simp only [Option.bind_some]
      have et : (([true, false] : List Bool).take (k + 1)).map (pilSig s M a) = (([true, false] : List Bool).take k).map (pilSig s M a) ++ [pilSig s M a (([true, false] : List Bool)[k])] := by
        rw [List.take_add_one, List.getElem?_eq_getElem hk', List.map_append]; rfl
      rw [et, ← List.append_assoc]
      have hle : (pils s M a ++ (([true, false] : List Bool).take k).map (pilSig s M a)).length ≤ 12 + 2 := by
        rw [List.length_append, hpl, List.length_map, List.length_take]; simp; omega
      generalize pils s M a ++ (([true, false] : List Bool).take k).map (pilSig s M a) = acc at hle ⊢
      generalize ([true, false] : List Bool)[k] = o
      rw [iter_fold (fun j : Nat => ((j : Int), acc, pil s M a o j)) s.Steps.length ?hn (acc, pil s M a o s.Steps.length) ?h0 ?h ?he]
      case hn => unfold fuel; omega
      case h0 => rfl
      case he =>
        try dsimp only
        rw [cond_f (lt_f (by omega))]
      case h =>
        intro j hj
        try dsimp only
        have hl := pil_len s M a o j
        have hx := h j hj
        have hxl := hx.le
        rw [cond_t (lt_t (by omega)), pil_succ hj (by omega), addI_nat (by omega)]
        rw [iter_fold (fun i : Nat => ((i : Int), acc, pil s M a o j ++ if (s.Steps[j].Strokes.take i).any (hit a o) then [lineE (M[j]'(by omega))] else [])) s.Steps[j].Strokes.length ?hn (acc, pil s M a o j ++ if s.Steps[j].Strokes.any (hit a o) then [lineE (M[j]'(by omega))] else []) ?h0 ?h ?he]
        case hn => unfold fuel; omega
        case h0 => simp
        case he =>
          try dsimp only
          rw [idx_lt hj]
          simp only [Option.bind_some]
          rw [cond_f (lt_f (by omega)), List.take_length]
        case h =>
          intro i hi
          try dsimp only
          rw [idx_lt hj]
          simp only [Option.bind_some]
          rw [cond_t (lt_t (by omega)), idx_lt hi]
          simp only [Option.bind_some, m147_line, SExpr.eta3]
          have eh : ((s.Steps[j].Strokes[i].Actuator == (a : Int) && (s.Steps[j].Strokes[i].Out == o && true)) != false) = hit a o s.Steps[j].Strokes[i] := by
            unfold hit; simp
          have ea : (s.Steps[j].Strokes.take (i + 1)).any (hit a o) = ((s.Steps[j].Strokes.take i).any (hit a o) || hit a o s.Steps[j].Strokes[i]) := by
            rw [List.take_add_one, List.getElem?_eq_getElem hi, List.any_append]; simp
          rw [eh, ea, addI_nat (by omega)]
          cases hb : hit a o s.Steps[j].Strokes[i] with
          | true =>
            rw [hit_once hx hi hb]
            simp only [cond_true]
            rw [idx_lt (show j < M.length by omega)]
            simp only [Option.bind_some]
            rw [if_neg (by simp), List.append_nil, appc_eq (by simp; omega) (by simp; omega)]
            simp
          | false => simp
        rfl
      simp only [Option.bind_some]
      rw [letters (show a < 6 by omega)]
      simp only [Option.bind_some, m148_sev, catc_one]
      cases o with
      | true =>
        simp only [cond_true, Option.bind_some, SExpr.eta3]
        rw [appc_eq (by simp; omega) (by simp; omega), addI_nat (by omega)]
        rfl
      | false =>
        simp only [cond_false, Option.bind_some, SExpr.eta3]
        rw [appc_eq (by simp; omega) (by simp; omega), addI_nat (by omega)]
        rfl
    rfl
  rfl
end G33
end
section
namespace G33
open Go Go.Pl
set_option linter.unusedVariables false
set_option linter.unusedSimpArgs false
theorem plc_len {s : SSequence} : (plc s).length = s.Steps.length := by
  unfold plc
  split
  · rename_i h; rw [h]; rfl
  · simp [mods]
theorem chain_len {s : SSequence} : (chain s).length = s.Steps.length := by
  unfold chain
  split
  · rename_i h; rw [h]; rfl
  · simp [modSigs]
theorem clks_cnt {s : SSequence} {M : List Int} (hM : M.length = s.Steps.length) : ∀ k, k ≤ s.Steps.length → (clks s M k).length = cnt s k
  | 0, _ => by simp [clks, cnt]
  | k + 1, hk => by
    have hk' : k < s.Steps.length := by omega
    rw [clks_succ, List.length_append, clks_cnt hM k (by omega), cnt_succ hk']
    unfold clkOf
    rw [List.getElem?_eq_getElem hk', List.getElem?_eq_getElem (show k < M.length by omega)]
    dsimp only
    split <;> simp
def base (s : SSequence) : List SSignal := chain s ++ clks s (plc s) s.Steps.length
theorem base_len {s : SSequence} : (base s).length = s.Steps.length + cnt s s.Steps.length := by
  unfold base; rw [List.length_append, chain_len, clks_cnt plc_len _ (Nat.le_refl _)]
def pm (s : SSequence) (d : Int) (k : Nat) : List Int := (List.range k).map fun j : Nat => fst s + ((base s).length : Int) + 2 * (j : Int) + d
theorem pm_succ {s : SSequence} {d : Int} {k : Nat} : pm s d (k + 1) = pm s d k ++ [fst s + ((base s).length : Int) + 2 * (k : Int) + d] := by
  unfold pm; rw [List.range_succ, List.map_append]; rfl
theorem pm_len {s : SSequence} {d : Int} {k : Nat} : (pm s d k).length = k := by simp [pm]
def ctl (s : SSequence) : SControl := ⟨s.Actuators, [[115, 116, 97, 114, 116]], base s ++ pils s (plc s) s.Actuators.toNat, pm s 0 s.Actuators.toNat, pm s 1 s.Actuators.toNat⟩
theorem chain_ne {s : SSequence} (h : Good s) : nonE (chain s) = some () := by
  have := h.n0
  have e := chain_len (s := s)
  cases hq : chain s with
  | nil => rw [hq] at e; simp at e; omega
  | cons a l => rfl
theorem m83_eq {s : SSequence} (h : Good s) : m83 ⟨s, fst s, plc s, tms s (tb s) s.Steps.length⟩ = some (ctl s) := by
  have ha1 := h.a1
  have ha6 := h.a6
  have hn := h.n64
  have hf := fst_le h.a1 h.a6
  have hcl := chain_len (s := s)
  have hkl := clks_len s (plc s) s.Steps.length
  have hbl : (base s).length ≤ 128 := by unfold base; rw [List.length_append]; omega
  unfold m83
  rw [m142_eq h, m143_eq s _ _ _ hn plc_len h.step]
  simp only [Option.bind_some]
  rw [chain_ne h]
  simp only [Option.bind_some]
  rw [appc_eq (by omega) (by omega)]
  simp only [Option.bind_some]
  rw [show chain s ++ clks s (plc s) s.Steps.length = base s from rfl]
  rw [iter_fold (fun k : Nat => ((k : Int), (0 : Int), ([] : List (List UInt8)), ([] : List SSignal), ([] : List Int), ([] : List Int), ([[115, 116, 97, 114, 116]] : List (List UInt8)), base s ++ pils s (plc s) k, s.Actuators, pm s 0 k, pm s 1 k)) s.Actuators.toNat ?hn
    ((0 : Int), ([] : List (List UInt8)), ([] : List SSignal), ([] : List Int), ([] : List Int), ([[115, 116, 97, 114, 116]] : List (List UInt8)), base s ++ pils s (plc s) s.Actuators.toNat, s.Actuators, pm s 0 s.Actuators.toNat, pm s 1 s.Actuators.toNat) ?h0 ?h ?he]
  case hn => unfold fuel; omega
  case h0 => simp [pils, pm]
  case he =>
    try dsimp only
    rw [cond_f (lt_f (by omega))]
  case h =>
    intro k hk
    try dsimp only
    have hpl := pils_len s (plc s) k
    have hp0 := pm_len (s := s) (d := 0) (k := k)
    have hp1 := pm_len (s := s) (d := 1) (k := k)
    have hll : ((base s ++ pils s (plc s) k).length : Int) = ((base s).length : Int) + 2 * (k : Int) := by rw [List.length_append, hpl]; omega
    rw [cond_t (lt_t (by omega)), hll, addI_eq (show -9223372036854775808 ≤ fst s + (((base s).length : Int) + 2 * (k : Int)) by omega) (by omega)]
    rw [addI_eq (show -9223372036854775808 ≤ fst s + (((base s).length : Int) + 2 * (k : Int)) + 1 by omega) (by omega)]
    rw [appc_eq (by simp [hp0]; omega) (by simp [hp0]; omega), appc_eq (by simp [hp1]; omega) (by simp [hp1]; omega), rune (show k < 6 by omega)]
    simp only [Option.bind_some, catc_one]
    rw [m144_145_eq s _ _ _ _ _ hn plc_len h.step, m144_146_eq s _ _ _ _ _ hn plc_len h.step]
    simp only [Option.bind_some, SExpr.eta3]
    rw [appc_eq (by rw [List.length_append, hpl]; simp; omega) (by rw [List.length_append, hpl]; simp; omega)]
    simp only [Option.bind_some]
    rw [pils_succ, pm_succ, pm_succ, addI_nat (by omega), List.append_assoc]
    rw [show fst s + (((base s).length : Int) + 2 * (k : Int)) + 1 = fst s + ((base s).length : Int) + 2 * (k : Int) + 1 by omega, show fst s + (((base s).length : Int) + 2 * (k : Int)) = fst s + ((base s).length : Int) + 2 * (k : Int) + 0 by omega]
    rfl
  rfl
theorem m45_eq {s : SSequence} (h : Good s) : m45 s = some (ctl s) := by
  have ha1 := h.a1
  have ha6 := h.a6
  have hn := h.n64
  have hf := fst_le h.a1 h.a6
  have hcl := chain_len (s := s)
  have hkl := clks_len s (plc s) s.Steps.length
  have hbl : (base s).length ≤ 128 := by unfold base; rw [List.length_append]; omega
  have hpl := pils_len s (plc s) s.Actuators.toNat
  unfold m45 m152
  rw [m84_good h, m85_eq h, m87_good h]
  simp only [Option.bind_some]
  rw [chain_ne h, m86_eq s _ _ (tb_nn h) hn plc_len h.step, m88_eq s _ _ ha1 ha6 hn plc_len h.step]
  simp only [Option.bind_some]
  rw [appc_eq (by omega) (by omega)]
  simp only [Option.bind_some]
  rw [show chain s ++ clks s (plc s) s.Steps.length = base s from rfl]
  rw [appc_eq (by rw [hpl]; omega) (by rw [hpl]; omega)]
  simp only [Option.bind_some, act2 h]
  have hll : ((base s ++ pils s (plc s) s.Actuators.toNat).length : Int) = ((base s).length : Int) + 2 * s.Actuators := by rw [List.length_append, hpl]; omega
  rw [hll]
  have e1 : addI .i64 (2 * s.Actuators) (([[115, 116, 97, 114, 116]] : List (List UInt8)).length : Int) = fst s := by
    rw [addI_eq (by simp; omega) (by simp; omega)]; rfl
  rw [e1, addI_eq (show -9223372036854775808 ≤ fst s + (((base s).length : Int) + 2 * s.Actuators) by omega) (by omega)]
  have e2 : subI .i64 (fst s + (((base s).length : Int) + 2 * s.Actuators)) (2 * s.Actuators) = fst s + ((base s).length : Int) := by
    rw [subI_eq (by omega) (by omega)]; omega
  rw [e2]
  rw [iter_fold (fun k : Nat => ((k : Int), (0 : Int), ([] : List (List UInt8)), ([] : List SSignal), ([] : List Int), ([] : List Int), ([[115, 116, 97, 114, 116]] : List (List UInt8)), base s ++ pils s (plc s) s.Actuators.toNat, s.Actuators, s.Actuators, (0 : Int), ([] : List (List UInt8)), ([] : List SSignal), ([] : List Int), ([] : List Int), pm s 0 k, pm s 1 k)) s.Actuators.toNat ?hn
    ((0 : Int), ([] : List (List UInt8)), ([] : List SSignal), ([] : List Int), ([] : List Int), ([[115, 116, 97, 114, 116]] : List (List UInt8)), base s ++ pils s (plc s) s.Actuators.toNat, s.Actuators, s.Actuators, (0 : Int), ([] : List (List UInt8)), ([] : List SSignal), ([] : List Int), ([] : List Int), pm s 0 s.Actuators.toNat, pm s 1 s.Actuators.toNat) ?h0 ?h ?he]
  case hn => unfold fuel; omega
  case h0 => simp [pm]
  case he =>
    try dsimp only
    rw [cond_f (lt_f (by omega))]
  case h =>
    intro k hk
    try dsimp only
    have hp0 := pm_len (s := s) (d := 0) (k := k)
    have hp1 := pm_len (s := s) (d := 1) (k := k)
    have e3 : mulI .i64 2 (k : Int) = 2 * (k : Int) := mulI_eq (by omega) (by omega)
    rw [cond_t (lt_t (by omega)), e3, addI_eq (show -9223372036854775808 ≤ fst s + ((base s).length : Int) + 2 * (k : Int) by omega) (by omega)]
    rw [addI_eq (show -9223372036854775808 ≤ fst s + ((base s).length : Int) + 2 * (k : Int) + 1 by omega) (by omega)]
    rw [appc_eq (by simp [hp0]; omega) (by simp [hp0]; omega), appc_eq (by simp [hp1]; omega) (by simp [hp1]; omega)]
    simp only [Option.bind_some]
    rw [pm_succ, pm_succ, addI_nat (by omega), Int.add_zero]
  rfl
def noC : SControl := ⟨0, [], [], [], []⟩
def err (s : SSequence) : Int := if chk s ≠ 0 then chk s else if 64 < s.Steps.length + cnt s s.Steps.length + 2 * s.Actuators.toNat then 5 else 0
def built (s : SSequence) : SControl × Int := if err s ≠ 0 then (noC, err s) else (ctl s, 0)
theorem m13_eq (s : SSequence) (hs : Small s) : m13 s = some (built s) := by
  unfold m13 m44 built err
  rw [m49_eq s hs]
  simp only [Option.bind_some]
  by_cases hc : chk s = 0
  · have h := chk_good hc
    have ha1 := h.a1
    have ha6 := h.a6
    have hn := h.n64
    have hcn := cnt_le s s.Steps.length
    rw [hc, m84_good h, m45_eq h]
    simp only [Option.bind_some, bne_self_eq_false, cond_false, act2 h]
    rw [m75_eq s _ (tb_nn h) hn]
    simp only [Option.bind_some]
    rw [addI_eq (show -9223372036854775808 ≤ (s.Steps.length : Int) + (cnt s s.Steps.length : Int) by omega) (by omega), addI_eq (by omega) (by omega), if_neg (show ¬ (0 : Int) ≠ 0 by decide)]
    by_cases hb : 64 < s.Steps.length + cnt s s.Steps.length + 2 * s.Actuators.toNat
    · rw [if_pos hb, cond_t (by simp only [decide_eq_true_eq]; omega), if_pos (by decide)]; rfl
    · rw [if_neg hb, cond_f (by simp only [decide_eq_false_iff_not]; omega), if_neg (by decide)]; rfl
  · have hb : (chk s != 0) = true := by simpa using hc
    rw [if_pos hc, if_pos hc, hb]
    simp only [cond_true, Option.bind_some, hb]; rfl
theorem ctl_len {s : SSequence} (h : Good s) : (ctl s).Signals.length = s.Steps.length + cnt s s.Steps.length + 2 * s.Actuators.toNat := by
  unfold ctl
  rw [List.length_append, base_len, pils_len]
theorem m12_eq (s : SSequence) : m12 s = some (built s) := by
  unfold m12 m43 built err
  rw [m81_eq s]
  simp only [Option.bind_some]
  by_cases hc : chk s = 0
  · have h := chk_good hc
    have hl := ctl_len h
    rw [hc, plan2 h]
    simp only [Option.bind_some, bne_self_eq_false, cond_false]
    rw [m83_eq h]
    simp only [Option.bind_some]
    rw [if_neg (show ¬ (0 : Int) ≠ 0 by decide)]
    by_cases hb : 64 < s.Steps.length + cnt s s.Steps.length + 2 * s.Actuators.toNat
    · rw [if_pos hb, cond_t (by simp only [decide_eq_true_eq]; omega), if_pos (by decide)]; rfl
    · rw [if_neg hb, cond_f (by simp only [decide_eq_false_iff_not]; omega), if_neg (by decide)]; rfl
  · have hb : (chk s != 0) = true := by simpa using hc
    rw [if_pos hc, if_pos hc, hb]; rfl
end G33
end
