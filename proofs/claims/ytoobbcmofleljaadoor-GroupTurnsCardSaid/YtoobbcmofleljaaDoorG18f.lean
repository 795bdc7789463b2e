/- GroupTurns returns true for all sequences. No condition. -/
import Derived.Test.YtoobbcmofleljaaDoorG18s
import Derived.Test.YtoobbcmofleljaaDoorG18g
import Derived.Test.YtoobbcmofleljaaDoorG18h
import Derived.Test.YtoobbcmofleljaaDoorG18p2
import Derived.Test.YtoobbcmofleljaaDoorTie
import Derived.Test.YtoobbcmofleljaaDoorCards
import Derived.SevenTiedAt
namespace Go.Proofs.YtoobbcmofleljaaDoor
open Go Go.Pl Go.Am Go.Am.As Go.ChangeShapes Go.WideShapes Go.ChangeAt Go.WideMaps Go.WideElems Go.RowKit
open G18 (SSequence E0)

set_option maxRecDepth 100000 in
theorem law6 (xs : List AV) (h : ShVs Tryd.prog 6 Tryd.f6.params.toList xs) : Pu E0 G18.hp 6 xs (.bool true) := by
  rw [Tryd.params6] at h
  obtain ⟨x0, xs, rfl⟩ : ∃ x r, xs = x :: r := by cases xs with | nil => exact h.elim | cons x r => exact ⟨x, r, rfl⟩
  obtain ⟨h0, h⟩ := h
  obtain rfl : xs = [] := by cases xs with | nil => rfl | cons x r => exact h.elim
  obtain ⟨_, rfl, g0⟩ := shV_agg (by kernel_rfl) h0
  obtain ⟨s, rfl, hs⟩ := G18.seq_of (D := 0) g0
  exact (G18.p6 s true (G18.m6_eq s (G18.small_of hs))).pu

theorem door_met (os : Os) (args : Array Value) : laidMetH Tryd.prog G18.laidB ((World.doorLaid Tryd.prog 400 os).forCall (fun _ _ => 0) ⟨#[], args, []⟩).memory :=
  laidMetH_of_parts3 (fuel := 8) (laidMet_of_run' 8 (by kernel_rfl) (by kernel_rfl)) (by kernel_rfl) (by kernel_rfl)

set_option maxRecDepth 100000 in
theorem lifted6 (os : Os) (started : os.Started) (H : Type) (enc : TypeId × Value → H) :
    ReturnsInHanded {} Tryd.checked os 6 .any (fun w args => (Rows.groupTurnsSpec.pre enc Tryd.prog Tryd.f6 [] false w args ∧ laidMetH Tryd.prog G18.laidB w) ∧ sizedMet enc Tryd.prog Tryd.f6 (OpenSpec.ofChange Rows.groupTurnsSpec) false w args)
      (Rows.groupTurnsSpec.post enc Tryd.prog Tryd.f6 false true false false) := by
  refine returnsInHanded_of_change_and (C := Tryd.checked) (X := fun w _ => laidMetH Tryd.prog G18.laidB w) (fun _ _ _ hh h => h.of_heap hh) G18.own started (by kernel_rfl) Tryd.func6
    (ChangeSpec.witness_shaped (enc := enc) (C := Tryd.checked) (os := os) (X := fun w _ => laidMetH Tryd.prog G18.laidB w) false (World.doorLaid Tryd.prog 400 os) #[.agg #[.int .i64 0, .slice none 0 0]] 8 rfl (World.shaped_of_RefB (by kernel_rfl) (by kernel_rfl)) (by kernel_rfl) (by kernel_rfl) (by kernel_rfl) (door_met os _)) ?_
  intro W base args ds gs before hval0 hW hcnd _ hL _
  have hW' : DataW.Whole enc Tryd.prog Tryd.f6.params.toList Rows.groupTurnsSpec.vars false W args.toList ds gs before := hW
  refine law_calls (E := E0) (hp := G18.hp) (D := 6) (b := base) G18.env_ok (fun c hw hO => G18.glob_of hL c hw hO) hval0 hW' rfl (tb := 4) rfl Tryd.underlying4 G18.laidOut ?_ ?_ law6
  · rw [Tryd.params6]; intro t ht; simp only [List.mem_cons, List.not_mem_nil, or_false] at ht
    subst ht; exact ⟨⟨by kernel_rfl, of_decide_eq_true (by kernel_rfl)⟩, by kernel_rfl⟩
  · intro ds hds
    match ds, hds with
    | [d1], _ => exact ⟨rfl, rfl, rfl⟩

theorem holds6 : Rows.GroupTurnsSaid :=
  OpenClaim.holds_of_wide 6 Tryd.f6 rfl rfl rfl rfl rfl rfl rfl ⟨rfl, rfl, rfl, rfl, rfl⟩ rfl rfl rfl rfl rfl (by kernel_rfl) Tryd.func6 (by kernel_rfl)
    (of_decide_eq_true (by kernel_rfl)) (by unfold Func.isWrapper; first | (rw [if_pos (by decide +kernel)]; kernel_rfl) | (rw [if_neg (by decide +kernel)]; exact ⟨rfl, rfl⟩))
    (fun os started H enc _ => lifted6 os started H enc)

theorem card6 : Rows.GroupTurnsCardSaid :=
  Claim7.holds_tied_plain_at .later [] [.data] true (true, "111cc49052ce6d872da5b3a3afaad814da0c6cb0efe45c51fad93c1d58382847") false
    holds6 (fun _ h => by cases h) (by kernel_rfl) (fun _ h => by cases h) groupTurns_row_tie rfl ⟨rfl, rfl⟩ (by kernel_rfl) rfl
    (fun f fn hf hfn => by
      obtain rfl : f = 6 := Option.some.inj ((show Tryd.prog.funcNamed "pneumatic/pneumaticlaw18.GroupTurns" = some 6 by kernel_rfl).symm.trans hf) |>.symm
      obtain rfl : fn = Tryd.f6 := (Option.some.inj (Tryd.func6.symm.trans hfn)).symm
      exact ⟨by kernel_rfl, fun j t ht => by
        rw [Tryd.params6] at ht
        have hm : t ∈ [24] := by simpa using Array.mem_of_getElem? ht
        have hall : ([24].all fun u => !Tryd.prog.wantsStandIn u) = true := by kernel_rfl
        exact (show Tryd.prog.wantsStandIn t = false by simpa using List.all_eq_true.1 hall t hm)⟩)
    (by kernel_rfl)
end Go.Proofs.YtoobbcmofleljaaDoor
