/- CascadeLines returns true for all sequences. No condition. -/
import Derived.Test.YtafgdbaekppjcaaGreatDoorG33D
import Derived.Test.YtafgdbaekppjcaaGreatDoorG33p
import Derived.Test.YtafgdbaekppjcaaGreatDoorG33g
import Derived.Test.YtafgdbaekppjcaaGreatDoorP32s
import Derived.Test.YtafgdbaekppjcaaGreatDoorTie
import Derived.Test.YtafgdbaekppjcaaGreatDoorCards
import Derived.SevenTiedAt
import Derived.ProofKit
import Derived.LaidMore
import Derived.OpenShut
import Derived.MakeChecks
set_option linter.unusedSectionVars false
set_option linter.unusedVariables false
set_option linter.unusedSimpArgs false
namespace Go.Proofs.YtafgdbaekppjcaaGreatDoor
open Go Go.Pl Go.Am Go.Am.As Go.ChangeShapes Go.WideShapes Go.ChangeAt Go.WideMaps Go.WideElems Go.RowKit
open G33 (SSequence E0)
set_option maxRecDepth 100000 in
theorem law8 (xs:List AV) (h:ShVs Tryz.prog 6 Tryz.f8.params.toList xs):Pu E0 G33.hp 8 xs (.bool true):=by
 rw [Tryz.params8] at h
 obtain ⟨x0,xs,rfl⟩:∃ x r,xs=x::r:=by cases xs with | nil=>exact h.elim | cons x r=>exact ⟨x,r,rfl⟩
 obtain ⟨h0,h⟩:=h
 obtain rfl:xs=[]:=by cases xs with | nil=>rfl | cons x r=>exact h.elim
 obtain ⟨_,rfl,g0⟩:=shV_agg (by kernel_rfl) h0
 obtain ⟨s,rfl⟩:=G33.seq_of (D:=0) g0
 have h3:Pt E0 G33.hp 8 [.agg (G33.cSSequence s)] (.bool true):=G33.k8 s true (G33.plain8 s)
 exact h3.pu
open G33 (laidB)
theorem door_met (os:Os) (args:Array Value):laidMetH Tryz.prog laidB ((World.doorLaid Tryz.prog 400 os).forCall (fun _ _=>0) ⟨#[],args,[]⟩).memory:=
 laidMetH_of_parts3 (fuel:=8) (laidMet_of_run' 8 (by kernel_rfl) (by kernel_rfl)) (by kernel_rfl) (by kernel_rfl)
set_option maxRecDepth 100000 in
theorem lifted8 (os:Os) (started:os.Started) (H:Type) (enc:TypeId×Value→H):
 ReturnsInHanded {} Tryz.checked os 8 .any (fun w args=>(Rows.cascadeLinesSpec.pre enc Tryz.prog Tryz.f8 [] false w args∧laidMetH Tryz.prog laidB w)∧sizedMet enc Tryz.prog Tryz.f8 (OpenSpec.ofChange Rows.cascadeLinesSpec) false w args)
  (Rows.cascadeLinesSpec.post enc Tryz.prog Tryz.f8 false true false false):=by
 refine returnsInHanded_of_change_and (C:=Tryz.checked) (X:=fun w _=>laidMetH Tryz.prog laidB w) (fun _ _ _ hh h=>h.of_heap hh) G33.own started (by kernel_rfl) Tryz.func8
  (ChangeSpec.witness_shaped (enc:=enc) (C:=Tryz.checked) (os:=os) (X:=fun w _=>laidMetH Tryz.prog laidB w) false (World.doorLaid Tryz.prog 400 os) #[.agg #[.int .i64 0,.slice none 0 0]] 8 rfl (World.shaped_of_RefB (by kernel_rfl) (by kernel_rfl)) (by kernel_rfl) (by kernel_rfl) (by kernel_rfl) (door_met os _)) ?_
 intro W base args ds gs before hval0 hW hcnd _ hL _
 have hW':DataW.Whole enc Tryz.prog Tryz.f8.params.toList Rows.cascadeLinesSpec.vars false W args.toList ds gs before:=hW
 refine law_calls (E:=E0) (hp:=G33.hp) (D:=6) (b:=base) G33.env_ok (fun c hw hO=>G33.glob_of hL c hw hO) hval0 hW' rfl (tb:=4) rfl Tryz.underlying4 G33.laidOut ?_ ?_ law8
 ·rw [Tryz.params8];intro t ht;simp only [List.mem_cons,List.not_mem_nil,or_false] at ht
  subst ht;exact ⟨⟨by kernel_rfl,of_decide_eq_true (by kernel_rfl)⟩,by kernel_rfl⟩
 ·intro ds hds
  match ds,hds with
  | [d1],_=>exact ⟨rfl,rfl,rfl⟩
theorem andI {a b:Bool} (h1:a=true) (h2:b=true):(a&&b)=true:=by rw [h1,h2];rfl
section
set_option maxRecDepth 100000
theorem fact1:laidOutB Tryz.checked.prog=true:=by kernel_rfl
theorem fact2:mapsRowed Tryz.checked.prog=true:=by kernel_rfl
theorem fact9:(Rows.cascadeLinesRow.inPlace==Tryz.checked.prog.inPlace 8)=true:=by kernel_rfl
theorem fact10:(Rows.cascadeLinesRow.unfollowed==Tryz.checked.prog.unfollowed 8)=true:=by kernel_rfl
theorem fact11:(Rows.cascadeLinesRow.recurses==Tryz.checked.prog.recurses 8)=true:=by kernel_rfl
theorem fact12:(Rows.cascadeLinesRow.named==Tryz.checked.prog.varsNamed 8)=true:=by kernel_rfl
theorem fact22:(Rows.cascadeLinesRow.plainKeys==Tryz.checked.prog.plainKeys)=true:=by kernel_rfl
theorem fact24:Tryz.checked.prog.stopsHeard=true:=by kernel_rfl
theorem fact25:Tryz.checked.prog.mayEnter=true:=by kernel_rfl
theorem fact26:(Rows.cascadeLinesRow.lifted==Tryz.checked.prog.liftsFinal)=true:=by kernel_rfl
theorem fact27:(Tryz.checked.prog.make==some Rows.cascadeLinesRow.make)=true:=by kernel_rfl
theorem closed8:joinedFacts Tryz.checked.prog 8 Tryz.f8 Rows.cascadeLinesSpec Rows.cascadeLinesRow=true:=by
 unfold joinedFacts
 exact andI (andI (andI (andI (andI (andI (andI (andI (andI (andI (andI (andI (andI (andI (andI (andI (andI (andI (andI (andI (andI (andI (andI (andI (andI (andI (andI (andI (andI (andI (andI (by kernel_rfl) fact1) fact2) (by kernel_rfl)) (by kernel_rfl)) (by kernel_rfl)) (by kernel_rfl)) (by kernel_rfl)) (by kernel_rfl)) fact9) fact10) fact11) fact12) (by kernel_rfl)) (by kernel_rfl)) (by kernel_rfl)) (by kernel_rfl)) (by kernel_rfl)) (by kernel_rfl)) (by kernel_rfl)) (by kernel_rfl)) (by kernel_rfl)) fact22) (by kernel_rfl)) fact24) fact25) fact26) fact27) (by kernel_rfl)) (by kernel_rfl)) (by kernel_rfl)) (by kernel_rfl)
end
theorem named8:Tryz.prog.funcNamed Rows.cascadeLinesRow.func=some 8:=by kernel_rfl
theorem holds8:Rows.CascadeLinesSaid:=
 OpenClaim.holds_of_wide 8 Tryz.f8 rfl rfl rfl rfl rfl rfl rfl ⟨rfl,rfl,rfl,rfl,rfl⟩ rfl rfl rfl rfl rfl named8 Tryz.func8 closed8
  (of_decide_eq_true (by kernel_rfl)) (by unfold Func.isWrapper;first | (rw [if_pos (by decide+kernel)];kernel_rfl) | (rw [if_neg (by decide+kernel)];exact ⟨rfl,rfl⟩))
  (fun os started H enc _=>lifted8 os started H enc)
section
set_option maxRecDepth 100000
theorem textB:OpenClaim.wfByText (OpenSpec.ofChange Rows.cascadeLinesSpec) Rows.cascadeLinesRow=true:=by kernel_rfl
theorem mainB:Tryz.pinned.checked.prog.mainIs=some ((true, "c842ae410f340e7bec25646b565d4155f63ab3710c9bab2b35933502c0108601").fst,(true, "c842ae410f340e7bec25646b565d4155f63ab3710c9bab2b35933502c0108601").snd.toList):=by kernel_rfl
theorem looksB:false=Tryz.pinned.checked.prog.looks []:=by kernel_rfl
theorem goesB:false=Rows.cascadeLinesRow.goesBy Tryz.pinned.checked.prog:=by kernel_rfl
end
theorem card8:Rows.CascadeLinesCardSaid:=
 Claim7.holds_tied_plain_at .later [] [.data,.data,.data,.data] true (true, "c842ae410f340e7bec25646b565d4155f63ab3710c9bab2b35933502c0108601") false
  holds8 (fun _ h=>by cases h) textB (fun _ h=>by cases h) cascadeLines_row_tie rfl ⟨rfl,rfl⟩ mainB rfl
  (fun f fn hf hfn=>by
   obtain rfl:f=8:=Option.some.inj (named8.symm.trans hf) |>.symm
   obtain rfl:fn=Tryz.f8:=(Option.some.inj (Tryz.func8.symm.trans hfn)).symm
   exact ⟨looksB,fun j t ht=>by
    rw [Tryz.params8] at ht
    have hm:t∈[24]:=by simpa using Array.mem_of_getElem? ht
    have hall:([24].all fun u=> !Tryz.prog.wantsStandIn u)=true:=by kernel_rfl
    exact (show Tryz.prog.wantsStandIn t=false by simpa using List.all_eq_true.1 hall t hm)⟩)
  goesB
end Go.Proofs.YtafgdbaekppjcaaGreatDoor
