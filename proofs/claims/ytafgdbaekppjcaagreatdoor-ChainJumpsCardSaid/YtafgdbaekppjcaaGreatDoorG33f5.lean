/- ChainJumps returns true for all sequences and steps. No condition. -/
import Derived.Test.YtafgdbaekppjcaaGreatDoorG33u
import Derived.Test.YtafgdbaekppjcaaGreatDoorP35i
import Derived.Test.YtafgdbaekppjcaaGreatDoorTie
import Derived.Test.YtafgdbaekppjcaaGreatDoorCards
import Derived.SevenTiedAt
import Derived.LaidMore
import Derived.OpenShut
import Derived.MakeChecks
set_option linter.unusedSectionVars false
set_option linter.unusedVariables false
set_option linter.unusedSimpArgs false
namespace Go.Proofs.YtafgdbaekppjcaaGreatDoor
open Go Go.Pl Go.Am Go.Am.As Go.ChangeShapes Go.WideShapes Go.ChangeAt Go.WideMaps Go.WideElems Go.RowKit
open ck (af E0)
set_option maxRecDepth 100000 in
theorem adv (xs:List AV) (h:Q1 Tryz.prog 6 Tryz.f5.params.toList xs):Pu E0 ck.hp 5 xs (.bool true):=by
 rw [Tryz.params5] at h;obtain ⟨x0,xs,rfl⟩:∃ x r,xs=x::r:=by cases xs with | nil=>exact h.elim | cons x r=>exact ⟨x,r,rfl⟩
 obtain ⟨h0,h⟩:=h;obtain ⟨x1,xs,rfl⟩:∃ x r,xs=x::r:=by cases xs with | nil=>exact h.elim | cons x r=>exact ⟨x,r,rfl⟩
 obtain ⟨h1,h⟩:=h;obtain rfl:xs=[]:=by cases xs with | nil=>rfl | cons x r=>exact h.elim
 obtain ⟨_,rfl,g0⟩:=R9 (by kernel_rfl) h0;have g1:=Sa (by kernel_rfl) h1;obtain ⟨n,e,_⟩:=Bu (D:=5) Tryz.underlying3 g1;injection e with e _
 subst e;obtain ⟨s,rfl⟩:=ck.WR (D:=0) g0;have h3:Pt E0 ck.hp 5 [.agg (ck.iB s),.int .i64 n] (.bool true):=ck.k5 (s,n) true (ck.WS s n);exact h3.pu
abbrev HN {H:Type}:List (String×DataW H):=[("math/bits.deBruijn32tab",Rows.laid_math_bits_deBruijn32tab),("math/bits.deBruijn64tab",Rows.laid_math_bits_deBruijn64tab),("internal/strconv.uint64pow10",Rows.laid_internal_strconv_uint64pow10)]
theorem OP (os:Os) (args:Array Value):laidMetH Tryz.prog HN ((World.doorLaid Tryz.prog 400 os).forCall (fun _ _=>0) ⟨#[],args,[]⟩).memory:=
 laidMetH_of_parts3 (fuel:=8) (laidMet_of_run' 8 (by kernel_rfl) (by kernel_rfl)) (by kernel_rfl) (by kernel_rfl)
set_option maxRecDepth 100000 in
theorem Sb (os:Os) (started:os.Started) (H:Type) (enc:TypeId×Value->H):
 ReturnsInHanded {} Tryz.checked os 5 .any (fun w args=>(Rows.chainJumpsSpec.pre enc Tryz.prog Tryz.f5 [] false w args/\laidMetH Tryz.prog HN w)/\sizedMet enc Tryz.prog Tryz.f5 (OpenSpec.ofChange Rows.chainJumpsSpec) false w args)
  (Rows.chainJumpsSpec.post enc Tryz.prog Tryz.f5 false true false false):=by
 refine returnsInHanded_of_change_and (C:=Tryz.checked) (X:=fun w _=>laidMetH Tryz.prog HN w) (fun _ _ _ hh h=>h.of_heap hh) ck.own started (by kernel_rfl) Tryz.func5
  (ChangeSpec.witness_shaped (enc:=enc) (C:=Tryz.checked) (os:=os) (X:=fun w _=>laidMetH Tryz.prog HN w) false (World.doorLaid Tryz.prog 400 os) #[.agg #[.int .i64 0,.slice none 0 0],.int .i64 0] 8 rfl (World.shaped_of_RefB (by kernel_rfl) (by kernel_rfl)) (by kernel_rfl) (by kernel_rfl) (by kernel_rfl) (OP os _)) ?_
 intro W base args ds gs before aa4 hW afa _ hL _;have hW':DataW.Whole enc Tryz.prog Tryz.f5.params.toList Rows.chainJumpsSpec.vars false W args.toList ds gs before:=hW;refine J1 (E:=E0) (hp:=ck.hp) (D:=6) (b:=base) ck.Ww (fun c _ _=>OQ c) aa4 hW' rfl (tb:=4) rfl Tryz.underlying4 ck.laidOut ?_ ?_ adv
 ·rw [Tryz.params5];intro t ht;simp only [zad,zaV,or_false] at ht;rcases ht with rfl | rfl<;>exact ⟨⟨by kernel_rfl,of_decide_eq_true (by kernel_rfl)⟩,by kernel_rfl⟩
 ·intro ds hds;match ds,hds with
  | [d1,d2],_=>exact ⟨rfl,rfl,rfl⟩
theorem fE {a b:Bool} (h1:a=true) (h2:b=true):(a&&b)=true:=by rw [h1,h2];rfl
section
set_option maxRecDepth 100000
theorem aa5:laidOutB Tryz.checked.prog=true:=by kernel_rfl
theorem aa6:mapsRowed Tryz.checked.prog=true:=by kernel_rfl
theorem aa7:(Rows.chainJumpsRow.inPlace==Tryz.checked.prog.inPlace 5)=true:=by kernel_rfl
theorem WT:(Rows.chainJumpsRow.unfollowed==Tryz.checked.prog.unfollowed 5)=true:=by kernel_rfl
theorem WU:(Rows.chainJumpsRow.recurses==Tryz.checked.prog.recurses 5)=true:=by kernel_rfl
theorem WV:(Rows.chainJumpsRow.named==Tryz.checked.prog.varsNamed 5)=true:=by kernel_rfl
theorem WW:(Rows.chainJumpsRow.plainKeys==Tryz.checked.prog.plainKeys)=true:=by kernel_rfl
theorem WX:Tryz.checked.prog.stopsHeard=true:=by kernel_rfl
theorem WY:Tryz.checked.prog.mayEnter=true:=by kernel_rfl
theorem WZ:(Rows.chainJumpsRow.lifted==Tryz.checked.prog.liftsFinal)=true:=by kernel_rfl
theorem W0:(Tryz.checked.prog.make==some Rows.chainJumpsRow.make)=true:=by kernel_rfl
theorem Sc:joinedFacts Tryz.checked.prog 5 Tryz.f5 Rows.chainJumpsSpec Rows.chainJumpsRow=true:=by
 unfold joinedFacts;exact fE (fE (fE (fE (fE (fE (fE (fE (fE (fE (fE (fE (fE (fE (fE (fE (fE (fE (fE (fE (fE (fE (fE (fE (fE (fE (fE (fE (fE (fE (fE (by kernel_rfl) aa5) aa6) (by kernel_rfl)) (by kernel_rfl)) (by kernel_rfl)) (by kernel_rfl)) (by kernel_rfl)) (by kernel_rfl)) aa7) WT) WU) WV) (by kernel_rfl)) (by kernel_rfl)) (by kernel_rfl)) (by kernel_rfl)) (by kernel_rfl)) (by kernel_rfl)) (by kernel_rfl)) (by kernel_rfl)) (by kernel_rfl)) WW) (by kernel_rfl)) WX) WY) WZ) W0) (by kernel_rfl)) (by kernel_rfl)) (by kernel_rfl)) (by kernel_rfl)
end
theorem MU:Tryz.prog.funcNamed Rows.chainJumpsRow.func=some 5:=by kernel_rfl
theorem W1:Rows.ChainJumpsSaid:=
 OpenClaim.holds_of_wide 5 Tryz.f5 rfl rfl rfl rfl rfl rfl rfl ⟨rfl,rfl,rfl,rfl,rfl⟩ rfl rfl rfl rfl rfl MU Tryz.func5 Sc
  (of_decide_eq_true (by kernel_rfl)) (by unfold Func.isWrapper;first | (rw [if_pos (by decide+kernel)];kernel_rfl) | (rw [if_neg (by decide+kernel)];exact ⟨rfl,rfl⟩))
  (fun os started H enc _=>Sb os started H enc)
section
set_option maxRecDepth 100000
theorem aa8:OpenClaim.wfByText (OpenSpec.ofChange Rows.chainJumpsSpec) Rows.chainJumpsRow=true:=by kernel_rfl
theorem aa9:Tryz.pinned.checked.prog.mainIs=some ((true, "c842ae410f340e7bec25646b565d4155f63ab3710c9bab2b35933502c0108601").fst,(true, "c842ae410f340e7bec25646b565d4155f63ab3710c9bab2b35933502c0108601").snd.toList):=by kernel_rfl
theorem W2:false=Tryz.pinned.checked.prog.looks []:=by kernel_rfl
theorem aba:false=Rows.chainJumpsRow.goesBy Tryz.pinned.checked.prog:=by kernel_rfl
end
theorem card5:Rows.ChainJumpsCardSaid:=
 Claim7.holds_tied_plain_at .later [] [.data,.data,.data] true (true, "c842ae410f340e7bec25646b565d4155f63ab3710c9bab2b35933502c0108601") false
  W1 (fun _ h=>by cases h) aa8 (fun _ h=>by cases h) chainJumps_row_tie rfl ⟨rfl,rfl⟩ aa9 rfl
  (fun f fn hf hfn=>by
   obtain rfl:f=5:=zbg (MU.symm.trans hf) |>.symm
   obtain rfl:fn=Tryz.f5:=(zbg (Tryz.func5.symm.trans hfn)).symm;exact ⟨W2,fun j t ht=>by
    rw [Tryz.params5] at ht;have hm:t∈[24,3]:=by simpa using Array.mem_of_getElem? ht
    have hall:([24,3].all fun u=> !Tryz.prog.wantsStandIn u)=true:=by kernel_rfl
    exact (show Tryz.prog.wantsStandIn t=false by simpa using zaf.1 hall t hm)⟩)
  aba
end Go.Proofs.YtafgdbaekppjcaaGreatDoor
