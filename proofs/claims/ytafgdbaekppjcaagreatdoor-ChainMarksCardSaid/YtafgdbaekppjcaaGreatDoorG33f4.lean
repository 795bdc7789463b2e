/- ChainMarks returns true for all sequences and states. No condition. -/
import Derived.Test.YtafgdbaekppjcaaGreatDoorG33D
import Derived.Test.YtafgdbaekppjcaaGreatDoorG33p
import Derived.Test.YtafgdbaekppjcaaGreatDoorP34n
import Derived.Test.YtafgdbaekppjcaaGreatDoorTie
import Derived.Test.YtafgdbaekppjcaaGreatDoorCards
import Derived.SevenTiedAt
import Derived.ProofKit
import Derived.LaidMore
import Derived.OpenShut
import Derived.MakeChecks
set_option linter.unusedSectionVars false
set_option linter.unusedVariables false
set_option linter.unusedSimpArgs false
namespace Go.Proofs.YtafgdbaekppjcaaGreatDoor
open Go Go.Pl Go.Am Go.Am.As Go.ChangeShapes Go.WideShapes Go.ChangeAt Go.WideMaps Go.WideElems Go.RowKit
open cQ (ai E0)
set_option maxRecDepth 100000 in
theorem aew (xs:List AV) (h:Mn Tryz.prog 6 Tryz.f4.params.toList xs):Pu E0 cQ.hp 4 xs (.bool true):=by
 rw [Tryz.params4] at h;obtain ⟨x0,xs,rfl⟩:∃ x r,xs=x::r:=by cases xs with | nil=>exact h.elim | cons x r=>exact ⟨x,r,rfl⟩
 obtain ⟨h0,h⟩:=h;obtain ⟨x1,xs,rfl⟩:∃ x r,xs=x::r:=by cases xs with | nil=>exact h.elim | cons x r=>exact ⟨x,r,rfl⟩
 obtain ⟨h1,h⟩:=h;obtain rfl:xs=[]:=by cases xs with | nil=>rfl | cons x r=>exact h.elim
 obtain ⟨_,rfl,g0⟩:=E7 (by kernel_rfl) h0;obtain ⟨_,rfl,g1⟩:=E7 (by kernel_rfl) h1;obtain ⟨s,rfl⟩:=cQ.RQ (D:=0) g0;obtain ⟨x,rfl⟩:=cQ.Kl (D:=3) g1;have h3:Pt E0 cQ.hp 4 [.agg (cQ.gN s),.agg (cQ.tD x)] (.bool true):=cQ.k4 (s,x) true (cQ.R2 s x);exact h3.pu
abbrev Eo {H:Type}:List (String×DataW H):=[("math/bits.deBruijn32tab",Rows.laid_math_bits_deBruijn32tab),("math/bits.deBruijn64tab",Rows.laid_math_bits_deBruijn64tab),("internal/strconv.uint64pow10",Rows.laid_internal_strconv_uint64pow10)]
theorem Ky (os:Os) (args:Array Value):laidMetH Tryz.prog Eo ((World.doorLaid Tryz.prog 400 os).forCall (fun _ _=>0) ⟨#[],args,[]⟩).memory:=
 laidMetH_of_parts3 (fuel:=8) (laidMet_of_run' 8 (by kernel_rfl) (by kernel_rfl)) (by kernel_rfl) (by kernel_rfl)
set_option maxRecDepth 100000 in
theorem Nt (os:Os) (started:os.Started) (H:Type) (enc:TypeId×Value->H):
 ReturnsInHanded {} Tryz.checked os 4 .any (fun w args=>(Rows.chainMarksSpec.pre enc Tryz.prog Tryz.f4 [] false w args/\laidMetH Tryz.prog Eo w)/\sizedMet enc Tryz.prog Tryz.f4 (OpenSpec.ofChange Rows.chainMarksSpec) false w args)
  (Rows.chainMarksSpec.post enc Tryz.prog Tryz.f4 false true false false):=by
 refine returnsInHanded_of_change_and (C:=Tryz.checked) (X:=fun w _=>laidMetH Tryz.prog Eo w) (fun _ _ _ hh h=>h.of_heap hh) cQ.own started (by kernel_rfl) Tryz.func4
  (ChangeSpec.witness_shaped (enc:=enc) (C:=Tryz.checked) (os:=os) (X:=fun w _=>laidMetH Tryz.prog Eo w) false (World.doorLaid Tryz.prog 400 os) #[.agg #[.int .i64 0,.slice none 0 0],.agg #[.slice none 0 0,.slice none 0 0,.slice none 0 0,.slice none 0 0,.slice none 0 0]] 8 rfl (World.shaped_of_RefB (by kernel_rfl) (by kernel_rfl)) (by kernel_rfl) (by kernel_rfl) (by kernel_rfl) (Ky os _)) ?_
 intro W base args ds gs before VY hW afj _ hL _;have X2:DataW.Whole enc Tryz.prog Tryz.f4.params.toList Rows.chainMarksSpec.vars false W args.toList ds gs before:=hW;refine Gg (E:=E0) (hp:=cQ.hp) (D:=6) (b:=base) cQ.Rx (fun c _ _=>Kz c) VY X2 rfl (tb:=4) rfl Tryz.underlying4 cQ.laidOut ?_ ?_ aew
 ·rw [Tryz.params4];intro t ht;simp only [List.mem_cons,List.not_mem_nil,or_false] at ht;rcases ht with rfl | rfl<;>exact ⟨⟨by kernel_rfl,of_decide_eq_true (by kernel_rfl)⟩,by kernel_rfl⟩
 ·intro ds hds;match ds,hds with
  | [d1,d2],_=>exact ⟨rfl,rfl,rfl⟩
theorem eY {a b:Bool} (h1:a=true) (h2:b=true):(a&&b)=true:=by rw [h1,h2];rfl
section
set_option maxRecDepth 100000
theorem VZ:laidOutB Tryz.checked.prog=true:=by kernel_rfl
theorem V0:mapsRowed Tryz.checked.prog=true:=by kernel_rfl
theorem V1:(Rows.chainMarksRow.inPlace==Tryz.checked.prog.inPlace 4)=true:=by kernel_rfl
theorem R3:(Rows.chainMarksRow.unfollowed==Tryz.checked.prog.unfollowed 4)=true:=by kernel_rfl
theorem R4:(Rows.chainMarksRow.recurses==Tryz.checked.prog.recurses 4)=true:=by kernel_rfl
theorem R5:(Rows.chainMarksRow.named==Tryz.checked.prog.varsNamed 4)=true:=by kernel_rfl
theorem R6:(Rows.chainMarksRow.plainKeys==Tryz.checked.prog.plainKeys)=true:=by kernel_rfl
theorem R7:Tryz.checked.prog.stopsHeard=true:=by kernel_rfl
theorem R8:Tryz.checked.prog.mayEnter=true:=by kernel_rfl
theorem R9:(Rows.chainMarksRow.lifted==Tryz.checked.prog.liftsFinal)=true:=by kernel_rfl
theorem Sa:(Tryz.checked.prog.make==some Rows.chainMarksRow.make)=true:=by kernel_rfl
theorem Nu:joinedFacts Tryz.checked.prog 4 Tryz.f4 Rows.chainMarksSpec Rows.chainMarksRow=true:=by
 unfold joinedFacts;exact eY (eY (eY (eY (eY (eY (eY (eY (eY (eY (eY (eY (eY (eY (eY (eY (eY (eY (eY (eY (eY (eY (eY (eY (eY (eY (eY (eY (eY (eY (eY (by kernel_rfl) VZ) V0) (by kernel_rfl)) (by kernel_rfl)) (by kernel_rfl)) (by kernel_rfl)) (by kernel_rfl)) (by kernel_rfl)) V1) R3) R4) R5) (by kernel_rfl)) (by kernel_rfl)) (by kernel_rfl)) (by kernel_rfl)) (by kernel_rfl)) (by kernel_rfl)) (by kernel_rfl)) (by kernel_rfl)) (by kernel_rfl)) R6) (by kernel_rfl)) R7) R8) R9) Sa) (by kernel_rfl)) (by kernel_rfl)) (by kernel_rfl)) (by kernel_rfl)
end
theorem IZ:Tryz.prog.funcNamed Rows.chainMarksRow.func=some 4:=by kernel_rfl
theorem Sb:Rows.ChainMarksSaid:=
 OpenClaim.holds_of_wide 4 Tryz.f4 rfl rfl rfl rfl rfl rfl rfl ⟨rfl,rfl,rfl,rfl,rfl⟩ rfl rfl rfl rfl rfl IZ Tryz.func4 Nu
  (of_decide_eq_true (by kernel_rfl)) (by unfold Func.isWrapper;first | (rw [if_pos (by decide+kernel)];kernel_rfl) | (rw [if_neg (by decide+kernel)];exact ⟨rfl,rfl⟩))
  (fun os started H enc _=>Nt os started H enc)
section
set_option maxRecDepth 100000
theorem V2:OpenClaim.wfByText (OpenSpec.ofChange Rows.chainMarksSpec) Rows.chainMarksRow=true:=by kernel_rfl
theorem V3:Tryz.pinned.checked.prog.mainIs=some ((true, "c842ae410f340e7bec25646b565d4155f63ab3710c9bab2b35933502c0108601").fst,(true, "c842ae410f340e7bec25646b565d4155f63ab3710c9bab2b35933502c0108601").snd.toList):=by kernel_rfl
theorem Sc:false=Tryz.pinned.checked.prog.looks []:=by kernel_rfl
theorem V4:false=Rows.chainMarksRow.goesBy Tryz.pinned.checked.prog:=by kernel_rfl
end
theorem card4:Rows.ChainMarksCardSaid:=
 Claim7.holds_tied_plain_at .later [] [.data,.data,.data] true (true, "c842ae410f340e7bec25646b565d4155f63ab3710c9bab2b35933502c0108601") false
  Sb (fun _ h=>by cases h) V2 (fun _ h=>by cases h) chainMarks_row_tie rfl ⟨rfl,rfl⟩ V3 rfl
  (fun f fn hf hfn=>by
   obtain rfl:f=4:=Option.some.inj (IZ.symm.trans hf) |>.symm
   obtain rfl:fn=Tryz.f4:=(Option.some.inj (Tryz.func4.symm.trans hfn)).symm;exact ⟨Sc,fun j t ht=>by
    rw [Tryz.params4] at ht;have hm:t∈[24,40]:=by simpa using Array.mem_of_getElem? ht
    have hall:([24,40].all fun u=> !Tryz.prog.wantsStandIn u)=true:=by kernel_rfl
    exact (show Tryz.prog.wantsStandIn t=false by simpa using List.all_eq_true.1 hall t hm)⟩)
  V4
end Go.Proofs.YtafgdbaekppjcaaGreatDoor
