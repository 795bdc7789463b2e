/- CascadeActive returns true for all sequences and states. No condition. -/
import Derived.Test.YtafgdbaekppjcaaGreatDoorG33a
import Derived.Test.YtafgdbaekppjcaaGreatDoorP34n
import Derived.Test.YtafgdbaekppjcaaGreatDoorTie
import Derived.Test.YtafgdbaekppjcaaGreatDoorCards
import Derived.SevenTiedAt
set_option linter.unusedSectionVars false
set_option linter.unusedVariables false
set_option linter.unusedSimpArgs false
namespace Go.Proofs.YtafgdbaekppjcaaGreatDoor
open Go Go.Pl Go.Am Go.Am.As Go.ChangeShapes Go.WideShapes Go.ChangeAt Go.WideMaps Go.WideElems Go.RowKit
open cK (aa E0)
set_option maxRecDepth 100000 in
theorem aeE (xs:List AV) (h:OZ Tryz.prog 6 Tryz.f9.params.toList xs):Pu E0 cK.hp 9 xs (.bool true):=by
 rw [Tryz.params9] at h;obtain ⟨x0,xs,rfl⟩:∃ x r,xs=x::r:=by cases xs with | nil=>exact h.elim | cons x r=>exact ⟨x,r,rfl⟩
 obtain ⟨h0,h⟩:=h;obtain ⟨x1,xs,rfl⟩:∃ x r,xs=x::r:=by cases xs with | nil=>exact h.elim | cons x r=>exact ⟨x,r,rfl⟩
 obtain ⟨h1,h⟩:=h;obtain rfl:xs=[]:=by cases xs with | nil=>rfl | cons x r=>exact h.elim
 obtain ⟨_,rfl,g0⟩:=HI (by kernel_rfl) h0;obtain ⟨_,rfl,g1⟩:=HI (by kernel_rfl) h1;obtain ⟨s,rfl⟩:=cK.U0 (D:=0) g0;obtain ⟨x,rfl⟩:=cK.MR (D:=3) g1;have h3:Pt E0 cK.hp 9 [.agg (cK.iw s),.agg (cK.vo x)] (.bool true):=cK.k9 (s,x) true (cK.UO s x);exact h3.pu
open cK (wq)
theorem NJ (os:Os) (args:Array Value):laidMetH Tryz.prog wq ((World.doorLaid Tryz.prog 400 os).forCall (fun _ _=>0) ⟨#[],args,[]⟩).memory:=
 laidMetH_of_parts3 (fuel:=8) (laidMet_of_run' 8 (by kernel_rfl) (by kernel_rfl)) (by kernel_rfl) (by kernel_rfl)
set_option maxRecDepth 100000 in
theorem Ra (os:Os) (started:os.Started) (H:Type) (enc:TypeId×Value->H):
 ReturnsInHanded {} Tryz.checked os 9 .any (fun w args=>(Rows.cascadeActiveSpec.pre enc Tryz.prog Tryz.f9 [] false w args/\laidMetH Tryz.prog wq w)/\sizedMet enc Tryz.prog Tryz.f9 (OpenSpec.ofChange Rows.cascadeActiveSpec) false w args)
  (Rows.cascadeActiveSpec.post enc Tryz.prog Tryz.f9 false true false false):=by
 refine returnsInHanded_of_change_and (C:=Tryz.checked) (X:=fun w _=>laidMetH Tryz.prog wq w) (fun _ _ _ hh h=>h.of_heap hh) cK.own started (by kernel_rfl) Tryz.func9
  (ChangeSpec.witness_shaped (enc:=enc) (C:=Tryz.checked) (os:=os) (X:=fun w _=>laidMetH Tryz.prog wq w) false (World.doorLaid Tryz.prog 400 os) #[.agg #[.int .i64 0,.slice none 0 0],.agg #[.slice none 0 0,.slice none 0 0,.slice none 0 0,.slice none 0 0,.slice none 0 0]] 8 rfl (World.shaped_of_RefB (by kernel_rfl) (by kernel_rfl)) (by kernel_rfl) (by kernel_rfl) (by kernel_rfl) (NJ os _)) ?_
 intro W base args ds gs before ZK hW ae0 _ hL _;have hW':DataW.Whole enc Tryz.prog Tryz.f9.params.toList Rows.cascadeActiveSpec.vars false W args.toList ds gs before:=hW;refine IZ (E:=E0) (hp:=cK.hp) (D:=6) (b:=base) cK.UC (fun c hw hO=>cK.Qm hL c hw hO) ZK hW' rfl (tb:=4) rfl Tryz.underlying4 cK.laidOut ?_ ?_ aeE
 ·rw [Tryz.params9];intro t ht;simp only [zam,zbD,or_false] at ht;rcases ht with rfl | rfl<;>exact ⟨⟨by kernel_rfl,of_decide_eq_true (by kernel_rfl)⟩,by kernel_rfl⟩
 ·intro ds hds;match ds,hds with
  | [d1,d2],_=>exact ⟨rfl,rfl,rfl⟩
theorem eY {a b:Bool} (h1:a=true) (h2:b=true):(a&&b)=true:=by rw [h1,h2];rfl
section
set_option maxRecDepth 100000
theorem ZL:laidOutB Tryz.checked.prog=true:=by kernel_rfl
theorem ZM:mapsRowed Tryz.checked.prog=true:=by kernel_rfl
theorem ZN:(Rows.cascadeActiveRow.inPlace==Tryz.checked.prog.inPlace 9)=true:=by kernel_rfl
theorem VB:(Rows.cascadeActiveRow.unfollowed==Tryz.checked.prog.unfollowed 9)=true:=by kernel_rfl
theorem VC:(Rows.cascadeActiveRow.recurses==Tryz.checked.prog.recurses 9)=true:=by kernel_rfl
theorem VD:(Rows.cascadeActiveRow.named==Tryz.checked.prog.varsNamed 9)=true:=by kernel_rfl
theorem VE:(Rows.cascadeActiveRow.plainKeys==Tryz.checked.prog.plainKeys)=true:=by kernel_rfl
theorem VF:Tryz.checked.prog.stopsHeard=true:=by kernel_rfl
theorem VG:Tryz.checked.prog.mayEnter=true:=by kernel_rfl
theorem VH:(Rows.cascadeActiveRow.lifted==Tryz.checked.prog.liftsFinal)=true:=by kernel_rfl
theorem VI:(Tryz.checked.prog.make==some Rows.cascadeActiveRow.make)=true:=by kernel_rfl
theorem Rb:joinedFacts Tryz.checked.prog 9 Tryz.f9 Rows.cascadeActiveSpec Rows.cascadeActiveRow=true:=by
 unfold joinedFacts;exact eY (eY (eY (eY (eY (eY (eY (eY (eY (eY (eY (eY (eY (eY (eY (eY (eY (eY (eY (eY (eY (eY (eY (eY (eY (eY (eY (eY (eY (eY (eY (by kernel_rfl) ZL) ZM) (by kernel_rfl)) (by kernel_rfl)) (by kernel_rfl)) (by kernel_rfl)) (by kernel_rfl)) (by kernel_rfl)) ZN) VB) VC) VD) (by kernel_rfl)) (by kernel_rfl)) (by kernel_rfl)) (by kernel_rfl)) (by kernel_rfl)) (by kernel_rfl)) (by kernel_rfl)) (by kernel_rfl)) (by kernel_rfl)) VE) (by kernel_rfl)) VF) VG) VH) VI) (by kernel_rfl)) (by kernel_rfl)) (by kernel_rfl)) (by kernel_rfl)
end
theorem LG:Tryz.prog.funcNamed Rows.cascadeActiveRow.func=some 9:=by kernel_rfl
theorem VJ:Rows.CascadeActiveSaid:=
 OpenClaim.holds_of_wide 9 Tryz.f9 rfl rfl rfl rfl rfl rfl rfl ⟨rfl,rfl,rfl,rfl,rfl⟩ rfl rfl rfl rfl rfl LG Tryz.func9 Rb
  (of_decide_eq_true (by kernel_rfl)) (by unfold Func.isWrapper;first | (rw [if_pos (by decide+kernel)];kernel_rfl) | (rw [if_neg (by decide+kernel)];exact ⟨rfl,rfl⟩))
  (fun os started H enc _=>Ra os started H enc)
section
set_option maxRecDepth 100000
theorem ZO:OpenClaim.wfByText (OpenSpec.ofChange Rows.cascadeActiveSpec) Rows.cascadeActiveRow=true:=by kernel_rfl
theorem ZP:Tryz.pinned.checked.prog.mainIs=some ((true, "c842ae410f340e7bec25646b565d4155f63ab3710c9bab2b35933502c0108601").fst,(true, "c842ae410f340e7bec25646b565d4155f63ab3710c9bab2b35933502c0108601").snd.toList):=by kernel_rfl
theorem VK:false=Tryz.pinned.checked.prog.looks []:=by kernel_rfl
theorem ZQ:false=Rows.cascadeActiveRow.goesBy Tryz.pinned.checked.prog:=by kernel_rfl
end
theorem card9:Rows.CascadeActiveCardSaid:=
 Claim7.holds_tied_plain_at .later [] [.data,.data,.data,.data] true (true, "c842ae410f340e7bec25646b565d4155f63ab3710c9bab2b35933502c0108601") false
  VJ (fun _ h=>by cases h) ZO (fun _ h=>by cases h) cascadeActive_row_tie rfl ⟨rfl,rfl⟩ ZP rfl
  (fun f fn hf hfn=>by
   obtain rfl:f=9:=zbm (LG.symm.trans hf) |>.symm
   obtain rfl:fn=Tryz.f9:=(zbm (Tryz.func9.symm.trans hfn)).symm;exact ⟨VK,fun j t ht=>by
    rw [Tryz.params9] at ht;have hm:t∈[24,40]:=by simpa using Array.mem_of_getElem? ht
    have hall:([24,40].all fun u=> !Tryz.prog.wantsStandIn u)=true:=by kernel_rfl
    exact (show Tryz.prog.wantsStandIn t=false by simpa using zai.1 hall t hm)⟩)
  ZQ
end Go.Proofs.YtafgdbaekppjcaaGreatDoor
