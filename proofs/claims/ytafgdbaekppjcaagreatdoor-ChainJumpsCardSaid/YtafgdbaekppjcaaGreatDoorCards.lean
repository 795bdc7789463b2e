/-
  DERIVED. GIVEN WITH THE SEED: THE CARDS: each row of YtafgdbaekppjcaaGreatDoorRows.lean that lists a variable, with what it lists TIED to the program's text (the seventh form; the later family's looks); each row that meets fmt, with fmt's text TOLD by the authors' own Lean function (tested against real Go, not proved from fmt's source: count such statements apart). THE CARD IS WHAT COUNTS. Prove the row's statement (the work); the ties are given (YtafgdbaekppjcaaGreatDoorTie.lean); close each card by the builder's one call (the guide's Derived/Test/ToyasCard.lean, 'card_holds'). Laid BY PROGRAM, IN A SANDBOX (cutbox-door.mjs). By AI agents, Wed Nov 11 2026. No macro, syntax, notation, axiom, sorry.
-/
import Derived.Test.YtafgdbaekppjcaaGreatDoorRows
import GoSem.ClaimSeven
namespace Go.Proofs.YtafgdbaekppjcaaGreatDoor
namespace Rows

/-- THE TIED CARD OF 'pneumaticlaw33.ChainBuilds'. -/
def chainBuildsCard : Claim7 := { stood := { row := chainBuildsRow, standIns := [], harness := (true, "c842ae410f340e7bec25646b565d4155f63ab3710c9bab2b35933502c0108601"), looks := false }, kinds := [], alts := [], laidByText := true, laidKinds := [.data, .data, .data], laidTests := true, laidLooks := .later }
def ChainBuildsCardSaid : Prop := Claim7.holds Tryz.pinned (.plain (OpenSpec.ofChange chainBuildsSpec)) chainBuildsCard

/-- THE TIED CARD OF 'pneumaticlaw33.ChainMarks'. -/
def chainMarksCard : Claim7 := { stood := { row := chainMarksRow, standIns := [], harness := (true, "c842ae410f340e7bec25646b565d4155f63ab3710c9bab2b35933502c0108601"), looks := false }, kinds := [], alts := [], laidByText := true, laidKinds := [.data, .data, .data], laidTests := true, laidLooks := .later }
def ChainMarksCardSaid : Prop := Claim7.holds Tryz.pinned (.plain (OpenSpec.ofChange chainMarksSpec)) chainMarksCard

/-- THE TIED CARD OF 'pneumaticlaw33.ChainJumps'. -/
def chainJumpsCard : Claim7 := { stood := { row := chainJumpsRow, standIns := [], harness := (true, "c842ae410f340e7bec25646b565d4155f63ab3710c9bab2b35933502c0108601"), looks := false }, kinds := [], alts := [], laidByText := true, laidKinds := [.data, .data, .data], laidTests := true, laidLooks := .later }
def ChainJumpsCardSaid : Prop := Claim7.holds Tryz.pinned (.plain (OpenSpec.ofChange chainJumpsSpec)) chainJumpsCard

/-- THE TIED CARD OF 'pneumaticlaw32.CascadeBuilds'. -/
def cascadeBuildsCard : Claim7 := { stood := { row := cascadeBuildsRow, standIns := [], harness := (true, "c842ae410f340e7bec25646b565d4155f63ab3710c9bab2b35933502c0108601"), looks := false }, kinds := [], alts := [], laidByText := true, laidKinds := [.data, .data, .data, .data], laidTests := true, laidLooks := .later }
def CascadeBuildsCardSaid : Prop := Claim7.holds Tryz.pinned (.plain (OpenSpec.ofChange cascadeBuildsSpec)) cascadeBuildsCard

/-- THE TIED CARD OF 'pneumaticlaw32.CascadePerforms'. -/
def cascadePerformsCard : Claim7 := { stood := { row := cascadePerformsRow, standIns := [], harness := (true, "c842ae410f340e7bec25646b565d4155f63ab3710c9bab2b35933502c0108601"), looks := false }, kinds := [], alts := [], laidByText := true, laidKinds := [.data, .data, .data, .data], laidTests := true, laidLooks := .later }
def CascadePerformsCardSaid : Prop := Claim7.holds Tryz.pinned (.plain (OpenSpec.ofChange cascadePerformsSpec)) cascadePerformsCard

/-- THE TIED CARD OF 'pneumaticlaw32.CascadeLines'. -/
def cascadeLinesCard : Claim7 := { stood := { row := cascadeLinesRow, standIns := [], harness := (true, "c842ae410f340e7bec25646b565d4155f63ab3710c9bab2b35933502c0108601"), looks := false }, kinds := [], alts := [], laidByText := true, laidKinds := [.data, .data, .data, .data], laidTests := true, laidLooks := .later }
def CascadeLinesCardSaid : Prop := Claim7.holds Tryz.pinned (.plain (OpenSpec.ofChange cascadeLinesSpec)) cascadeLinesCard

/-- THE TIED CARD OF 'pneumaticlaw32.CascadeActive'. -/
def cascadeActiveCard : Claim7 := { stood := { row := cascadeActiveRow, standIns := [], harness := (true, "c842ae410f340e7bec25646b565d4155f63ab3710c9bab2b35933502c0108601"), looks := false }, kinds := [], alts := [], laidByText := true, laidKinds := [.data, .data, .data, .data], laidTests := true, laidLooks := .later }
def CascadeActiveCardSaid : Prop := Claim7.holds Tryz.pinned (.plain (OpenSpec.ofChange cascadeActiveSpec)) cascadeActiveCard

/-- THE SECOND FORM's CARD OF 'pneumaticlaw33.ChainBuilds'. -/
def chainBuildsUptoCard : Claim7 := { stood := { row := chainBuildsUptoRow, standIns := [], harness := (true, "c842ae410f340e7bec25646b565d4155f63ab3710c9bab2b35933502c0108601"), looks := false }, kinds := [], alts := [], laidByText := true, laidKinds := [.data, .data, .data], laidTests := true, laidLooks := .later }
def ChainBuildsUptoCardSaid : Prop := Claim7.holds Tryz.pinned (.plain (OpenSpec.upto chainBuildsSpec)) chainBuildsUptoCard

/-- THE SECOND FORM's CARD OF 'pneumaticlaw33.ChainMarks'. -/
def chainMarksUptoCard : Claim7 := { stood := { row := chainMarksUptoRow, standIns := [], harness := (true, "c842ae410f340e7bec25646b565d4155f63ab3710c9bab2b35933502c0108601"), looks := false }, kinds := [], alts := [], laidByText := true, laidKinds := [.data, .data, .data], laidTests := true, laidLooks := .later }
def ChainMarksUptoCardSaid : Prop := Claim7.holds Tryz.pinned (.plain (OpenSpec.upto chainMarksSpec)) chainMarksUptoCard

/-- THE SECOND FORM's CARD OF 'pneumaticlaw33.ChainJumps'. -/
def chainJumpsUptoCard : Claim7 := { stood := { row := chainJumpsUptoRow, standIns := [], harness := (true, "c842ae410f340e7bec25646b565d4155f63ab3710c9bab2b35933502c0108601"), looks := false }, kinds := [], alts := [], laidByText := true, laidKinds := [.data, .data, .data], laidTests := true, laidLooks := .later }
def ChainJumpsUptoCardSaid : Prop := Claim7.holds Tryz.pinned (.plain (OpenSpec.upto chainJumpsSpec)) chainJumpsUptoCard

/-- THE SECOND FORM's CARD OF 'pneumaticlaw32.CascadeBuilds'. -/
def cascadeBuildsUptoCard : Claim7 := { stood := { row := cascadeBuildsUptoRow, standIns := [], harness := (true, "c842ae410f340e7bec25646b565d4155f63ab3710c9bab2b35933502c0108601"), looks := false }, kinds := [], alts := [], laidByText := true, laidKinds := [.data, .data, .data, .data], laidTests := true, laidLooks := .later }
def CascadeBuildsUptoCardSaid : Prop := Claim7.holds Tryz.pinned (.plain (OpenSpec.upto cascadeBuildsSpec)) cascadeBuildsUptoCard

/-- THE SECOND FORM's CARD OF 'pneumaticlaw32.CascadePerforms'. -/
def cascadePerformsUptoCard : Claim7 := { stood := { row := cascadePerformsUptoRow, standIns := [], harness := (true, "c842ae410f340e7bec25646b565d4155f63ab3710c9bab2b35933502c0108601"), looks := false }, kinds := [], alts := [], laidByText := true, laidKinds := [.data, .data, .data, .data], laidTests := true, laidLooks := .later }
def CascadePerformsUptoCardSaid : Prop := Claim7.holds Tryz.pinned (.plain (OpenSpec.upto cascadePerformsSpec)) cascadePerformsUptoCard

/-- THE SECOND FORM's CARD OF 'pneumaticlaw32.CascadeLines'. -/
def cascadeLinesUptoCard : Claim7 := { stood := { row := cascadeLinesUptoRow, standIns := [], harness := (true, "c842ae410f340e7bec25646b565d4155f63ab3710c9bab2b35933502c0108601"), looks := false }, kinds := [], alts := [], laidByText := true, laidKinds := [.data, .data, .data, .data], laidTests := true, laidLooks := .later }
def CascadeLinesUptoCardSaid : Prop := Claim7.holds Tryz.pinned (.plain (OpenSpec.upto cascadeLinesSpec)) cascadeLinesUptoCard

/-- THE SECOND FORM's CARD OF 'pneumaticlaw32.CascadeActive'. -/
def cascadeActiveUptoCard : Claim7 := { stood := { row := cascadeActiveUptoRow, standIns := [], harness := (true, "c842ae410f340e7bec25646b565d4155f63ab3710c9bab2b35933502c0108601"), looks := false }, kinds := [], alts := [], laidByText := true, laidKinds := [.data, .data, .data, .data], laidTests := true, laidLooks := .later }
def CascadeActiveUptoCardSaid : Prop := Claim7.holds Tryz.pinned (.plain (OpenSpec.upto cascadeActiveSpec)) cascadeActiveUptoCard
end Rows
end Go.Proofs.YtafgdbaekppjcaaGreatDoor
