/-
  DERIVED. GIVEN WITH THE SEED: THE CARDS: each row of YtoobbcmofleljaaDoorRows.lean that lists a variable, with what it lists TIED to the program's text (the seventh form; the later family's looks); each row that meets fmt, with fmt's text TOLD by the authors' own Lean function (tested against real Go, not proved from fmt's source: count such statements apart). THE CARD IS WHAT COUNTS. Prove the row's statement (the work); the ties are given (YtoobbcmofleljaaDoorTie.lean); close each card by the builder's one call (the guide's Derived/Test/ToyasCard.lean, 'card_holds'). Laid BY PROGRAM, IN A SANDBOX (cutbox-door.mjs). By AI agents, Wed Nov 11 2026. No macro, syntax, notation, axiom, sorry.
-/
import Derived.Test.YtoobbcmofleljaaDoorRows
import GoSem.ClaimSeven
namespace Go.Proofs.YtoobbcmofleljaaDoor
namespace Rows

/-- THE TIED CARD OF 'pneumaticlaw18.GroupVerifies'. -/
def groupVerifiesCard : Claim7 := { stood := { row := groupVerifiesRow, standIns := [], harness := (true, "111cc49052ce6d872da5b3a3afaad814da0c6cb0efe45c51fad93c1d58382847"), looks := false }, kinds := [], alts := [], laidByText := true, laidKinds := [.data], laidTests := true, laidLooks := .later }
def GroupVerifiesCardSaid : Prop := Claim7.holds Tryd.pinned (.plain (OpenSpec.ofChange groupVerifiesSpec)) groupVerifiesCard

/-- THE TIED CARD OF 'pneumaticlaw18.GroupFewest'. -/
def groupFewestCard : Claim7 := { stood := { row := groupFewestRow, standIns := [], harness := (true, "111cc49052ce6d872da5b3a3afaad814da0c6cb0efe45c51fad93c1d58382847"), looks := false }, kinds := [], alts := [], laidByText := true, laidKinds := [.data], laidTests := true, laidLooks := .later }
def GroupFewestCardSaid : Prop := Claim7.holds Tryd.pinned (.plain (OpenSpec.ofChange groupFewestSpec)) groupFewestCard

/-- THE TIED CARD OF 'pneumaticlaw18.GroupRings'. -/
def groupRingsCard : Claim7 := { stood := { row := groupRingsRow, standIns := [], harness := (true, "111cc49052ce6d872da5b3a3afaad814da0c6cb0efe45c51fad93c1d58382847"), looks := false }, kinds := [], alts := [], laidByText := true, laidKinds := [.data], laidTests := true, laidLooks := .later }
def GroupRingsCardSaid : Prop := Claim7.holds Tryd.pinned (.plain (OpenSpec.ofChange groupRingsSpec)) groupRingsCard

/-- THE TIED CARD OF 'pneumaticlaw18.GroupTurns'. -/
def groupTurnsCard : Claim7 := { stood := { row := groupTurnsRow, standIns := [], harness := (true, "111cc49052ce6d872da5b3a3afaad814da0c6cb0efe45c51fad93c1d58382847"), looks := false }, kinds := [], alts := [], laidByText := true, laidKinds := [.data], laidTests := true, laidLooks := .later }
def GroupTurnsCardSaid : Prop := Claim7.holds Tryd.pinned (.plain (OpenSpec.ofChange groupTurnsSpec)) groupTurnsCard

/-- THE TIED CARD OF 'pneumaticlaw18.GroupLasts'. -/
def groupLastsCard : Claim7 := { stood := { row := groupLastsRow, standIns := [], harness := (true, "111cc49052ce6d872da5b3a3afaad814da0c6cb0efe45c51fad93c1d58382847"), looks := false }, kinds := [], alts := [], laidByText := true, laidKinds := [.data], laidTests := true, laidLooks := .later }
def GroupLastsCardSaid : Prop := Claim7.holds Tryd.pinned (.plain (OpenSpec.ofChange groupLastsSpec)) groupLastsCard

/-- THE TIED CARD OF 'pneumaticlaw18.GroupProves'. -/
def groupProvesCard : Claim7 := { stood := { row := groupProvesRow, standIns := [], harness := (true, "111cc49052ce6d872da5b3a3afaad814da0c6cb0efe45c51fad93c1d58382847"), looks := false }, kinds := [], alts := [], laidByText := true, laidKinds := [.data], laidTests := true, laidLooks := .later }
def GroupProvesCardSaid : Prop := Claim7.holds Tryd.pinned (.plain (OpenSpec.ofChange groupProvesSpec)) groupProvesCard

/-- THE TIED CARD OF 'pneumaticlaw18.GroupChecks'. -/
def groupChecksCard : Claim7 := { stood := { row := groupChecksRow, standIns := [], harness := (true, "111cc49052ce6d872da5b3a3afaad814da0c6cb0efe45c51fad93c1d58382847"), looks := false }, kinds := [], alts := [], laidByText := true, laidKinds := [.data], laidTests := true, laidLooks := .later }
def GroupChecksCardSaid : Prop := Claim7.holds Tryd.pinned (.plain (OpenSpec.ofChange groupChecksSpec)) groupChecksCard

/-- THE TIED CARD OF 'pneumaticlaw18.GroupMembers'. -/
def groupMembersCard : Claim7 := { stood := { row := groupMembersRow, standIns := [], harness := (true, "111cc49052ce6d872da5b3a3afaad814da0c6cb0efe45c51fad93c1d58382847"), looks := false }, kinds := [], alts := [], laidByText := true, laidKinds := [.data], laidTests := true, laidLooks := .later }
def GroupMembersCardSaid : Prop := Claim7.holds Tryd.pinned (.plain (OpenSpec.ofChange groupMembersSpec)) groupMembersCard

/-- THE SECOND FORM's CARD OF 'pneumaticlaw18.GroupVerifies'. -/
def groupVerifiesUptoCard : Claim7 := { stood := { row := groupVerifiesUptoRow, standIns := [], harness := (true, "111cc49052ce6d872da5b3a3afaad814da0c6cb0efe45c51fad93c1d58382847"), looks := false }, kinds := [], alts := [], laidByText := true, laidKinds := [.data], laidTests := true, laidLooks := .later }
def GroupVerifiesUptoCardSaid : Prop := Claim7.holds Tryd.pinned (.plain (OpenSpec.upto groupVerifiesSpec)) groupVerifiesUptoCard

/-- THE SECOND FORM's CARD OF 'pneumaticlaw18.GroupFewest'. -/
def groupFewestUptoCard : Claim7 := { stood := { row := groupFewestUptoRow, standIns := [], harness := (true, "111cc49052ce6d872da5b3a3afaad814da0c6cb0efe45c51fad93c1d58382847"), looks := false }, kinds := [], alts := [], laidByText := true, laidKinds := [.data], laidTests := true, laidLooks := .later }
def GroupFewestUptoCardSaid : Prop := Claim7.holds Tryd.pinned (.plain (OpenSpec.upto groupFewestSpec)) groupFewestUptoCard

/-- THE SECOND FORM's CARD OF 'pneumaticlaw18.GroupRings'. -/
def groupRingsUptoCard : Claim7 := { stood := { row := groupRingsUptoRow, standIns := [], harness := (true, "111cc49052ce6d872da5b3a3afaad814da0c6cb0efe45c51fad93c1d58382847"), looks := false }, kinds := [], alts := [], laidByText := true, laidKinds := [.data], laidTests := true, laidLooks := .later }
def GroupRingsUptoCardSaid : Prop := Claim7.holds Tryd.pinned (.plain (OpenSpec.upto groupRingsSpec)) groupRingsUptoCard

/-- THE SECOND FORM's CARD OF 'pneumaticlaw18.GroupTurns'. -/
def groupTurnsUptoCard : Claim7 := { stood := { row := groupTurnsUptoRow, standIns := [], harness := (true, "111cc49052ce6d872da5b3a3afaad814da0c6cb0efe45c51fad93c1d58382847"), looks := false }, kinds := [], alts := [], laidByText := true, laidKinds := [.data], laidTests := true, laidLooks := .later }
def GroupTurnsUptoCardSaid : Prop := Claim7.holds Tryd.pinned (.plain (OpenSpec.upto groupTurnsSpec)) groupTurnsUptoCard

/-- THE SECOND FORM's CARD OF 'pneumaticlaw18.GroupLasts'. -/
def groupLastsUptoCard : Claim7 := { stood := { row := groupLastsUptoRow, standIns := [], harness := (true, "111cc49052ce6d872da5b3a3afaad814da0c6cb0efe45c51fad93c1d58382847"), looks := false }, kinds := [], alts := [], laidByText := true, laidKinds := [.data], laidTests := true, laidLooks := .later }
def GroupLastsUptoCardSaid : Prop := Claim7.holds Tryd.pinned (.plain (OpenSpec.upto groupLastsSpec)) groupLastsUptoCard

/-- THE SECOND FORM's CARD OF 'pneumaticlaw18.GroupProves'. -/
def groupProvesUptoCard : Claim7 := { stood := { row := groupProvesUptoRow, standIns := [], harness := (true, "111cc49052ce6d872da5b3a3afaad814da0c6cb0efe45c51fad93c1d58382847"), looks := false }, kinds := [], alts := [], laidByText := true, laidKinds := [.data], laidTests := true, laidLooks := .later }
def GroupProvesUptoCardSaid : Prop := Claim7.holds Tryd.pinned (.plain (OpenSpec.upto groupProvesSpec)) groupProvesUptoCard

/-- THE SECOND FORM's CARD OF 'pneumaticlaw18.GroupChecks'. -/
def groupChecksUptoCard : Claim7 := { stood := { row := groupChecksUptoRow, standIns := [], harness := (true, "111cc49052ce6d872da5b3a3afaad814da0c6cb0efe45c51fad93c1d58382847"), looks := false }, kinds := [], alts := [], laidByText := true, laidKinds := [.data], laidTests := true, laidLooks := .later }
def GroupChecksUptoCardSaid : Prop := Claim7.holds Tryd.pinned (.plain (OpenSpec.upto groupChecksSpec)) groupChecksUptoCard

/-- THE SECOND FORM's CARD OF 'pneumaticlaw18.GroupMembers'. -/
def groupMembersUptoCard : Claim7 := { stood := { row := groupMembersUptoRow, standIns := [], harness := (true, "111cc49052ce6d872da5b3a3afaad814da0c6cb0efe45c51fad93c1d58382847"), looks := false }, kinds := [], alts := [], laidByText := true, laidKinds := [.data], laidTests := true, laidLooks := .later }
def GroupMembersUptoCardSaid : Prop := Claim7.holds Tryd.pinned (.plain (OpenSpec.upto groupMembersSpec)) groupMembersUptoCard
end Rows
end Go.Proofs.YtoobbcmofleljaaDoor
