/-
  NARROWER THAN 'FOR EVERY INPUT', by the rows' own cells (each row's printed sentence says how): GroupVerifies: laid · GroupFewest: laid · GroupRings: laid · GroupTurns: laid · GroupLasts: laid · GroupProves: laid · GroupChecks: laid · GroupMembers: laid.
  DERIVED. THE GIVEN ROWS OF THIS SEAT. 8 by the template 'for every input the law returns true; each argument reads behind the call as it read before'; 0 by the template 'total and deterministic' (their statements: YtoobbcmofleljaaDoorTotals.lean).
  GIVEN WITH THE SEED: the statements are not yours to turn. If you find one false, say at which input.
  Laid BY PROGRAM, IN A SANDBOX (cutbox-rows.mjs): the forced cells as the released guide's own fill.sh prints them over the translation 13303841c06c3f4f… (all of the seat's roots in one cut). By AI agents, Wed Nov 11 2026. No macro, syntax, notation, axiom, sorry.
-/
import Derived.Test.YtoobbcmofleljaaDoorChecked
import GoSem.Claim
import GoSem.ClaimJoined
import GoSem.ClaimMapViews
import Derived.JoinedTies
import Derived.KernelRfl
namespace Go.Proofs.YtoobbcmofleljaaDoor
/- THE CELL 'sum', in the pinned program and in every row, IS THE sha256 OF THE DUMP (.gsa) THAT YtoobbcmofleljaaDoorProg.lean LOADS. Nothing in Lean hashes anything: it is a label: what it is worth is what the hold of that sum in a sandbox is worth. -/
noncomputable def Tryd.pinned : Pinned := { name := "ytoobbcmofleljaadoor", sum := "13303841c06c3f4f0ba7739a1834be7faffc52878b91ede94c956accc5b9977b", checked := Tryd.checked }
namespace Rows
def none {H : Type} : Left H := { results := [], args := [] }

/- WHAT THE LISTED PACKAGE-LEVEL VARIABLES READ AS WHEN THE CALL BEGINS. Each datum BY PROGRAM (the guide's laid-datum.mjs) off the statement by which the dump's own 'gosem.cut.vars' lays the variable. In a bare row this is a premise. The card (YtoobbcmofleljaaDoorCards.lean) ties it to the program's text. -/
def laid_pneumatic_group_bits {H : Type} : DataW H := .agg [.lit (.int .u64 1), .lit (.int .u64 2), .lit (.int .u64 4), .lit (.int .u64 8), .lit (.int .u64 16), .lit (.int .u64 32)]

/-- 'pneumaticlaw18.GroupVerifies': WHATEVER THE INPUT: true; the input reads as it did. -/
def groupVerifiesSpec : ChangeSpec := { name := "groupVerifies", fn := fun _ => fun
  | [d1, d2] => { results := [.lit (.bool true)], args := [d1, d2] }
  | _ => none }
def groupVerifiesRow : OpenClaim := { program := "ytoobbcmofleljaadoor", sum := "13303841c06c3f4f0ba7739a1834be7faffc52878b91ede94c956accc5b9977b", func := "pneumatic/pneumaticlaw18.GroupVerifies", spec := "groupVerifies", unfollowed := true, recurses := true, named := ["pneumatic/group.bits"], apart := false, laid := [("pneumatic/group.bits", laid_pneumatic_group_bits)] }
def GroupVerifiesSaid : Prop := groupVerifiesRow.holds Tryd.pinned (OpenSpec.ofChange groupVerifiesSpec)

/-- ITS FALSE NEIGHBOUR: 'it returns false'. Refute it at one input. -/
def groupVerifiesWrong : ChangeSpec := { name := "groupVerifies", fn := fun _ => fun
  | [d1, d2] => { results := [.lit (.bool false)], args := [d1, d2] }
  | _ => none }
def GroupVerifiesWrongFalsely : Prop := groupVerifiesRow.holds Tryd.pinned (OpenSpec.ofChange groupVerifiesWrong)

/-- 'pneumaticlaw18.GroupFewest': WHATEVER THE INPUT: true; the input reads as it did. -/
def groupFewestSpec : ChangeSpec := { name := "groupFewest", fn := fun _ => fun
  | [d] => { results := [.lit (.bool true)], args := [d] }
  | _ => none }
def groupFewestRow : OpenClaim := { program := "ytoobbcmofleljaadoor", sum := "13303841c06c3f4f0ba7739a1834be7faffc52878b91ede94c956accc5b9977b", func := "pneumatic/pneumaticlaw18.GroupFewest", spec := "groupFewest", unfollowed := true, recurses := true, named := ["pneumatic/group.bits"], apart := false, laid := [("pneumatic/group.bits", laid_pneumatic_group_bits)] }
def GroupFewestSaid : Prop := groupFewestRow.holds Tryd.pinned (OpenSpec.ofChange groupFewestSpec)

/-- ITS FALSE NEIGHBOUR: 'it returns false'. Refute it at one input. -/
def groupFewestWrong : ChangeSpec := { name := "groupFewest", fn := fun _ => fun
  | [d] => { results := [.lit (.bool false)], args := [d] }
  | _ => none }
def GroupFewestWrongFalsely : Prop := groupFewestRow.holds Tryd.pinned (OpenSpec.ofChange groupFewestWrong)

/-- 'pneumaticlaw18.GroupRings': WHATEVER THE INPUT: true; the input reads as it did. -/
def groupRingsSpec : ChangeSpec := { name := "groupRings", fn := fun _ => fun
  | [d] => { results := [.lit (.bool true)], args := [d] }
  | _ => none }
def groupRingsRow : OpenClaim := { program := "ytoobbcmofleljaadoor", sum := "13303841c06c3f4f0ba7739a1834be7faffc52878b91ede94c956accc5b9977b", func := "pneumatic/pneumaticlaw18.GroupRings", spec := "groupRings", unfollowed := true, recurses := true, named := ["pneumatic/group.bits"], apart := false, laid := [("pneumatic/group.bits", laid_pneumatic_group_bits)] }
def GroupRingsSaid : Prop := groupRingsRow.holds Tryd.pinned (OpenSpec.ofChange groupRingsSpec)

/-- ITS FALSE NEIGHBOUR: 'it returns false'. Refute it at one input. -/
def groupRingsWrong : ChangeSpec := { name := "groupRings", fn := fun _ => fun
  | [d] => { results := [.lit (.bool false)], args := [d] }
  | _ => none }
def GroupRingsWrongFalsely : Prop := groupRingsRow.holds Tryd.pinned (OpenSpec.ofChange groupRingsWrong)

/-- 'pneumaticlaw18.GroupTurns': WHATEVER THE INPUT: true; the input reads as it did. -/
def groupTurnsSpec : ChangeSpec := { name := "groupTurns", fn := fun _ => fun
  | [d] => { results := [.lit (.bool true)], args := [d] }
  | _ => none }
def groupTurnsRow : OpenClaim := { program := "ytoobbcmofleljaadoor", sum := "13303841c06c3f4f0ba7739a1834be7faffc52878b91ede94c956accc5b9977b", func := "pneumatic/pneumaticlaw18.GroupTurns", spec := "groupTurns", unfollowed := true, recurses := true, named := ["pneumatic/group.bits"], apart := false, laid := [("pneumatic/group.bits", laid_pneumatic_group_bits)] }
def GroupTurnsSaid : Prop := groupTurnsRow.holds Tryd.pinned (OpenSpec.ofChange groupTurnsSpec)

/-- ITS FALSE NEIGHBOUR: 'it returns false'. Refute it at one input. -/
def groupTurnsWrong : ChangeSpec := { name := "groupTurns", fn := fun _ => fun
  | [d] => { results := [.lit (.bool false)], args := [d] }
  | _ => none }
def GroupTurnsWrongFalsely : Prop := groupTurnsRow.holds Tryd.pinned (OpenSpec.ofChange groupTurnsWrong)

/-- 'pneumaticlaw18.GroupLasts': WHATEVER THE INPUT: true; the input reads as it did. -/
def groupLastsSpec : ChangeSpec := { name := "groupLasts", fn := fun _ => fun
  | [d] => { results := [.lit (.bool true)], args := [d] }
  | _ => none }
def groupLastsRow : OpenClaim := { program := "ytoobbcmofleljaadoor", sum := "13303841c06c3f4f0ba7739a1834be7faffc52878b91ede94c956accc5b9977b", func := "pneumatic/pneumaticlaw18.GroupLasts", spec := "groupLasts", unfollowed := true, recurses := true, named := ["pneumatic/group.bits"], apart := false, laid := [("pneumatic/group.bits", laid_pneumatic_group_bits)] }
def GroupLastsSaid : Prop := groupLastsRow.holds Tryd.pinned (OpenSpec.ofChange groupLastsSpec)

/-- ITS FALSE NEIGHBOUR: 'it returns false'. Refute it at one input. -/
def groupLastsWrong : ChangeSpec := { name := "groupLasts", fn := fun _ => fun
  | [d] => { results := [.lit (.bool false)], args := [d] }
  | _ => none }
def GroupLastsWrongFalsely : Prop := groupLastsRow.holds Tryd.pinned (OpenSpec.ofChange groupLastsWrong)

/-- 'pneumaticlaw18.GroupProves': WHATEVER THE INPUT: true; the input reads as it did. -/
def groupProvesSpec : ChangeSpec := { name := "groupProves", fn := fun _ => fun
  | [d] => { results := [.lit (.bool true)], args := [d] }
  | _ => none }
def groupProvesRow : OpenClaim := { program := "ytoobbcmofleljaadoor", sum := "13303841c06c3f4f0ba7739a1834be7faffc52878b91ede94c956accc5b9977b", func := "pneumatic/pneumaticlaw18.GroupProves", spec := "groupProves", unfollowed := true, recurses := true, named := ["pneumatic/group.bits"], apart := false, laid := [("pneumatic/group.bits", laid_pneumatic_group_bits)] }
def GroupProvesSaid : Prop := groupProvesRow.holds Tryd.pinned (OpenSpec.ofChange groupProvesSpec)

/-- ITS FALSE NEIGHBOUR: 'it returns false'. Refute it at one input. -/
def groupProvesWrong : ChangeSpec := { name := "groupProves", fn := fun _ => fun
  | [d] => { results := [.lit (.bool false)], args := [d] }
  | _ => none }
def GroupProvesWrongFalsely : Prop := groupProvesRow.holds Tryd.pinned (OpenSpec.ofChange groupProvesWrong)

/-- 'pneumaticlaw18.GroupChecks': WHATEVER THE INPUT: true; the input reads as it did. -/
def groupChecksSpec : ChangeSpec := { name := "groupChecks", fn := fun _ => fun
  | [d1, d2, d3] => { results := [.lit (.bool true)], args := [d1, d2, d3] }
  | _ => none }
def groupChecksRow : OpenClaim := { program := "ytoobbcmofleljaadoor", sum := "13303841c06c3f4f0ba7739a1834be7faffc52878b91ede94c956accc5b9977b", func := "pneumatic/pneumaticlaw18.GroupChecks", spec := "groupChecks", unfollowed := true, recurses := true, named := ["pneumatic/group.bits"], apart := false, laid := [("pneumatic/group.bits", laid_pneumatic_group_bits)] }
def GroupChecksSaid : Prop := groupChecksRow.holds Tryd.pinned (OpenSpec.ofChange groupChecksSpec)

/-- ITS FALSE NEIGHBOUR: 'it returns false'. Refute it at one input. -/
def groupChecksWrong : ChangeSpec := { name := "groupChecks", fn := fun _ => fun
  | [d1, d2, d3] => { results := [.lit (.bool false)], args := [d1, d2, d3] }
  | _ => none }
def GroupChecksWrongFalsely : Prop := groupChecksRow.holds Tryd.pinned (OpenSpec.ofChange groupChecksWrong)

/-- 'pneumaticlaw18.GroupMembers': WHATEVER THE INPUT: true; the input reads as it did. -/
def groupMembersSpec : ChangeSpec := { name := "groupMembers", fn := fun _ => fun
  | [d1, d2] => { results := [.lit (.bool true)], args := [d1, d2] }
  | _ => none }
def groupMembersRow : OpenClaim := { program := "ytoobbcmofleljaadoor", sum := "13303841c06c3f4f0ba7739a1834be7faffc52878b91ede94c956accc5b9977b", func := "pneumatic/pneumaticlaw18.GroupMembers", spec := "groupMembers", unfollowed := true, recurses := true, named := ["pneumatic/group.bits"], apart := false, laid := [("pneumatic/group.bits", laid_pneumatic_group_bits)] }
def GroupMembersSaid : Prop := groupMembersRow.holds Tryd.pinned (OpenSpec.ofChange groupMembersSpec)

/-- ITS FALSE NEIGHBOUR: 'it returns false'. Refute it at one input. -/
def groupMembersWrong : ChangeSpec := { name := "groupMembers", fn := fun _ => fun
  | [d1, d2] => { results := [.lit (.bool false)], args := [d1, d2] }
  | _ => none }
def GroupMembersWrongFalsely : Prop := groupMembersRow.holds Tryd.pinned (OpenSpec.ofChange groupMembersWrong)

/- THE SECOND FORM. 'bulk': how many values and letters a reading holds, each counted each time it is reached (what is shared counts as often as it is met; a slice's spare places count too). A statement '..UptoSaid' is the law's where the arguments, and the package variables that the reading takes, are together of bulk at most 1048576: NARROWER than '..Said'. Prove '..Said' where nothing that the law and all that it calls make is longer than what came in: it says more and counts as full. Else prove '..UptoSaid'. A law counts once. -/
mutual
def uptoBulk {H : Type} : DataW H → Nat
  | .lit (.string bytes) => bytes.length + 1
  | .lit _ => 1
  | .nil => 1
  | .ptr d => uptoBulk d + 1
  | .slice elems spare => uptoBulkAll elems + uptoBulkAll spare + 1
  | .agg parts => uptoBulkAll parts + 1
  | .iface _ d => uptoBulk d + 1
  | .map entries => uptoBulkEntries entries + 1
  | .held _ => 1
def uptoBulkAll {H : Type} : List (DataW H) → Nat
  | [] => 0
  | d :: r => uptoBulk d + uptoBulkAll r
def uptoBulkEntries {H : Type} : List (Lit × DataW H) → Nat
  | [] => 0
  | x :: r => uptoBulkEntry x + uptoBulkEntries r
def uptoBulkEntry {H : Type} : Lit × DataW H → Nat
  | (.string bytes, d) => bytes.length + uptoBulk d + 1
  | (_, d) => uptoBulk d + 1
 end
def uptoSmall : (H : Type) → List (DataW H) → Bool := fun _ ds => decide (uptoBulkAll ds ≤ 1048576)
def OpenSpec.upto (s : _root_.Go.ChangeSpec) : _root_.Go.OpenSpec := { _root_.Go.OpenSpec.ofChange s with cond := some uptoSmall }

/-- 'pneumaticlaw18.GroupVerifies', WHERE WHAT IT READS IS OF BULK AT MOST 1048576: true; the input reads as it did. -/
def groupVerifiesUptoRow : OpenClaim := { program := "ytoobbcmofleljaadoor", sum := "13303841c06c3f4f0ba7739a1834be7faffc52878b91ede94c956accc5b9977b", func := "pneumatic/pneumaticlaw18.GroupVerifies", spec := "groupVerifies", unfollowed := true, recurses := true, named := ["pneumatic/group.bits"], apart := false, laid := [("pneumatic/group.bits", laid_pneumatic_group_bits)], narrowed := true }
def GroupVerifiesUptoSaid : Prop := groupVerifiesUptoRow.holds Tryd.pinned (OpenSpec.upto groupVerifiesSpec)

/-- 'pneumaticlaw18.GroupFewest', WHERE WHAT IT READS IS OF BULK AT MOST 1048576: true; the input reads as it did. -/
def groupFewestUptoRow : OpenClaim := { program := "ytoobbcmofleljaadoor", sum := "13303841c06c3f4f0ba7739a1834be7faffc52878b91ede94c956accc5b9977b", func := "pneumatic/pneumaticlaw18.GroupFewest", spec := "groupFewest", unfollowed := true, recurses := true, named := ["pneumatic/group.bits"], apart := false, laid := [("pneumatic/group.bits", laid_pneumatic_group_bits)], narrowed := true }
def GroupFewestUptoSaid : Prop := groupFewestUptoRow.holds Tryd.pinned (OpenSpec.upto groupFewestSpec)

/-- 'pneumaticlaw18.GroupRings', WHERE WHAT IT READS IS OF BULK AT MOST 1048576: true; the input reads as it did. -/
def groupRingsUptoRow : OpenClaim := { program := "ytoobbcmofleljaadoor", sum := "13303841c06c3f4f0ba7739a1834be7faffc52878b91ede94c956accc5b9977b", func := "pneumatic/pneumaticlaw18.GroupRings", spec := "groupRings", unfollowed := true, recurses := true, named := ["pneumatic/group.bits"], apart := false, laid := [("pneumatic/group.bits", laid_pneumatic_group_bits)], narrowed := true }
def GroupRingsUptoSaid : Prop := groupRingsUptoRow.holds Tryd.pinned (OpenSpec.upto groupRingsSpec)

/-- 'pneumaticlaw18.GroupTurns', WHERE WHAT IT READS IS OF BULK AT MOST 1048576: true; the input reads as it did. -/
def groupTurnsUptoRow : OpenClaim := { program := "ytoobbcmofleljaadoor", sum := "13303841c06c3f4f0ba7739a1834be7faffc52878b91ede94c956accc5b9977b", func := "pneumatic/pneumaticlaw18.GroupTurns", spec := "groupTurns", unfollowed := true, recurses := true, named := ["pneumatic/group.bits"], apart := false, laid := [("pneumatic/group.bits", laid_pneumatic_group_bits)], narrowed := true }
def GroupTurnsUptoSaid : Prop := groupTurnsUptoRow.holds Tryd.pinned (OpenSpec.upto groupTurnsSpec)

/-- 'pneumaticlaw18.GroupLasts', WHERE WHAT IT READS IS OF BULK AT MOST 1048576: true; the input reads as it did. -/
def groupLastsUptoRow : OpenClaim := { program := "ytoobbcmofleljaadoor", sum := "13303841c06c3f4f0ba7739a1834be7faffc52878b91ede94c956accc5b9977b", func := "pneumatic/pneumaticlaw18.GroupLasts", spec := "groupLasts", unfollowed := true, recurses := true, named := ["pneumatic/group.bits"], apart := false, laid := [("pneumatic/group.bits", laid_pneumatic_group_bits)], narrowed := true }
def GroupLastsUptoSaid : Prop := groupLastsUptoRow.holds Tryd.pinned (OpenSpec.upto groupLastsSpec)

/-- 'pneumaticlaw18.GroupProves', WHERE WHAT IT READS IS OF BULK AT MOST 1048576: true; the input reads as it did. -/
def groupProvesUptoRow : OpenClaim := { program := "ytoobbcmofleljaadoor", sum := "13303841c06c3f4f0ba7739a1834be7faffc52878b91ede94c956accc5b9977b", func := "pneumatic/pneumaticlaw18.GroupProves", spec := "groupProves", unfollowed := true, recurses := true, named := ["pneumatic/group.bits"], apart := false, laid := [("pneumatic/group.bits", laid_pneumatic_group_bits)], narrowed := true }
def GroupProvesUptoSaid : Prop := groupProvesUptoRow.holds Tryd.pinned (OpenSpec.upto groupProvesSpec)

/-- 'pneumaticlaw18.GroupChecks', WHERE WHAT IT READS IS OF BULK AT MOST 1048576: true; the input reads as it did. -/
def groupChecksUptoRow : OpenClaim := { program := "ytoobbcmofleljaadoor", sum := "13303841c06c3f4f0ba7739a1834be7faffc52878b91ede94c956accc5b9977b", func := "pneumatic/pneumaticlaw18.GroupChecks", spec := "groupChecks", unfollowed := true, recurses := true, named := ["pneumatic/group.bits"], apart := false, laid := [("pneumatic/group.bits", laid_pneumatic_group_bits)], narrowed := true }
def GroupChecksUptoSaid : Prop := groupChecksUptoRow.holds Tryd.pinned (OpenSpec.upto groupChecksSpec)

/-- 'pneumaticlaw18.GroupMembers', WHERE WHAT IT READS IS OF BULK AT MOST 1048576: true; the input reads as it did. -/
def groupMembersUptoRow : OpenClaim := { program := "ytoobbcmofleljaadoor", sum := "13303841c06c3f4f0ba7739a1834be7faffc52878b91ede94c956accc5b9977b", func := "pneumatic/pneumaticlaw18.GroupMembers", spec := "groupMembers", unfollowed := true, recurses := true, named := ["pneumatic/group.bits"], apart := false, laid := [("pneumatic/group.bits", laid_pneumatic_group_bits)], narrowed := true }
def GroupMembersUptoSaid : Prop := groupMembersUptoRow.holds Tryd.pinned (OpenSpec.upto groupMembersSpec)

end Rows
end Go.Proofs.YtoobbcmofleljaaDoor
