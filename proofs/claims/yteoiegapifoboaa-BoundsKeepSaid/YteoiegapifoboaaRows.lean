/-
  No cell of these rows narrows 'for every input' (looked for: loops, veiled, ifaces, maps, wideKeys, modest, calm, conditions, laid).
  DERIVED. THE GIVEN ROWS OF THIS SEAT. 9 by the template 'for every input the law returns true; each argument reads behind the call as it read before'; 0 by the template 'total and deterministic' (their statements: YteoiegapifoboaaTotals.lean).
  GIVEN WITH THE SEED: the statements are not yours to turn. If you find one false, say at which input.
  Laid BY PROGRAM, IN A SANDBOX (cutbox-rows.mjs): the forced cells as the released guide's own fill.sh prints them over the translation c9365facfb6d9e49… (all of the seat's roots in one cut). By AI agents, Wed Nov 11 2026. No macro, syntax, notation, axiom, sorry.
-/
import Derived.Test.YteoiegapifoboaaChecked
import GoSem.Claim
import GoSem.ClaimJoined
import GoSem.ClaimMapViews
import Derived.JoinedTies
import Derived.KernelRfl
namespace Go.Proofs.Yteoiegapifoboaa
/- THE CELL 'sum', in the pinned program and in every row, IS THE sha256 OF THE DUMP (.gsa) THAT YteoiegapifoboaaProg.lean LOADS. Nothing in Lean hashes anything: it is a label: what it is worth is what the hold of that sum in a sandbox is worth. -/
noncomputable def Try.pinned : Pinned := { name := "yteoiegapifoboaa", sum := "c9365facfb6d9e49370268575b7dcfe04fdac5a2216ff88acfa786dc2b5b9741", checked := Try.checked }
namespace Rows
def none {H : Type} : Left H := { results := [], args := [] }

/-- 'pneumaticlaw11.BoundsCloses': WHATEVER THE INPUT: true; the input reads as it did. -/
def boundsClosesSpec : ChangeSpec := { name := "boundsCloses", fn := fun _ => fun
  | [d] => { results := [.lit (.bool true)], args := [d] }
  | _ => none }
def boundsClosesRow : OpenClaim := { program := "yteoiegapifoboaa", sum := "c9365facfb6d9e49370268575b7dcfe04fdac5a2216ff88acfa786dc2b5b9741", func := "pneumatic/pneumaticlaw11.BoundsCloses", spec := "boundsCloses", unfollowed := true, recurses := true, apart := false }
def BoundsClosesSaid : Prop := boundsClosesRow.holds Try.pinned (OpenSpec.ofChange boundsClosesSpec)

/-- ITS FALSE NEIGHBOUR: 'it returns false'. Refute it at one input. -/
def boundsClosesWrong : ChangeSpec := { name := "boundsCloses", fn := fun _ => fun
  | [d] => { results := [.lit (.bool false)], args := [d] }
  | _ => none }
def BoundsClosesWrongFalsely : Prop := boundsClosesRow.holds Try.pinned (OpenSpec.ofChange boundsClosesWrong)

/-- 'pneumaticlaw11.BoundsExtends': WHATEVER THE INPUT: true; the input reads as it did. -/
def boundsExtendsSpec : ChangeSpec := { name := "boundsExtends", fn := fun _ => fun
  | [d1, d2] => { results := [.lit (.bool true)], args := [d1, d2] }
  | _ => none }
def boundsExtendsRow : OpenClaim := { program := "yteoiegapifoboaa", sum := "c9365facfb6d9e49370268575b7dcfe04fdac5a2216ff88acfa786dc2b5b9741", func := "pneumatic/pneumaticlaw11.BoundsExtends", spec := "boundsExtends", unfollowed := true, recurses := true, apart := false }
def BoundsExtendsSaid : Prop := boundsExtendsRow.holds Try.pinned (OpenSpec.ofChange boundsExtendsSpec)

/-- ITS FALSE NEIGHBOUR: 'it returns false'. Refute it at one input. -/
def boundsExtendsWrong : ChangeSpec := { name := "boundsExtends", fn := fun _ => fun
  | [d1, d2] => { results := [.lit (.bool false)], args := [d1, d2] }
  | _ => none }
def BoundsExtendsWrongFalsely : Prop := boundsExtendsRow.holds Try.pinned (OpenSpec.ofChange boundsExtendsWrong)

/-- 'pneumaticlaw11.BoundsShifts': WHATEVER THE INPUT: true; the input reads as it did. -/
def boundsShiftsSpec : ChangeSpec := { name := "boundsShifts", fn := fun _ => fun
  | [d1, d2] => { results := [.lit (.bool true)], args := [d1, d2] }
  | _ => none }
def boundsShiftsRow : OpenClaim := { program := "yteoiegapifoboaa", sum := "c9365facfb6d9e49370268575b7dcfe04fdac5a2216ff88acfa786dc2b5b9741", func := "pneumatic/pneumaticlaw11.BoundsShifts", spec := "boundsShifts", unfollowed := true, recurses := true, apart := false }
def BoundsShiftsSaid : Prop := boundsShiftsRow.holds Try.pinned (OpenSpec.ofChange boundsShiftsSpec)

/-- ITS FALSE NEIGHBOUR: 'it returns false'. Refute it at one input. -/
def boundsShiftsWrong : ChangeSpec := { name := "boundsShifts", fn := fun _ => fun
  | [d1, d2] => { results := [.lit (.bool false)], args := [d1, d2] }
  | _ => none }
def BoundsShiftsWrongFalsely : Prop := boundsShiftsRow.holds Try.pinned (OpenSpec.ofChange boundsShiftsWrong)

/-- 'pneumaticlaw11.BoundsDrops': WHATEVER THE INPUT: true; the input reads as it did. -/
def boundsDropsSpec : ChangeSpec := { name := "boundsDrops", fn := fun _ => fun
  | [d1, d2] => { results := [.lit (.bool true)], args := [d1, d2] }
  | _ => none }
def boundsDropsRow : OpenClaim := { program := "yteoiegapifoboaa", sum := "c9365facfb6d9e49370268575b7dcfe04fdac5a2216ff88acfa786dc2b5b9741", func := "pneumatic/pneumaticlaw11.BoundsDrops", spec := "boundsDrops", unfollowed := true, recurses := true, apart := false }
def BoundsDropsSaid : Prop := boundsDropsRow.holds Try.pinned (OpenSpec.ofChange boundsDropsSpec)

/-- ITS FALSE NEIGHBOUR: 'it returns false'. Refute it at one input. -/
def boundsDropsWrong : ChangeSpec := { name := "boundsDrops", fn := fun _ => fun
  | [d1, d2] => { results := [.lit (.bool false)], args := [d1, d2] }
  | _ => none }
def BoundsDropsWrongFalsely : Prop := boundsDropsRow.holds Try.pinned (OpenSpec.ofChange boundsDropsWrong)

/-- 'pneumaticlaw11.BoundsChecks': WHATEVER THE INPUT: true; the input reads as it did. -/
def boundsChecksSpec : ChangeSpec := { name := "boundsChecks", fn := fun _ => fun
  | [d1, d2, d3] => { results := [.lit (.bool true)], args := [d1, d2, d3] }
  | _ => none }
def boundsChecksRow : OpenClaim := { program := "yteoiegapifoboaa", sum := "c9365facfb6d9e49370268575b7dcfe04fdac5a2216ff88acfa786dc2b5b9741", func := "pneumatic/pneumaticlaw11.BoundsChecks", spec := "boundsChecks", unfollowed := true, recurses := true, apart := false }
def BoundsChecksSaid : Prop := boundsChecksRow.holds Try.pinned (OpenSpec.ofChange boundsChecksSpec)

/-- ITS FALSE NEIGHBOUR: 'it returns false'. Refute it at one input. -/
def boundsChecksWrong : ChangeSpec := { name := "boundsChecks", fn := fun _ => fun
  | [d1, d2, d3] => { results := [.lit (.bool false)], args := [d1, d2, d3] }
  | _ => none }
def BoundsChecksWrongFalsely : Prop := boundsChecksRow.holds Try.pinned (OpenSpec.ofChange boundsChecksWrong)

/-- 'pneumaticlaw11.BoundsChanges': WHATEVER THE INPUT: true; the input reads as it did. -/
def boundsChangesSpec : ChangeSpec := { name := "boundsChanges", fn := fun _ => fun
  | [d1, d2] => { results := [.lit (.bool true)], args := [d1, d2] }
  | _ => none }
def boundsChangesRow : OpenClaim := { program := "yteoiegapifoboaa", sum := "c9365facfb6d9e49370268575b7dcfe04fdac5a2216ff88acfa786dc2b5b9741", func := "pneumatic/pneumaticlaw11.BoundsChanges", spec := "boundsChanges", unfollowed := true, recurses := true, apart := false }
def BoundsChangesSaid : Prop := boundsChangesRow.holds Try.pinned (OpenSpec.ofChange boundsChangesSpec)

/-- ITS FALSE NEIGHBOUR: 'it returns false'. Refute it at one input. -/
def boundsChangesWrong : ChangeSpec := { name := "boundsChanges", fn := fun _ => fun
  | [d1, d2] => { results := [.lit (.bool false)], args := [d1, d2] }
  | _ => none }
def BoundsChangesWrongFalsely : Prop := boundsChangesRow.holds Try.pinned (OpenSpec.ofChange boundsChangesWrong)

/-- 'pneumaticlaw11.BoundsWitnesses': WHATEVER THE INPUT: true; the input reads as it did. -/
def boundsWitnessesSpec : ChangeSpec := { name := "boundsWitnesses", fn := fun _ => fun
  | [d1, d2] => { results := [.lit (.bool true)], args := [d1, d2] }
  | _ => none }
def boundsWitnessesRow : OpenClaim := { program := "yteoiegapifoboaa", sum := "c9365facfb6d9e49370268575b7dcfe04fdac5a2216ff88acfa786dc2b5b9741", func := "pneumatic/pneumaticlaw11.BoundsWitnesses", spec := "boundsWitnesses", unfollowed := true, recurses := true, apart := false }
def BoundsWitnessesSaid : Prop := boundsWitnessesRow.holds Try.pinned (OpenSpec.ofChange boundsWitnessesSpec)

/-- ITS FALSE NEIGHBOUR: 'it returns false'. Refute it at one input. -/
def boundsWitnessesWrong : ChangeSpec := { name := "boundsWitnesses", fn := fun _ => fun
  | [d1, d2] => { results := [.lit (.bool false)], args := [d1, d2] }
  | _ => none }
def BoundsWitnessesWrongFalsely : Prop := boundsWitnessesRow.holds Try.pinned (OpenSpec.ofChange boundsWitnessesWrong)

/-- 'pneumaticlaw11.BoundsMeet': WHATEVER THE INPUT: true; the input reads as it did. -/
def boundsMeetSpec : ChangeSpec := { name := "boundsMeet", fn := fun _ => fun
  | [d1, d2] => { results := [.lit (.bool true)], args := [d1, d2] }
  | _ => none }
def boundsMeetRow : OpenClaim := { program := "yteoiegapifoboaa", sum := "c9365facfb6d9e49370268575b7dcfe04fdac5a2216ff88acfa786dc2b5b9741", func := "pneumatic/pneumaticlaw11.BoundsMeet", spec := "boundsMeet", unfollowed := true, recurses := true, apart := false }
def BoundsMeetSaid : Prop := boundsMeetRow.holds Try.pinned (OpenSpec.ofChange boundsMeetSpec)

/-- ITS FALSE NEIGHBOUR: 'it returns false'. Refute it at one input. -/
def boundsMeetWrong : ChangeSpec := { name := "boundsMeet", fn := fun _ => fun
  | [d1, d2] => { results := [.lit (.bool false)], args := [d1, d2] }
  | _ => none }
def BoundsMeetWrongFalsely : Prop := boundsMeetRow.holds Try.pinned (OpenSpec.ofChange boundsMeetWrong)

/-- 'pneumaticlaw11.BoundsKeep': WHATEVER THE INPUT: true; the input reads as it did. -/
def boundsKeepSpec : ChangeSpec := { name := "boundsKeep", fn := fun _ => fun
  | [d1, d2, d3] => { results := [.lit (.bool true)], args := [d1, d2, d3] }
  | _ => none }
def boundsKeepRow : OpenClaim := { program := "yteoiegapifoboaa", sum := "c9365facfb6d9e49370268575b7dcfe04fdac5a2216ff88acfa786dc2b5b9741", func := "pneumatic/pneumaticlaw11.BoundsKeep", spec := "boundsKeep", unfollowed := true, recurses := true, apart := false }
def BoundsKeepSaid : Prop := boundsKeepRow.holds Try.pinned (OpenSpec.ofChange boundsKeepSpec)

/-- ITS FALSE NEIGHBOUR: 'it returns false'. Refute it at one input. -/
def boundsKeepWrong : ChangeSpec := { name := "boundsKeep", fn := fun _ => fun
  | [d1, d2, d3] => { results := [.lit (.bool false)], args := [d1, d2, d3] }
  | _ => none }
def BoundsKeepWrongFalsely : Prop := boundsKeepRow.holds Try.pinned (OpenSpec.ofChange boundsKeepWrong)

/- THE SECOND FORM. 'bulk': how many values and letters a reading holds, each counted each time it is reached (what is shared counts as often as it is met; a slice's spare places count too). A statement '..UptoSaid' is the law's where the arguments, and the package variables that the reading takes, are together of bulk at most 1048576: NARROWER than '..Said'. Prove '..Said' where nothing that the law and all that it calls make is longer than what came in: it says more and counts as full. Else prove '..UptoSaid'. A law counts once. -/
mutual
def uptoBulk {H : Type} : DataW H → Nat
  | .lit (.string bytes) => bytes.length + 1
  | .lit _ => 1
  | .nil => 1
  | .ptr d => uptoBulk d + 1
  | .slice elems spare => uptoBulkAll elems + uptoBulkAll spare + 1
  | .agg parts => uptoBulkAll parts + 1
  | .iface _ d => uptoBulk d + 1
  | .map entries => uptoBulkEntries entries + 1
  | .held _ => 1
def uptoBulkAll {H : Type} : List (DataW H) → Nat
  | [] => 0
  | d :: r => uptoBulk d + uptoBulkAll r
def uptoBulkEntries {H : Type} : List (Lit × DataW H) → Nat
  | [] => 0
  | x :: r => uptoBulkEntry x + uptoBulkEntries r
def uptoBulkEntry {H : Type} : Lit × DataW H → Nat
  | (.string bytes, d) => bytes.length + uptoBulk d + 1
  | (_, d) => uptoBulk d + 1
 end
def uptoSmall : (H : Type) → List (DataW H) → Bool := fun _ ds => decide (uptoBulkAll ds ≤ 1048576)
def OpenSpec.upto (s : _root_.Go.ChangeSpec) : _root_.Go.OpenSpec := { _root_.Go.OpenSpec.ofChange s with cond := some uptoSmall }

/-- 'pneumaticlaw11.BoundsCloses', WHERE WHAT IT READS IS OF BULK AT MOST 1048576: true; the input reads as it did. -/
def boundsClosesUptoRow : OpenClaim := { program := "yteoiegapifoboaa", sum := "c9365facfb6d9e49370268575b7dcfe04fdac5a2216ff88acfa786dc2b5b9741", func := "pneumatic/pneumaticlaw11.BoundsCloses", spec := "boundsCloses", unfollowed := true, recurses := true, apart := false, narrowed := true }
def BoundsClosesUptoSaid : Prop := boundsClosesUptoRow.holds Try.pinned (OpenSpec.upto boundsClosesSpec)

/-- 'pneumaticlaw11.BoundsExtends', WHERE WHAT IT READS IS OF BULK AT MOST 1048576: true; the input reads as it did. -/
def boundsExtendsUptoRow : OpenClaim := { program := "yteoiegapifoboaa", sum := "c9365facfb6d9e49370268575b7dcfe04fdac5a2216ff88acfa786dc2b5b9741", func := "pneumatic/pneumaticlaw11.BoundsExtends", spec := "boundsExtends", unfollowed := true, recurses := true, apart := false, narrowed := true }
def BoundsExtendsUptoSaid : Prop := boundsExtendsUptoRow.holds Try.pinned (OpenSpec.upto boundsExtendsSpec)

/-- 'pneumaticlaw11.BoundsShifts', WHERE WHAT IT READS IS OF BULK AT MOST 1048576: true; the input reads as it did. -/
def boundsShiftsUptoRow : OpenClaim := { program := "yteoiegapifoboaa", sum := "c9365facfb6d9e49370268575b7dcfe04fdac5a2216ff88acfa786dc2b5b9741", func := "pneumatic/pneumaticlaw11.BoundsShifts", spec := "boundsShifts", unfollowed := true, recurses := true, apart := false, narrowed := true }
def BoundsShiftsUptoSaid : Prop := boundsShiftsUptoRow.holds Try.pinned (OpenSpec.upto boundsShiftsSpec)

/-- 'pneumaticlaw11.BoundsDrops', WHERE WHAT IT READS IS OF BULK AT MOST 1048576: true; the input reads as it did. -/
def boundsDropsUptoRow : OpenClaim := { program := "yteoiegapifoboaa", sum := "c9365facfb6d9e49370268575b7dcfe04fdac5a2216ff88acfa786dc2b5b9741", func := "pneumatic/pneumaticlaw11.BoundsDrops", spec := "boundsDrops", unfollowed := true, recurses := true, apart := false, narrowed := true }
def BoundsDropsUptoSaid : Prop := boundsDropsUptoRow.holds Try.pinned (OpenSpec.upto boundsDropsSpec)

/-- 'pneumaticlaw11.BoundsChecks', WHERE WHAT IT READS IS OF BULK AT MOST 1048576: true; the input reads as it did. -/
def boundsChecksUptoRow : OpenClaim := { program := "yteoiegapifoboaa", sum := "c9365facfb6d9e49370268575b7dcfe04fdac5a2216ff88acfa786dc2b5b9741", func := "pneumatic/pneumaticlaw11.BoundsChecks", spec := "boundsChecks", unfollowed := true, recurses := true, apart := false, narrowed := true }
def BoundsChecksUptoSaid : Prop := boundsChecksUptoRow.holds Try.pinned (OpenSpec.upto boundsChecksSpec)

/-- 'pneumaticlaw11.BoundsChanges', WHERE WHAT IT READS IS OF BULK AT MOST 1048576: true; the input reads as it did. -/
def boundsChangesUptoRow : OpenClaim := { program := "yteoiegapifoboaa", sum := "c9365facfb6d9e49370268575b7dcfe04fdac5a2216ff88acfa786dc2b5b9741", func := "pneumatic/pneumaticlaw11.BoundsChanges", spec := "boundsChanges", unfollowed := true, recurses := true, apart := false, narrowed := true }
def BoundsChangesUptoSaid : Prop := boundsChangesUptoRow.holds Try.pinned (OpenSpec.upto boundsChangesSpec)

/-- 'pneumaticlaw11.BoundsWitnesses', WHERE WHAT IT READS IS OF BULK AT MOST 1048576: true; the input reads as it did. -/
def boundsWitnessesUptoRow : OpenClaim := { program := "yteoiegapifoboaa", sum := "c9365facfb6d9e49370268575b7dcfe04fdac5a2216ff88acfa786dc2b5b9741", func := "pneumatic/pneumaticlaw11.BoundsWitnesses", spec := "boundsWitnesses", unfollowed := true, recurses := true, apart := false, narrowed := true }
def BoundsWitnessesUptoSaid : Prop := boundsWitnessesUptoRow.holds Try.pinned (OpenSpec.upto boundsWitnessesSpec)

/-- 'pneumaticlaw11.BoundsMeet', WHERE WHAT IT READS IS OF BULK AT MOST 1048576: true; the input reads as it did. -/
def boundsMeetUptoRow : OpenClaim := { program := "yteoiegapifoboaa", sum := "c9365facfb6d9e49370268575b7dcfe04fdac5a2216ff88acfa786dc2b5b9741", func := "pneumatic/pneumaticlaw11.BoundsMeet", spec := "boundsMeet", unfollowed := true, recurses := true, apart := false, narrowed := true }
def BoundsMeetUptoSaid : Prop := boundsMeetUptoRow.holds Try.pinned (OpenSpec.upto boundsMeetSpec)

/-- 'pneumaticlaw11.BoundsKeep', WHERE WHAT IT READS IS OF BULK AT MOST 1048576: true; the input reads as it did. -/
def boundsKeepUptoRow : OpenClaim := { program := "yteoiegapifoboaa", sum := "c9365facfb6d9e49370268575b7dcfe04fdac5a2216ff88acfa786dc2b5b9741", func := "pneumatic/pneumaticlaw11.BoundsKeep", spec := "boundsKeep", unfollowed := true, recurses := true, apart := false, narrowed := true }
def BoundsKeepUptoSaid : Prop := boundsKeepUptoRow.holds Try.pinned (OpenSpec.upto boundsKeepSpec)

end Rows
end Go.Proofs.Yteoiegapifoboaa
