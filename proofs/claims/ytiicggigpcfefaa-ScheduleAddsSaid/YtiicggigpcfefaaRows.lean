/-
  No cell of these rows narrows 'for every input' (looked for: loops, veiled, ifaces, maps, wideKeys, modest, calm, conditions, laid).
  DERIVED. THE GIVEN ROWS OF THIS SEAT. 8 by the template 'for every input the law returns true; each argument reads behind the call as it read before'; 0 by the template 'total and deterministic' (their statements: YtiicggigpcfefaaTotals.lean).
  GIVEN WITH THE SEED: the statements are not yours to turn. If you find one false, say at which input.
  Laid BY PROGRAM, IN A SANDBOX (cutbox-rows.mjs): the forced cells as the released guide's own fill.sh prints them over the translation d27b4c624645ac63… (all of the seat's roots in one cut). By AI agents, Wed Nov 11 2026. No macro, syntax, notation, axiom, sorry.
-/
import Derived.Test.YtiicggigpcfefaaChecked
import GoSem.Claim
import GoSem.ClaimJoined
import GoSem.ClaimMapViews
import Derived.JoinedTies
import Derived.KernelRfl
namespace Go.Proofs.Ytiicggigpcfefaa
/- THE CELL 'sum', in the pinned program and in every row, IS THE sha256 OF THE DUMP (.gsa) THAT YtiicggigpcfefaaProg.lean LOADS. Nothing in Lean hashes anything: it is a label: what it is worth is what the hold of that sum in a sandbox is worth. -/
noncomputable def Try.pinned : Pinned := { name := "ytiicggigpcfefaa", sum := "d27b4c624645ac63bfa50a25f3bf430d81ccdc2d07433283980166bfb9eed738", checked := Try.checked }
namespace Rows
def none {H : Type} : Left H := { results := [], args := [] }

/-- 'pneumaticlaw17.ScheduleSlots': WHATEVER THE INPUT: true; the input reads as it did. -/
def scheduleSlotsSpec : ChangeSpec := { name := "scheduleSlots", fn := fun _ => fun
  | [d1, d2] => { results := [.lit (.bool true)], args := [d1, d2] }
  | _ => none }
def scheduleSlotsRow : OpenClaim := { program := "ytiicggigpcfefaa", sum := "d27b4c624645ac63bfa50a25f3bf430d81ccdc2d07433283980166bfb9eed738", func := "pneumatic/pneumaticlaw17.ScheduleSlots", spec := "scheduleSlots", unfollowed := true, recurses := true, apart := false }
def ScheduleSlotsSaid : Prop := scheduleSlotsRow.holds Try.pinned (OpenSpec.ofChange scheduleSlotsSpec)

/-- ITS FALSE NEIGHBOUR: 'it returns false'. Refute it at one input. -/
def scheduleSlotsWrong : ChangeSpec := { name := "scheduleSlots", fn := fun _ => fun
  | [d1, d2] => { results := [.lit (.bool false)], args := [d1, d2] }
  | _ => none }
def ScheduleSlotsWrongFalsely : Prop := scheduleSlotsRow.holds Try.pinned (OpenSpec.ofChange scheduleSlotsWrong)

/-- 'pneumaticlaw17.ScheduleTimes': WHATEVER THE INPUT: true; the input reads as it did. -/
def scheduleTimesSpec : ChangeSpec := { name := "scheduleTimes", fn := fun _ => fun
  | [d1, d2, d3] => { results := [.lit (.bool true)], args := [d1, d2, d3] }
  | _ => none }
def scheduleTimesRow : OpenClaim := { program := "ytiicggigpcfefaa", sum := "d27b4c624645ac63bfa50a25f3bf430d81ccdc2d07433283980166bfb9eed738", func := "pneumatic/pneumaticlaw17.ScheduleTimes", spec := "scheduleTimes", unfollowed := true, recurses := true, apart := false }
def ScheduleTimesSaid : Prop := scheduleTimesRow.holds Try.pinned (OpenSpec.ofChange scheduleTimesSpec)

/-- ITS FALSE NEIGHBOUR: 'it returns false'. Refute it at one input. -/
def scheduleTimesWrong : ChangeSpec := { name := "scheduleTimes", fn := fun _ => fun
  | [d1, d2, d3] => { results := [.lit (.bool false)], args := [d1, d2, d3] }
  | _ => none }
def ScheduleTimesWrongFalsely : Prop := scheduleTimesRow.holds Try.pinned (OpenSpec.ofChange scheduleTimesWrong)

/-- 'pneumaticlaw17.ScheduleWidens': WHATEVER THE INPUT: true; the input reads as it did. -/
def scheduleWidensSpec : ChangeSpec := { name := "scheduleWidens", fn := fun _ => fun
  | [d1, d2, d3] => { results := [.lit (.bool true)], args := [d1, d2, d3] }
  | _ => none }
def scheduleWidensRow : OpenClaim := { program := "ytiicggigpcfefaa", sum := "d27b4c624645ac63bfa50a25f3bf430d81ccdc2d07433283980166bfb9eed738", func := "pneumatic/pneumaticlaw17.ScheduleWidens", spec := "scheduleWidens", unfollowed := true, recurses := true, apart := false }
def ScheduleWidensSaid : Prop := scheduleWidensRow.holds Try.pinned (OpenSpec.ofChange scheduleWidensSpec)

/-- ITS FALSE NEIGHBOUR: 'it returns false'. Refute it at one input. -/
def scheduleWidensWrong : ChangeSpec := { name := "scheduleWidens", fn := fun _ => fun
  | [d1, d2, d3] => { results := [.lit (.bool false)], args := [d1, d2, d3] }
  | _ => none }
def ScheduleWidensWrongFalsely : Prop := scheduleWidensRow.holds Try.pinned (OpenSpec.ofChange scheduleWidensWrong)

/-- 'pneumaticlaw17.ScheduleStrokes': WHATEVER THE INPUT: true; the input reads as it did. -/
def scheduleStrokesSpec : ChangeSpec := { name := "scheduleStrokes", fn := fun _ => fun
  | [d1, d2, d3] => { results := [.lit (.bool true)], args := [d1, d2, d3] }
  | _ => none }
def scheduleStrokesRow : OpenClaim := { program := "ytiicggigpcfefaa", sum := "d27b4c624645ac63bfa50a25f3bf430d81ccdc2d07433283980166bfb9eed738", func := "pneumatic/pneumaticlaw17.ScheduleStrokes", spec := "scheduleStrokes", unfollowed := true, recurses := true, apart := false }
def ScheduleStrokesSaid : Prop := scheduleStrokesRow.holds Try.pinned (OpenSpec.ofChange scheduleStrokesSpec)

/-- ITS FALSE NEIGHBOUR: 'it returns false'. Refute it at one input. -/
def scheduleStrokesWrong : ChangeSpec := { name := "scheduleStrokes", fn := fun _ => fun
  | [d1, d2, d3] => { results := [.lit (.bool false)], args := [d1, d2, d3] }
  | _ => none }
def ScheduleStrokesWrongFalsely : Prop := scheduleStrokesRow.holds Try.pinned (OpenSpec.ofChange scheduleStrokesWrong)

/-- 'pneumaticlaw17.ScheduleOrders': WHATEVER THE INPUT: true; the input reads as it did. -/
def scheduleOrdersSpec : ChangeSpec := { name := "scheduleOrders", fn := fun _ => fun
  | [d1, d2] => { results := [.lit (.bool true)], args := [d1, d2] }
  | _ => none }
def scheduleOrdersRow : OpenClaim := { program := "ytiicggigpcfefaa", sum := "d27b4c624645ac63bfa50a25f3bf430d81ccdc2d07433283980166bfb9eed738", func := "pneumatic/pneumaticlaw17.ScheduleOrders", spec := "scheduleOrders", unfollowed := true, recurses := true, apart := false }
def ScheduleOrdersSaid : Prop := scheduleOrdersRow.holds Try.pinned (OpenSpec.ofChange scheduleOrdersSpec)

/-- ITS FALSE NEIGHBOUR: 'it returns false'. Refute it at one input. -/
def scheduleOrdersWrong : ChangeSpec := { name := "scheduleOrders", fn := fun _ => fun
  | [d1, d2] => { results := [.lit (.bool false)], args := [d1, d2] }
  | _ => none }
def ScheduleOrdersWrongFalsely : Prop := scheduleOrdersRow.holds Try.pinned (OpenSpec.ofChange scheduleOrdersWrong)

/-- 'pneumaticlaw17.ScheduleAttains': WHATEVER THE INPUT: true; the input reads as it did. -/
def scheduleAttainsSpec : ChangeSpec := { name := "scheduleAttains", fn := fun _ => fun
  | [d1, d2, d3] => { results := [.lit (.bool true)], args := [d1, d2, d3] }
  | _ => none }
def scheduleAttainsRow : OpenClaim := { program := "ytiicggigpcfefaa", sum := "d27b4c624645ac63bfa50a25f3bf430d81ccdc2d07433283980166bfb9eed738", func := "pneumatic/pneumaticlaw17.ScheduleAttains", spec := "scheduleAttains", unfollowed := true, recurses := true, apart := false }
def ScheduleAttainsSaid : Prop := scheduleAttainsRow.holds Try.pinned (OpenSpec.ofChange scheduleAttainsSpec)

/-- ITS FALSE NEIGHBOUR: 'it returns false'. Refute it at one input. -/
def scheduleAttainsWrong : ChangeSpec := { name := "scheduleAttains", fn := fun _ => fun
  | [d1, d2, d3] => { results := [.lit (.bool false)], args := [d1, d2, d3] }
  | _ => none }
def ScheduleAttainsWrongFalsely : Prop := scheduleAttainsRow.holds Try.pinned (OpenSpec.ofChange scheduleAttainsWrong)

/-- 'pneumaticlaw17.ScheduleRuns': WHATEVER THE INPUT: true; the input reads as it did. -/
def scheduleRunsSpec : ChangeSpec := { name := "scheduleRuns", fn := fun _ => fun
  | [d1, d2, d3] => { results := [.lit (.bool true)], args := [d1, d2, d3] }
  | _ => none }
def scheduleRunsRow : OpenClaim := { program := "ytiicggigpcfefaa", sum := "d27b4c624645ac63bfa50a25f3bf430d81ccdc2d07433283980166bfb9eed738", func := "pneumatic/pneumaticlaw17.ScheduleRuns", spec := "scheduleRuns", unfollowed := true, recurses := true, apart := false }
def ScheduleRunsSaid : Prop := scheduleRunsRow.holds Try.pinned (OpenSpec.ofChange scheduleRunsSpec)

/-- ITS FALSE NEIGHBOUR: 'it returns false'. Refute it at one input. -/
def scheduleRunsWrong : ChangeSpec := { name := "scheduleRuns", fn := fun _ => fun
  | [d1, d2, d3] => { results := [.lit (.bool false)], args := [d1, d2, d3] }
  | _ => none }
def ScheduleRunsWrongFalsely : Prop := scheduleRunsRow.holds Try.pinned (OpenSpec.ofChange scheduleRunsWrong)

/-- 'pneumaticlaw17.ScheduleAdds': WHATEVER THE INPUT: true; the input reads as it did. -/
def scheduleAddsSpec : ChangeSpec := { name := "scheduleAdds", fn := fun _ => fun
  | [d1, d2, d3] => { results := [.lit (.bool true)], args := [d1, d2, d3] }
  | _ => none }
def scheduleAddsRow : OpenClaim := { program := "ytiicggigpcfefaa", sum := "d27b4c624645ac63bfa50a25f3bf430d81ccdc2d07433283980166bfb9eed738", func := "pneumatic/pneumaticlaw17.ScheduleAdds", spec := "scheduleAdds", unfollowed := true, recurses := true, apart := false }
def ScheduleAddsSaid : Prop := scheduleAddsRow.holds Try.pinned (OpenSpec.ofChange scheduleAddsSpec)

/-- ITS FALSE NEIGHBOUR: 'it returns false'. Refute it at one input. -/
def scheduleAddsWrong : ChangeSpec := { name := "scheduleAdds", fn := fun _ => fun
  | [d1, d2, d3] => { results := [.lit (.bool false)], args := [d1, d2, d3] }
  | _ => none }
def ScheduleAddsWrongFalsely : Prop := scheduleAddsRow.holds Try.pinned (OpenSpec.ofChange scheduleAddsWrong)

/- THE SECOND FORM. 'bulk': how many values and letters a reading holds, each counted each time it is reached (what is shared counts as often as it is met; a slice's spare places count too). A statement '..UptoSaid' is the law's where the arguments, and the package variables that the reading takes, are together of bulk at most 1048576: NARROWER than '..Said'. Prove '..Said' where nothing that the law and all that it calls make is longer than what came in: it says more and counts as full. Else prove '..UptoSaid'. A law counts once. -/
mutual
def uptoBulk {H : Type} : DataW H → Nat
  | .lit (.string bytes) => bytes.length + 1
  | .lit _ => 1
  | .nil => 1
  | .ptr d => uptoBulk d + 1
  | .slice elems spare => uptoBulkAll elems + uptoBulkAll spare + 1
  | .agg parts => uptoBulkAll parts + 1
  | .iface _ d => uptoBulk d + 1
  | .map entries => uptoBulkEntries entries + 1
  | .held _ => 1
def uptoBulkAll {H : Type} : List (DataW H) → Nat
  | [] => 0
  | d :: r => uptoBulk d + uptoBulkAll r
def uptoBulkEntries {H : Type} : List (Lit × DataW H) → Nat
  | [] => 0
  | x :: r => uptoBulkEntry x + uptoBulkEntries r
def uptoBulkEntry {H : Type} : Lit × DataW H → Nat
  | (.string bytes, d) => bytes.length + uptoBulk d + 1
  | (_, d) => uptoBulk d + 1
 end
def uptoSmall : (H : Type) → List (DataW H) → Bool := fun _ ds => decide (uptoBulkAll ds ≤ 1048576)
def OpenSpec.upto (s : _root_.Go.ChangeSpec) : _root_.Go.OpenSpec := { _root_.Go.OpenSpec.ofChange s with cond := some uptoSmall }

/-- 'pneumaticlaw17.ScheduleSlots', WHERE WHAT IT READS IS OF BULK AT MOST 1048576: true; the input reads as it did. -/
def scheduleSlotsUptoRow : OpenClaim := { program := "ytiicggigpcfefaa", sum := "d27b4c624645ac63bfa50a25f3bf430d81ccdc2d07433283980166bfb9eed738", func := "pneumatic/pneumaticlaw17.ScheduleSlots", spec := "scheduleSlots", unfollowed := true, recurses := true, apart := false, narrowed := true }
def ScheduleSlotsUptoSaid : Prop := scheduleSlotsUptoRow.holds Try.pinned (OpenSpec.upto scheduleSlotsSpec)

/-- 'pneumaticlaw17.ScheduleTimes', WHERE WHAT IT READS IS OF BULK AT MOST 1048576: true; the input reads as it did. -/
def scheduleTimesUptoRow : OpenClaim := { program := "ytiicggigpcfefaa", sum := "d27b4c624645ac63bfa50a25f3bf430d81ccdc2d07433283980166bfb9eed738", func := "pneumatic/pneumaticlaw17.ScheduleTimes", spec := "scheduleTimes", unfollowed := true, recurses := true, apart := false, narrowed := true }
def ScheduleTimesUptoSaid : Prop := scheduleTimesUptoRow.holds Try.pinned (OpenSpec.upto scheduleTimesSpec)

/-- 'pneumaticlaw17.ScheduleWidens', WHERE WHAT IT READS IS OF BULK AT MOST 1048576: true; the input reads as it did. -/
def scheduleWidensUptoRow : OpenClaim := { program := "ytiicggigpcfefaa", sum := "d27b4c624645ac63bfa50a25f3bf430d81ccdc2d07433283980166bfb9eed738", func := "pneumatic/pneumaticlaw17.ScheduleWidens", spec := "scheduleWidens", unfollowed := true, recurses := true, apart := false, narrowed := true }
def ScheduleWidensUptoSaid : Prop := scheduleWidensUptoRow.holds Try.pinned (OpenSpec.upto scheduleWidensSpec)

/-- 'pneumaticlaw17.ScheduleStrokes', WHERE WHAT IT READS IS OF BULK AT MOST 1048576: true; the input reads as it did. -/
def scheduleStrokesUptoRow : OpenClaim := { program := "ytiicggigpcfefaa", sum := "d27b4c624645ac63bfa50a25f3bf430d81ccdc2d07433283980166bfb9eed738", func := "pneumatic/pneumaticlaw17.ScheduleStrokes", spec := "scheduleStrokes", unfollowed := true, recurses := true, apart := false, narrowed := true }
def ScheduleStrokesUptoSaid : Prop := scheduleStrokesUptoRow.holds Try.pinned (OpenSpec.upto scheduleStrokesSpec)

/-- 'pneumaticlaw17.ScheduleOrders', WHERE WHAT IT READS IS OF BULK AT MOST 1048576: true; the input reads as it did. -/
def scheduleOrdersUptoRow : OpenClaim := { program := "ytiicggigpcfefaa", sum := "d27b4c624645ac63bfa50a25f3bf430d81ccdc2d07433283980166bfb9eed738", func := "pneumatic/pneumaticlaw17.ScheduleOrders", spec := "scheduleOrders", unfollowed := true, recurses := true, apart := false, narrowed := true }
def ScheduleOrdersUptoSaid : Prop := scheduleOrdersUptoRow.holds Try.pinned (OpenSpec.upto scheduleOrdersSpec)

/-- 'pneumaticlaw17.ScheduleAttains', WHERE WHAT IT READS IS OF BULK AT MOST 1048576: true; the input reads as it did. -/
def scheduleAttainsUptoRow : OpenClaim := { program := "ytiicggigpcfefaa", sum := "d27b4c624645ac63bfa50a25f3bf430d81ccdc2d07433283980166bfb9eed738", func := "pneumatic/pneumaticlaw17.ScheduleAttains", spec := "scheduleAttains", unfollowed := true, recurses := true, apart := false, narrowed := true }
def ScheduleAttainsUptoSaid : Prop := scheduleAttainsUptoRow.holds Try.pinned (OpenSpec.upto scheduleAttainsSpec)

/-- 'pneumaticlaw17.ScheduleRuns', WHERE WHAT IT READS IS OF BULK AT MOST 1048576: true; the input reads as it did. -/
def scheduleRunsUptoRow : OpenClaim := { program := "ytiicggigpcfefaa", sum := "d27b4c624645ac63bfa50a25f3bf430d81ccdc2d07433283980166bfb9eed738", func := "pneumatic/pneumaticlaw17.ScheduleRuns", spec := "scheduleRuns", unfollowed := true, recurses := true, apart := false, narrowed := true }
def ScheduleRunsUptoSaid : Prop := scheduleRunsUptoRow.holds Try.pinned (OpenSpec.upto scheduleRunsSpec)

/-- 'pneumaticlaw17.ScheduleAdds', WHERE WHAT IT READS IS OF BULK AT MOST 1048576: true; the input reads as it did. -/
def scheduleAddsUptoRow : OpenClaim := { program := "ytiicggigpcfefaa", sum := "d27b4c624645ac63bfa50a25f3bf430d81ccdc2d07433283980166bfb9eed738", func := "pneumatic/pneumaticlaw17.ScheduleAdds", spec := "scheduleAdds", unfollowed := true, recurses := true, apart := false, narrowed := true }
def ScheduleAddsUptoSaid : Prop := scheduleAddsUptoRow.holds Try.pinned (OpenSpec.upto scheduleAddsSpec)

end Rows
end Go.Proofs.Ytiicggigpcfefaa
