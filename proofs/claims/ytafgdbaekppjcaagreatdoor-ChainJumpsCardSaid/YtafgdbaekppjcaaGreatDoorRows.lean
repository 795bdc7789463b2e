/-
  NARROWER THAN 'FOR EVERY INPUT', by the rows' own cells (each row's printed sentence says how): ChainBuilds: laid · ChainMarks: laid · ChainJumps: laid · CascadeBuilds: laid · CascadePerforms: loops, laid · CascadeLines: laid · CascadeActive: laid.
  DERIVED. THE GIVEN ROWS OF THIS SEAT. 7 by the template 'for every input the law returns true; each argument reads behind the call as it read before'; 0 by the template 'total and deterministic' (their statements: YtafgdbaekppjcaaGreatDoorTotals.lean).
  GIVEN WITH THE SEED: the statements are not yours to turn. If you find one false, say at which input.
  Laid BY PROGRAM, IN A SANDBOX (cutbox-rows.mjs): the forced cells as the released guide's own fill.sh prints them over the translation 924aab430f0fb2b0… (all of the seat's roots in one cut). By AI agents, Wed Nov 11 2026. No macro, syntax, notation, axiom, sorry.
-/
import Derived.Test.YtafgdbaekppjcaaGreatDoorChecked
import GoSem.Claim
import GoSem.ClaimJoined
import GoSem.ClaimMapViews
import Derived.JoinedTies
import Derived.KernelRfl
namespace Go.Proofs.YtafgdbaekppjcaaGreatDoor
/- THE CELL 'sum', in the pinned program and in every row, IS THE sha256 OF THE DUMP (.gsa) THAT YtafgdbaekppjcaaGreatDoorProg.lean LOADS. Nothing in Lean hashes anything: it is a label: what it is worth is what the hold of that sum in a sandbox is worth. -/
noncomputable def Tryz.pinned : Pinned := { name := "ytafgdbaekppjcaagreatdoor", sum := "924aab430f0fb2b082e75d72527c384b41627e2562283f5f12d165c70f4b648e", checked := Tryz.checked }
namespace Rows
def none {H : Type} : Left H := { results := [], args := [] }

/- WHAT THE LISTED PACKAGE-LEVEL VARIABLES READ AS WHEN THE CALL BEGINS. Each datum BY PROGRAM (the guide's laid-datum.mjs) off the statement by which the dump's own 'gosem.cut.vars' lays the variable. In a bare row this is a premise. The card (YtafgdbaekppjcaaGreatDoorCards.lean) ties it to the program's text. -/
def laid_math_bits_deBruijn32tab {H : Type} : DataW H := .agg [.lit (.int .u8 0), .lit (.int .u8 1), .lit (.int .u8 28), .lit (.int .u8 2), .lit (.int .u8 29), .lit (.int .u8 14), .lit (.int .u8 24), .lit (.int .u8 3), .lit (.int .u8 30), .lit (.int .u8 22), .lit (.int .u8 20), .lit (.int .u8 15), .lit (.int .u8 25), .lit (.int .u8 17), .lit (.int .u8 4), .lit (.int .u8 8), .lit (.int .u8 31), .lit (.int .u8 27), .lit (.int .u8 13), .lit (.int .u8 23), .lit (.int .u8 21), .lit (.int .u8 19), .lit (.int .u8 16), .lit (.int .u8 7), .lit (.int .u8 26), .lit (.int .u8 12), .lit (.int .u8 18), .lit (.int .u8 6), .lit (.int .u8 11), .lit (.int .u8 5), .lit (.int .u8 10), .lit (.int .u8 9)]
def laid_math_bits_deBruijn64tab {H : Type} : DataW H := .agg [.lit (.int .u8 0), .lit (.int .u8 1), .lit (.int .u8 56), .lit (.int .u8 2), .lit (.int .u8 57), .lit (.int .u8 49), .lit (.int .u8 28), .lit (.int .u8 3), .lit (.int .u8 61), .lit (.int .u8 58), .lit (.int .u8 42), .lit (.int .u8 50), .lit (.int .u8 38), .lit (.int .u8 29), .lit (.int .u8 17), .lit (.int .u8 4), .lit (.int .u8 62), .lit (.int .u8 47), .lit (.int .u8 59), .lit (.int .u8 36), .lit (.int .u8 45), .lit (.int .u8 43), .lit (.int .u8 51), .lit (.int .u8 22), .lit (.int .u8 53), .lit (.int .u8 39), .lit (.int .u8 33), .lit (.int .u8 30), .lit (.int .u8 24), .lit (.int .u8 18), .lit (.int .u8 12), .lit (.int .u8 5), .lit (.int .u8 63), .lit (.int .u8 55), .lit (.int .u8 48), .lit (.int .u8 27), .lit (.int .u8 60), .lit (.int .u8 41), .lit (.int .u8 37), .lit (.int .u8 16), .lit (.int .u8 46), .lit (.int .u8 35), .lit (.int .u8 44), .lit (.int .u8 21), .lit (.int .u8 52), .lit (.int .u8 32), .lit (.int .u8 23), .lit (.int .u8 11), .lit (.int .u8 54), .lit (.int .u8 26), .lit (.int .u8 40), .lit (.int .u8 15), .lit (.int .u8 34), .lit (.int .u8 20), .lit (.int .u8 31), .lit (.int .u8 10), .lit (.int .u8 25), .lit (.int .u8 14), .lit (.int .u8 19), .lit (.int .u8 9), .lit (.int .u8 13), .lit (.int .u8 8), .lit (.int .u8 7), .lit (.int .u8 6)]
def laid_internal_strconv_uint64pow10 {H : Type} : DataW H := .agg [.lit (.int .u64 1), .lit (.int .u64 10), .lit (.int .u64 100), .lit (.int .u64 1000), .lit (.int .u64 10000), .lit (.int .u64 100000), .lit (.int .u64 1000000), .lit (.int .u64 10000000), .lit (.int .u64 100000000), .lit (.int .u64 1000000000), .lit (.int .u64 10000000000), .lit (.int .u64 100000000000), .lit (.int .u64 1000000000000), .lit (.int .u64 10000000000000), .lit (.int .u64 100000000000000), .lit (.int .u64 1000000000000000), .lit (.int .u64 10000000000000000), .lit (.int .u64 100000000000000000), .lit (.int .u64 1000000000000000000), .lit (.int .u64 10000000000000000000)]
def laid_pneumatic_group_bits {H : Type} : DataW H := .agg [.lit (.int .u64 1), .lit (.int .u64 2), .lit (.int .u64 4), .lit (.int .u64 8), .lit (.int .u64 16), .lit (.int .u64 32)]

/-- 'pneumaticlaw33.ChainBuilds': WHATEVER THE INPUT: true; the input reads as it did. -/
def chainBuildsSpec : ChangeSpec := { name := "chainBuilds", fn := fun _ => fun
  | [d] => { results := [.lit (.bool true)], args := [d] }
  | _ => none }
def chainBuildsRow : OpenClaim := { program := "ytafgdbaekppjcaagreatdoor", sum := "924aab430f0fb2b082e75d72527c384b41627e2562283f5f12d165c70f4b648e", func := "pneumatic/pneumaticlaw33.ChainBuilds", spec := "chainBuilds", unfollowed := true, recurses := true, named := ["internal/strconv.uint64pow10", "math/bits.deBruijn32tab", "math/bits.deBruijn64tab"], apart := false, laid := [("math/bits.deBruijn32tab", laid_math_bits_deBruijn32tab), ("math/bits.deBruijn64tab", laid_math_bits_deBruijn64tab), ("internal/strconv.uint64pow10", laid_internal_strconv_uint64pow10)] }
def ChainBuildsSaid : Prop := chainBuildsRow.holds Tryz.pinned (OpenSpec.ofChange chainBuildsSpec)

/-- ITS FALSE NEIGHBOUR: 'it returns false'. Refute it at one input. -/
def chainBuildsWrong : ChangeSpec := { name := "chainBuilds", fn := fun _ => fun
  | [d] => { results := [.lit (.bool false)], args := [d] }
  | _ => none }
def ChainBuildsWrongFalsely : Prop := chainBuildsRow.holds Tryz.pinned (OpenSpec.ofChange chainBuildsWrong)

/-- 'pneumaticlaw33.ChainMarks': WHATEVER THE INPUT: true; the input reads as it did. -/
def chainMarksSpec : ChangeSpec := { name := "chainMarks", fn := fun _ => fun
  | [d1, d2] => { results := [.lit (.bool true)], args := [d1, d2] }
  | _ => none }
def chainMarksRow : OpenClaim := { program := "ytafgdbaekppjcaagreatdoor", sum := "924aab430f0fb2b082e75d72527c384b41627e2562283f5f12d165c70f4b648e", func := "pneumatic/pneumaticlaw33.ChainMarks", spec := "chainMarks", unfollowed := true, recurses := true, named := ["internal/strconv.uint64pow10", "math/bits.deBruijn32tab", "math/bits.deBruijn64tab"], apart := false, laid := [("math/bits.deBruijn32tab", laid_math_bits_deBruijn32tab), ("math/bits.deBruijn64tab", laid_math_bits_deBruijn64tab), ("internal/strconv.uint64pow10", laid_internal_strconv_uint64pow10)] }
def ChainMarksSaid : Prop := chainMarksRow.holds Tryz.pinned (OpenSpec.ofChange chainMarksSpec)

/-- ITS FALSE NEIGHBOUR: 'it returns false'. Refute it at one input. -/
def chainMarksWrong : ChangeSpec := { name := "chainMarks", fn := fun _ => fun
  | [d1, d2] => { results := [.lit (.bool false)], args := [d1, d2] }
  | _ => none }
def ChainMarksWrongFalsely : Prop := chainMarksRow.holds Tryz.pinned (OpenSpec.ofChange chainMarksWrong)

/-- 'pneumaticlaw33.ChainJumps': WHATEVER THE INPUT: true; the input reads as it did. -/
def chainJumpsSpec : ChangeSpec := { name := "chainJumps", fn := fun _ => fun
  | [d1, d2] => { results := [.lit (.bool true)], args := [d1, d2] }
  | _ => none }
def chainJumpsRow : OpenClaim := { program := "ytafgdbaekppjcaagreatdoor", sum := "924aab430f0fb2b082e75d72527c384b41627e2562283f5f12d165c70f4b648e", func := "pneumatic/pneumaticlaw33.ChainJumps", spec := "chainJumps", unfollowed := true, recurses := true, named := ["internal/strconv.uint64pow10", "math/bits.deBruijn32tab", "math/bits.deBruijn64tab"], apart := false, laid := [("math/bits.deBruijn32tab", laid_math_bits_deBruijn32tab), ("math/bits.deBruijn64tab", laid_math_bits_deBruijn64tab), ("internal/strconv.uint64pow10", laid_internal_strconv_uint64pow10)] }
def ChainJumpsSaid : Prop := chainJumpsRow.holds Tryz.pinned (OpenSpec.ofChange chainJumpsSpec)

/-- ITS FALSE NEIGHBOUR: 'it returns false'. Refute it at one input. -/
def chainJumpsWrong : ChangeSpec := { name := "chainJumps", fn := fun _ => fun
  | [d1, d2] => { results := [.lit (.bool false)], args := [d1, d2] }
  | _ => none }
def ChainJumpsWrongFalsely : Prop := chainJumpsRow.holds Tryz.pinned (OpenSpec.ofChange chainJumpsWrong)

/-- 'pneumaticlaw32.CascadeBuilds': WHATEVER THE INPUT: true; the input reads as it did. -/
def cascadeBuildsSpec : ChangeSpec := { name := "cascadeBuilds", fn := fun _ => fun
  | [d] => { results := [.lit (.bool true)], args := [d] }
  | _ => none }
def cascadeBuildsRow : OpenClaim := { program := "ytafgdbaekppjcaagreatdoor", sum := "924aab430f0fb2b082e75d72527c384b41627e2562283f5f12d165c70f4b648e", func := "pneumatic/pneumaticlaw32.CascadeBuilds", spec := "cascadeBuilds", unfollowed := true, recurses := true, named := ["pneumatic/group.bits", "internal/strconv.uint64pow10", "math/bits.deBruijn32tab", "math/bits.deBruijn64tab"], apart := false, laid := [("math/bits.deBruijn32tab", laid_math_bits_deBruijn32tab), ("math/bits.deBruijn64tab", laid_math_bits_deBruijn64tab), ("internal/strconv.uint64pow10", laid_internal_strconv_uint64pow10), ("pneumatic/group.bits", laid_pneumatic_group_bits)] }
def CascadeBuildsSaid : Prop := cascadeBuildsRow.holds Tryz.pinned (OpenSpec.ofChange cascadeBuildsSpec)

/-- ITS FALSE NEIGHBOUR: 'it returns false'. Refute it at one input. -/
def cascadeBuildsWrong : ChangeSpec := { name := "cascadeBuilds", fn := fun _ => fun
  | [d] => { results := [.lit (.bool false)], args := [d] }
  | _ => none }
def CascadeBuildsWrongFalsely : Prop := cascadeBuildsRow.holds Tryz.pinned (OpenSpec.ofChange cascadeBuildsWrong)

/-- 'pneumaticlaw32.CascadePerforms': WHATEVER THE INPUT: true; the input reads as it did. -/
def cascadePerformsSpec : ChangeSpec := { name := "cascadePerforms", fn := fun _ => fun
  | [d1, d2] => { results := [.lit (.bool true)], args := [d1, d2] }
  | _ => none }
def cascadePerformsRow : OpenClaim := { program := "ytafgdbaekppjcaagreatdoor", sum := "924aab430f0fb2b082e75d72527c384b41627e2562283f5f12d165c70f4b648e", func := "pneumatic/pneumaticlaw32.CascadePerforms", spec := "cascadePerforms", unfollowed := true, recurses := true, named := ["pneumatic/group.bits", "internal/strconv.uint64pow10", "math/bits.deBruijn32tab", "math/bits.deBruijn64tab"], loops := true, apart := false, laid := [("math/bits.deBruijn32tab", laid_math_bits_deBruijn32tab), ("math/bits.deBruijn64tab", laid_math_bits_deBruijn64tab), ("internal/strconv.uint64pow10", laid_internal_strconv_uint64pow10), ("pneumatic/group.bits", laid_pneumatic_group_bits)] }
def CascadePerformsSaid : Prop := cascadePerformsRow.holds Tryz.pinned (OpenSpec.ofChange cascadePerformsSpec)

/-- ITS FALSE NEIGHBOUR: 'it returns false'. Refute it at one input. -/
def cascadePerformsWrong : ChangeSpec := { name := "cascadePerforms", fn := fun _ => fun
  | [d1, d2] => { results := [.lit (.bool false)], args := [d1, d2] }
  | _ => none }
def CascadePerformsWrongFalsely : Prop := cascadePerformsRow.holds Tryz.pinned (OpenSpec.ofChange cascadePerformsWrong)

/-- 'pneumaticlaw32.CascadeLines': WHATEVER THE INPUT: true; the input reads as it did. -/
def cascadeLinesSpec : ChangeSpec := { name := "cascadeLines", fn := fun _ => fun
  | [d] => { results := [.lit (.bool true)], args := [d] }
  | _ => none }
def cascadeLinesRow : OpenClaim := { program := "ytafgdbaekppjcaagreatdoor", sum := "924aab430f0fb2b082e75d72527c384b41627e2562283f5f12d165c70f4b648e", func := "pneumatic/pneumaticlaw32.CascadeLines", spec := "cascadeLines", unfollowed := true, recurses := true, named := ["pneumatic/group.bits", "internal/strconv.uint64pow10", "math/bits.deBruijn32tab", "math/bits.deBruijn64tab"], apart := false, laid := [("math/bits.deBruijn32tab", laid_math_bits_deBruijn32tab), ("math/bits.deBruijn64tab", laid_math_bits_deBruijn64tab), ("internal/strconv.uint64pow10", laid_internal_strconv_uint64pow10), ("pneumatic/group.bits", laid_pneumatic_group_bits)] }
def CascadeLinesSaid : Prop := cascadeLinesRow.holds Tryz.pinned (OpenSpec.ofChange cascadeLinesSpec)

/-- ITS FALSE NEIGHBOUR: 'it returns false'. Refute it at one input. -/
def cascadeLinesWrong : ChangeSpec := { name := "cascadeLines", fn := fun _ => fun
  | [d] => { results := [.lit (.bool false)], args := [d] }
  | _ => none }
def CascadeLinesWrongFalsely : Prop := cascadeLinesRow.holds Tryz.pinned (OpenSpec.ofChange cascadeLinesWrong)

/-- 'pneumaticlaw32.CascadeActive': WHATEVER THE INPUT: true; the input reads as it did. -/
def cascadeActiveSpec : ChangeSpec := { name := "cascadeActive", fn := fun _ => fun
  | [d1, d2] => { results := [.lit (.bool true)], args := [d1, d2] }
  | _ => none }
def cascadeActiveRow : OpenClaim := { program := "ytafgdbaekppjcaagreatdoor", sum := "924aab430f0fb2b082e75d72527c384b41627e2562283f5f12d165c70f4b648e", func := "pneumatic/pneumaticlaw32.CascadeActive", spec := "cascadeActive", unfollowed := true, recurses := true, named := ["pneumatic/group.bits", "internal/strconv.uint64pow10", "math/bits.deBruijn32tab", "math/bits.deBruijn64tab"], apart := false, laid := [("math/bits.deBruijn32tab", laid_math_bits_deBruijn32tab), ("math/bits.deBruijn64tab", laid_math_bits_deBruijn64tab), ("internal/strconv.uint64pow10", laid_internal_strconv_uint64pow10), ("pneumatic/group.bits", laid_pneumatic_group_bits)] }
def CascadeActiveSaid : Prop := cascadeActiveRow.holds Tryz.pinned (OpenSpec.ofChange cascadeActiveSpec)

/-- ITS FALSE NEIGHBOUR: 'it returns false'. Refute it at one input. -/
def cascadeActiveWrong : ChangeSpec := { name := "cascadeActive", fn := fun _ => fun
  | [d1, d2] => { results := [.lit (.bool false)], args := [d1, d2] }
  | _ => none }
def CascadeActiveWrongFalsely : Prop := cascadeActiveRow.holds Tryz.pinned (OpenSpec.ofChange cascadeActiveWrong)

/- THE SECOND FORM. 'bulk': how many values and letters a reading holds, each counted each time it is reached (what is shared counts as often as it is met; a slice's spare places count too). A statement '..UptoSaid' is the law's where the arguments, and the package variables that the reading takes, are together of bulk at most 1048576: NARROWER than '..Said'. Prove '..Said' where nothing that the law and all that it calls make is longer than what came in: it says more and counts as full. Else prove '..UptoSaid'. A law counts once. -/
mutual
def uptoBulk {H : Type} : DataW H → Nat
  | .lit (.string bytes) => bytes.length + 1
  | .lit _ => 1
  | .nil => 1
  | .ptr d => uptoBulk d + 1
  | .slice elems spare => uptoBulkAll elems + uptoBulkAll spare + 1
  | .agg parts => uptoBulkAll parts + 1
  | .iface _ d => uptoBulk d + 1
  | .map entries => uptoBulkEntries entries + 1
  | .held _ => 1
def uptoBulkAll {H : Type} : List (DataW H) → Nat
  | [] => 0
  | d :: r => uptoBulk d + uptoBulkAll r
def uptoBulkEntries {H : Type} : List (Lit × DataW H) → Nat
  | [] => 0
  | x :: r => uptoBulkEntry x + uptoBulkEntries r
def uptoBulkEntry {H : Type} : Lit × DataW H → Nat
  | (.string bytes, d) => bytes.length + uptoBulk d + 1
  | (_, d) => uptoBulk d + 1
 end
def uptoSmall : (H : Type) → List (DataW H) → Bool := fun _ ds => decide (uptoBulkAll ds ≤ 1048576)
def OpenSpec.upto (s : _root_.Go.ChangeSpec) : _root_.Go.OpenSpec := { _root_.Go.OpenSpec.ofChange s with cond := some uptoSmall }

/-- 'pneumaticlaw33.ChainBuilds', WHERE WHAT IT READS IS OF BULK AT MOST 1048576: true; the input reads as it did. -/
def chainBuildsUptoRow : OpenClaim := { program := "ytafgdbaekppjcaagreatdoor", sum := "924aab430f0fb2b082e75d72527c384b41627e2562283f5f12d165c70f4b648e", func := "pneumatic/pneumaticlaw33.ChainBuilds", spec := "chainBuilds", unfollowed := true, recurses := true, named := ["internal/strconv.uint64pow10", "math/bits.deBruijn32tab", "math/bits.deBruijn64tab"], apart := false, laid := [("math/bits.deBruijn32tab", laid_math_bits_deBruijn32tab), ("math/bits.deBruijn64tab", laid_math_bits_deBruijn64tab), ("internal/strconv.uint64pow10", laid_internal_strconv_uint64pow10)], narrowed := true }
def ChainBuildsUptoSaid : Prop := chainBuildsUptoRow.holds Tryz.pinned (OpenSpec.upto chainBuildsSpec)

/-- 'pneumaticlaw33.ChainMarks', WHERE WHAT IT READS IS OF BULK AT MOST 1048576: true; the input reads as it did. -/
def chainMarksUptoRow : OpenClaim := { program := "ytafgdbaekppjcaagreatdoor", sum := "924aab430f0fb2b082e75d72527c384b41627e2562283f5f12d165c70f4b648e", func := "pneumatic/pneumaticlaw33.ChainMarks", spec := "chainMarks", unfollowed := true, recurses := true, named := ["internal/strconv.uint64pow10", "math/bits.deBruijn32tab", "math/bits.deBruijn64tab"], apart := false, laid := [("math/bits.deBruijn32tab", laid_math_bits_deBruijn32tab), ("math/bits.deBruijn64tab", laid_math_bits_deBruijn64tab), ("internal/strconv.uint64pow10", laid_internal_strconv_uint64pow10)], narrowed := true }
def ChainMarksUptoSaid : Prop := chainMarksUptoRow.holds Tryz.pinned (OpenSpec.upto chainMarksSpec)

/-- 'pneumaticlaw33.ChainJumps', WHERE WHAT IT READS IS OF BULK AT MOST 1048576: true; the input reads as it did. -/
def chainJumpsUptoRow : OpenClaim := { program := "ytafgdbaekppjcaagreatdoor", sum := "924aab430f0fb2b082e75d72527c384b41627e2562283f5f12d165c70f4b648e", func := "pneumatic/pneumaticlaw33.ChainJumps", spec := "chainJumps", unfollowed := true, recurses := true, named := ["internal/strconv.uint64pow10", "math/bits.deBruijn32tab", "math/bits.deBruijn64tab"], apart := false, laid := [("math/bits.deBruijn32tab", laid_math_bits_deBruijn32tab), ("math/bits.deBruijn64tab", laid_math_bits_deBruijn64tab), ("internal/strconv.uint64pow10", laid_internal_strconv_uint64pow10)], narrowed := true }
def ChainJumpsUptoSaid : Prop := chainJumpsUptoRow.holds Tryz.pinned (OpenSpec.upto chainJumpsSpec)

/-- 'pneumaticlaw32.CascadeBuilds', WHERE WHAT IT READS IS OF BULK AT MOST 1048576: true; the input reads as it did. -/
def cascadeBuildsUptoRow : OpenClaim := { program := "ytafgdbaekppjcaagreatdoor", sum := "924aab430f0fb2b082e75d72527c384b41627e2562283f5f12d165c70f4b648e", func := "pneumatic/pneumaticlaw32.CascadeBuilds", spec := "cascadeBuilds", unfollowed := true, recurses := true, named := ["pneumatic/group.bits", "internal/strconv.uint64pow10", "math/bits.deBruijn32tab", "math/bits.deBruijn64tab"], apart := false, laid := [("math/bits.deBruijn32tab", laid_math_bits_deBruijn32tab), ("math/bits.deBruijn64tab", laid_math_bits_deBruijn64tab), ("internal/strconv.uint64pow10", laid_internal_strconv_uint64pow10), ("pneumatic/group.bits", laid_pneumatic_group_bits)], narrowed := true }
def CascadeBuildsUptoSaid : Prop := cascadeBuildsUptoRow.holds Tryz.pinned (OpenSpec.upto cascadeBuildsSpec)

/-- 'pneumaticlaw32.CascadePerforms', WHERE WHAT IT READS IS OF BULK AT MOST 1048576: true; the input reads as it did. -/
def cascadePerformsUptoRow : OpenClaim := { program := "ytafgdbaekppjcaagreatdoor", sum := "924aab430f0fb2b082e75d72527c384b41627e2562283f5f12d165c70f4b648e", func := "pneumatic/pneumaticlaw32.CascadePerforms", spec := "cascadePerforms", unfollowed := true, recurses := true, named := ["pneumatic/group.bits", "internal/strconv.uint64pow10", "math/bits.deBruijn32tab", "math/bits.deBruijn64tab"], loops := true, apart := false, laid := [("math/bits.deBruijn32tab", laid_math_bits_deBruijn32tab), ("math/bits.deBruijn64tab", laid_math_bits_deBruijn64tab), ("internal/strconv.uint64pow10", laid_internal_strconv_uint64pow10), ("pneumatic/group.bits", laid_pneumatic_group_bits)], narrowed := true }
def CascadePerformsUptoSaid : Prop := cascadePerformsUptoRow.holds Tryz.pinned (OpenSpec.upto cascadePerformsSpec)

/-- 'pneumaticlaw32.CascadeLines', WHERE WHAT IT READS IS OF BULK AT MOST 1048576: true; the input reads as it did. -/
def cascadeLinesUptoRow : OpenClaim := { program := "ytafgdbaekppjcaagreatdoor", sum := "924aab430f0fb2b082e75d72527c384b41627e2562283f5f12d165c70f4b648e", func := "pneumatic/pneumaticlaw32.CascadeLines", spec := "cascadeLines", unfollowed := true, recurses := true, named := ["pneumatic/group.bits", "internal/strconv.uint64pow10", "math/bits.deBruijn32tab", "math/bits.deBruijn64tab"], apart := false, laid := [("math/bits.deBruijn32tab", laid_math_bits_deBruijn32tab), ("math/bits.deBruijn64tab", laid_math_bits_deBruijn64tab), ("internal/strconv.uint64pow10", laid_internal_strconv_uint64pow10), ("pneumatic/group.bits", laid_pneumatic_group_bits)], narrowed := true }
def CascadeLinesUptoSaid : Prop := cascadeLinesUptoRow.holds Tryz.pinned (OpenSpec.upto cascadeLinesSpec)

/-- 'pneumaticlaw32.CascadeActive', WHERE WHAT IT READS IS OF BULK AT MOST 1048576: true; the input reads as it did. -/
def cascadeActiveUptoRow : OpenClaim := { program := "ytafgdbaekppjcaagreatdoor", sum := "924aab430f0fb2b082e75d72527c384b41627e2562283f5f12d165c70f4b648e", func := "pneumatic/pneumaticlaw32.CascadeActive", spec := "cascadeActive", unfollowed := true, recurses := true, named := ["pneumatic/group.bits", "internal/strconv.uint64pow10", "math/bits.deBruijn32tab", "math/bits.deBruijn64tab"], apart := false, laid := [("math/bits.deBruijn32tab", laid_math_bits_deBruijn32tab), ("math/bits.deBruijn64tab", laid_math_bits_deBruijn64tab), ("internal/strconv.uint64pow10", laid_internal_strconv_uint64pow10), ("pneumatic/group.bits", laid_pneumatic_group_bits)], narrowed := true }
def CascadeActiveUptoSaid : Prop := cascadeActiveUptoRow.holds Tryz.pinned (OpenSpec.upto cascadeActiveSpec)

end Rows
end Go.Proofs.YtafgdbaekppjcaaGreatDoor
