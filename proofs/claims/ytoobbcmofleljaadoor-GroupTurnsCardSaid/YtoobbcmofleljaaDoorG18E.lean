/- Encodings. No condition. -/
import Derived.Test.YtoobbcmofleljaaDoorAmWr
import Derived.KernelRfl
import Derived.Test.YtoobbcmofleljaaDoorG18M
import Derived.Test.YtoobbcmofleljaaDoorL18
namespace G18
open Go Go.Pl Go.Am Go.Am.As
def cSStroke (x : SStroke) : List AV := [.i x.Actuator, .bool x.Out]
theorem okSStroke : EncOk cSStroke 2 := ⟨fun _ => rfl, fun _ => rfl, fun x => rfl⟩
def cSStep (x : SStep) : List AV := [.ro (x.Strokes.map cSStroke), .i x.Wait]
theorem okSStep : EncOk cSStep 2 := ⟨fun _ => rfl, fun _ => rfl, fun x => (bels_cons (ro_bel okSStroke.bel _) (bels_cons rfl rfl))⟩
def cSSequence (x : SSequence) : List AV := [.i x.Actuators, .ro (x.Steps.map cSStep)]
theorem okSSequence : EncOk cSSequence 2 := ⟨fun _ => rfl, fun _ => rfl, fun x => (bels_cons rfl (bels_cons (ro_bel okSStep.bel _) rfl))⟩
def cSboundsError (x : SboundsError) : List AV := [.i x.f_x, .i x.f_y, .bool x.f_signed, .int .u8 x.f_code]
theorem okSboundsError : EncOk cSboundsError 4 := ⟨fun _ => rfl, fun _ => rfl, fun x => rfl⟩
def cSerrorAddressString (x : SerrorAddressString) : List AV := [.str x.f_msg, .int .u64 x.f_addr]
theorem okSerrorAddressString : EncOk cSerrorAddressString 2 := ⟨fun _ => rfl, fun _ => rfl, fun x => rfl⟩
def E0 : Env := { fns := L18.fns, glob := (fun g => if g = 0 then [.int .u64 1, .int .u64 2, .int .u64 4, .int .u64 8, .int .u64 16, .int .u64 32] else []) }
def hp (f : Nat) : Bool := [41, 43].contains f
theorem fn6 : E0.fns 6 = some L18.r6 := rfl
theorem fn11 : E0.fns 11 = some L18.r11 := rfl
theorem fn12 : E0.fns 12 = some L18.r12 := rfl
theorem fn13 : E0.fns 13 = some L18.r13 := rfl
theorem fn16 : E0.fns 16 = some L18.r16 := rfl
theorem fn18 : E0.fns 18 = some L18.r18 := rfl
theorem fn19 : E0.fns 19 = some L18.r19 := rfl
theorem fn21 : E0.fns 21 = some L18.r21 := rfl
theorem fn22 : E0.fns 22 = some L18.r22 := rfl
theorem fn23 : E0.fns 23 = some L18.r23 := rfl
theorem fn34 : E0.fns 34 = some L18.r34 := rfl
theorem fn35 : E0.fns 35 = some L18.r35 := rfl
theorem fn36 : E0.fns 36 = some L18.r36 := rfl
theorem fn37 : E0.fns 37 = some L18.r37 := rfl
theorem fn38 : E0.fns 38 = some L18.r38 := rfl
theorem fn39 : E0.fns 39 = some L18.r39 := rfl
theorem fn41 : E0.fns 41 = some L18.r41 := rfl
theorem fn42 : E0.fns 42 = some L18.r42 := rfl
theorem fn43 : E0.fns 43 = some L18.r43 := rfl
theorem fn44 : E0.fns 44 = some L18.r44 := rfl
theorem fn46 : E0.fns 46 = some L18.r46 := rfl
theorem fn47 : E0.fns 47 = some L18.r47 := rfl
theorem fn48 : E0.fns 48 = some L18.r48 := rfl
theorem fn52 : E0.fns 52 = some L18.r52 := rfl
theorem fn53 : E0.fns 53 = some L18.r53 := rfl
theorem fn59 : E0.fns 59 = some L18.r59 := rfl
theorem fn60 : E0.fns 60 = some L18.r60 := rfl
theorem fn61 : E0.fns 61 = some L18.r61 := rfl
theorem fn62 : E0.fns 62 = some L18.r62 := rfl
theorem fn63 : E0.fns 63 = some L18.r63 := rfl
theorem fn65 : E0.fns 65 = some L18.r65 := rfl
theorem fn66 : E0.fns 66 = some L18.r66 := rfl
theorem fn68 : E0.fns 68 = some L18.r68 := rfl
theorem fn73 : E0.fns 73 = some L18.r73 := rfl
theorem fn74 : E0.fns 74 = some L18.r74 := rfl
theorem fn75 : E0.fns 75 = some L18.r75 := rfl
theorem fn76 : E0.fns 76 = some L18.r76 := rfl
theorem fn77 : E0.fns 77 = some L18.r77 := rfl
theorem fn78 : E0.fns 78 = some L18.r78 := rfl
theorem fn81 : E0.fns 81 = some L18.r81 := rfl
theorem fn82 : E0.fns 82 = some L18.r82 := rfl
theorem fn83 : E0.fns 83 = some L18.r83 := rfl
end G18
