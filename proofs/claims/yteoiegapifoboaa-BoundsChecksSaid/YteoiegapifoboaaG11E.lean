/- Encodings. No condition. -/
import Derived.Test.YteoiegapifoboaaAmWr
import Derived.KernelRfl
import Derived.Test.YteoiegapifoboaaG11M
import Derived.Test.YteoiegapifoboaaL11
namespace G11
open Go Go.Pl Go.Am Go.Am.As
def cSBounds (x : SBounds) : List AV := [.int .i64 x.N, .ro (x.Most.map (cL cI_i64))]
theorem okSBounds : EncOk cSBounds 2 := ⟨fun _ => rfl, fun _ => rfl, fun x => (bels_cons rfl (bels_cons (ro_bel (okL okI_i64).bel _) rfl))⟩
def cSSpan (x : SSpan) : List AV := [.int .i64 x.Low, .int .i64 x.High]
theorem okSSpan : EncOk cSSpan 2 := ⟨fun _ => rfl, fun _ => rfl, fun x => rfl⟩
def cSChange (x : SChange) : List AV := [.int .i64 x.I, .int .i64 x.J, .int .i64 x.Most, .int .i64 x.Span.Low, .int .i64 x.Span.High]
theorem okSChange : EncOk cSChange 5 := ⟨fun _ => rfl, fun _ => rfl, fun x => rfl⟩
def cSboundsError (x : SboundsError) : List AV := [.int .i64 x.f_x, .int .i64 x.f_y, .bool x.f_signed, .int .u8 x.f_code]
theorem okSboundsError : EncOk cSboundsError 4 := ⟨fun _ => rfl, fun _ => rfl, fun x => rfl⟩
def cSerrorAddressString (x : SerrorAddressString) : List AV := [.str x.f_msg, .int .u64 x.f_addr]
theorem okSerrorAddressString : EncOk cSerrorAddressString 2 := ⟨fun _ => rfl, fun _ => rfl, fun x => rfl⟩
def E0 : Env := ⟨L11.fns, (fun _ => [])⟩
def hp (f : Nat) : Bool := [70, 59, 47, 55, 95].contains f
theorem fn7 : E0.fns 7 = some L11.r7 := rfl
theorem fn12 : E0.fns 12 = some L11.r12 := rfl
theorem fn13 : E0.fns 13 = some L11.r13 := rfl
theorem fn17 : E0.fns 17 = some L11.r17 := rfl
theorem fn28 : E0.fns 28 = some L11.r28 := rfl
theorem fn29 : E0.fns 29 = some L11.r29 := rfl
theorem fn30 : E0.fns 30 = some L11.r30 := rfl
theorem fn31 : E0.fns 31 = some L11.r31 := rfl
theorem fn32 : E0.fns 32 = some L11.r32 := rfl
theorem fn39 : E0.fns 39 = some L11.r39 := rfl
theorem fn52 : E0.fns 52 = some L11.r52 := rfl
theorem fn53 : E0.fns 53 = some L11.r53 := rfl
theorem fn65 : E0.fns 65 = some L11.r65 := rfl
theorem fn66 : E0.fns 66 = some L11.r66 := rfl
theorem fn67 : E0.fns 67 = some L11.r67 := rfl
theorem fn68 : E0.fns 68 = some L11.r68 := rfl
theorem fn77 : E0.fns 77 = some L11.r77 := rfl
theorem fn88 : E0.fns 88 = some L11.r88 := rfl
end G11
