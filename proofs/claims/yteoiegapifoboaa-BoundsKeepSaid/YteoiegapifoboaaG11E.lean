/- Encodings. No condition. -/
import Derived.Test.YteoiegapifoboaaAmWr
import Derived.KernelRfl
import Derived.Test.YteoiegapifoboaaG11M
import Derived.Test.YteoiegapifoboaaL11
namespace G11
open Go Go.Pl Go.Am Go.Am.As
def cSBounds (x : SBounds) : List AV := [.i x.N, .ro (x.Most.map (cL cI_i64))]
theorem okSBounds : EncOk cSBounds 2 := ⟨fun _ => rfl, fun _ => rfl, fun x => (bels_cons rfl (bels_cons (ro_bel (okL okI_i64).bel _) rfl))⟩
def cSSpan (x : SSpan) : List AV := [.i x.Low, .i x.High]
theorem okSSpan : EncOk cSSpan 2 := ⟨fun _ => rfl, fun _ => rfl, fun x => rfl⟩
def cSChange (x : SChange) : List AV := [.i x.I, .i x.J, .i x.Most, .i x.Span.Low, .i x.Span.High]
theorem okSChange : EncOk cSChange 5 := ⟨fun _ => rfl, fun _ => rfl, fun x => rfl⟩
def cSboundsError (x : SboundsError) : List AV := [.i x.f_x, .i x.f_y, .bool x.f_signed, .int .u8 x.f_code]
theorem okSboundsError : EncOk cSboundsError 4 := ⟨fun _ => rfl, fun _ => rfl, fun x => rfl⟩
def cSerrorAddressString (x : SerrorAddressString) : List AV := [.str x.f_msg, .int .u64 x.f_addr]
theorem okSerrorAddressString : EncOk cSerrorAddressString 2 := ⟨fun _ => rfl, fun _ => rfl, fun x => rfl⟩
def E0 : Env := { fns := L11.fns, glob := (fun _ => []) }
def hp (f : Nat) : Bool := [70, 59, 47, 55, 95, 81, 61, 51, 50].contains f
theorem fn11 : E0.fns 11 = some L11.r11 := rfl
theorem fn13 : E0.fns 13 = some L11.r13 := rfl
theorem fn14 : E0.fns 14 = some L11.r14 := rfl
theorem fn16 : E0.fns 16 = some L11.r16 := rfl
theorem fn18 : E0.fns 18 = some L11.r18 := rfl
theorem fn20 : E0.fns 20 = some L11.r20 := rfl
theorem fn25 : E0.fns 25 = some L11.r25 := rfl
theorem fn27 : E0.fns 27 = some L11.r27 := rfl
theorem fn28 : E0.fns 28 = some L11.r28 := rfl
theorem fn30 : E0.fns 30 = some L11.r30 := rfl
theorem fn32 : E0.fns 32 = some L11.r32 := rfl
theorem fn35 : E0.fns 35 = some L11.r35 := rfl
theorem fn39 : E0.fns 39 = some L11.r39 := rfl
theorem fn41 : E0.fns 41 = some L11.r41 := rfl
theorem fn43 : E0.fns 43 = some L11.r43 := rfl
theorem fn45 : E0.fns 45 = some L11.r45 := rfl
theorem fn47 : E0.fns 47 = some L11.r47 := rfl
theorem fn48 : E0.fns 48 = some L11.r48 := rfl
theorem fn55 : E0.fns 55 = some L11.r55 := rfl
theorem fn56 : E0.fns 56 = some L11.r56 := rfl
theorem fn59 : E0.fns 59 = some L11.r59 := rfl
theorem fn60 : E0.fns 60 = some L11.r60 := rfl
theorem fn62 : E0.fns 62 = some L11.r62 := rfl
theorem fn63 : E0.fns 63 = some L11.r63 := rfl
theorem fn64 : E0.fns 64 = some L11.r64 := rfl
theorem fn65 : E0.fns 65 = some L11.r65 := rfl
theorem fn66 : E0.fns 66 = some L11.r66 := rfl
theorem fn67 : E0.fns 67 = some L11.r67 := rfl
theorem fn69 : E0.fns 69 = some L11.r69 := rfl
theorem fn70 : E0.fns 70 = some L11.r70 := rfl
theorem fn71 : E0.fns 71 = some L11.r71 := rfl
theorem fn77 : E0.fns 77 = some L11.r77 := rfl
theorem fn78 : E0.fns 78 = some L11.r78 := rfl
theorem fn79 : E0.fns 79 = some L11.r79 := rfl
theorem fn83 : E0.fns 83 = some L11.r83 := rfl
theorem fn85 : E0.fns 85 = some L11.r85 := rfl
theorem fn86 : E0.fns 86 = some L11.r86 := rfl
theorem fn87 : E0.fns 87 = some L11.r87 := rfl
theorem fn89 : E0.fns 89 = some L11.r89 := rfl
theorem fn90 : E0.fns 90 = some L11.r90 := rfl
theorem fn91 : E0.fns 91 = some L11.r91 := rfl
theorem fn92 : E0.fns 92 = some L11.r92 := rfl
theorem fn95 : E0.fns 95 = some L11.r95 := rfl
theorem fn96 : E0.fns 96 = some L11.r96 := rfl
end G11
