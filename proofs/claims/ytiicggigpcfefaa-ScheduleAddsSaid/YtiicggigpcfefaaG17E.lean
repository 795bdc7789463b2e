/- Encodings. No condition. -/
import Derived.Test.YtiicggigpcfefaaAmWr
import Derived.KernelRfl
import Derived.Test.YtiicggigpcfefaaG17M
import Derived.Test.YtiicggigpcfefaaL17
import Derived.Test.YtiicggigpcfefaaG17y
namespace G17
open Go Go.Pl Go.Am Go.Am.As
def cSStroke (x : SStroke) : List AV := [.i x.Actuator, .bool x.Out]
theorem okSStroke : EncOk cSStroke 2 := ⟨fun _ => rfl, fun _ => rfl, fun x => rfl⟩
def cSStep (x : SStep) : List AV := [.ro (x.Strokes.map cSStroke), .i x.Wait]
theorem okSStep : EncOk cSStep 2 := ⟨fun _ => rfl, fun _ => rfl, fun x => (bels_cons (ro_bel okSStroke.bel _) (bels_cons rfl rfl))⟩
def cSSequence (x : SSequence) : List AV := [.i x.Actuators, .ro (x.Steps.map cSStep)]
theorem okSSequence : EncOk cSSequence 2 := ⟨fun _ => rfl, fun _ => rfl, fun x => (bels_cons rfl (bels_cons (ro_bel okSStep.bel _) rfl))⟩
def cSSpan (x : SSpan) : List AV := [.i x.Low, .i x.High]
theorem okSSpan : EncOk cSSpan 2 := ⟨fun _ => rfl, fun _ => rfl, fun x => rfl⟩
def cSTravel (x : STravel) : List AV := [.i x.Out.Low, .i x.Out.High, .i x.In.Low, .i x.In.High]
theorem okSTravel : EncOk cSTravel 4 := ⟨fun _ => rfl, fun _ => rfl, fun x => rfl⟩
def cSPlant (x : SPlant) : List AV := [.ro (x.Travels.map cSTravel)]
theorem okSPlant : EncOk cSPlant 1 := ⟨fun _ => rfl, fun _ => rfl, fun x => (bels_cons (ro_bel okSTravel.bel _) rfl)⟩
def cSSlot (x : SSlot) : List AV := [.i x.Begin.Low, .i x.Begin.High, .i x.Moved.Low, .i x.Moved.High, .i x.End.Low, .i x.End.High]
theorem okSSlot : EncOk cSSlot 6 := ⟨fun _ => rfl, fun _ => rfl, fun x => rfl⟩
def cSboundsError (x : SboundsError) : List AV := [.i x.f_x, .i x.f_y, .bool x.f_signed, .int .u8 x.f_code]
theorem okSboundsError : EncOk cSboundsError 4 := ⟨fun _ => rfl, fun _ => rfl, fun x => rfl⟩
def cSerrorAddressString (x : SerrorAddressString) : List AV := [.str x.f_msg, .int .u64 x.f_addr]
theorem okSerrorAddressString : EncOk cSerrorAddressString 2 := ⟨fun _ => rfl, fun _ => rfl, fun x => rfl⟩
def E0 : Env := { fns := L17.fns, glob := (fun _ => []), gen := gen17 }
def hp (f : Nat) : Bool := [64].contains f
theorem fn10 : E0.fns 10 = some L17.r10 := rfl
theorem fn11 : E0.fns 11 = some L17.r11 := rfl
theorem fn12 : E0.fns 12 = some L17.r12 := rfl
theorem fn13 : E0.fns 13 = some L17.r13 := rfl
theorem fn15 : E0.fns 15 = some L17.r15 := rfl
theorem fn17 : E0.fns 17 = some L17.r17 := rfl
theorem fn18 : E0.fns 18 = some L17.r18 := rfl
theorem fn21 : E0.fns 21 = some L17.r21 := rfl
theorem fn23 : E0.fns 23 = some L17.r23 := rfl
theorem fn25 : E0.fns 25 = some L17.r25 := rfl
theorem fn30 : E0.fns 30 = some L17.r30 := rfl
theorem fn32 : E0.fns 32 = some L17.r32 := rfl
theorem fn40 : E0.fns 40 = some L17.r40 := rfl
theorem fn41 : E0.fns 41 = some L17.r41 := rfl
theorem fn42 : E0.fns 42 = some L17.r42 := rfl
theorem fn43 : E0.fns 43 = some L17.r43 := rfl
theorem fn44 : E0.fns 44 = some L17.r44 := rfl
theorem fn45 : E0.fns 45 = some L17.r45 := rfl
theorem fn46 : E0.fns 46 = some L17.r46 := rfl
theorem fn47 : E0.fns 47 = some L17.r47 := rfl
theorem fn48 : E0.fns 48 = some L17.r48 := rfl
theorem fn49 : E0.fns 49 = some L17.r49 := rfl
theorem fn50 : E0.fns 50 = some L17.r50 := rfl
theorem fn51 : E0.fns 51 = some L17.r51 := rfl
theorem fn52 : E0.fns 52 = some L17.r52 := rfl
theorem fn53 : E0.fns 53 = some L17.r53 := rfl
theorem fn54 : E0.fns 54 = some L17.r54 := rfl
theorem fn55 : E0.fns 55 = some L17.r55 := rfl
theorem fn56 : E0.fns 56 = some L17.r56 := rfl
theorem fn57 : E0.fns 57 = some L17.r57 := rfl
theorem fn59 : E0.fns 59 = some L17.r59 := rfl
theorem fn60 : E0.fns 60 = some L17.r60 := rfl
theorem fn64 : E0.fns 64 = some L17.r64 := rfl
theorem fn65 : E0.fns 65 = some L17.r65 := rfl
theorem fn66 : E0.fns 66 = some L17.r66 := rfl
theorem fn67 : E0.fns 67 = some L17.r67 := rfl
theorem fn68 : E0.fns 68 = some L17.r68 := rfl
theorem fn69 : E0.fns 69 = some L17.r69 := rfl
theorem fn71 : E0.fns 71 = some L17.r71 := rfl
theorem fn72 : E0.fns 72 = some L17.r72 := rfl
theorem fn73 : E0.fns 73 = some L17.r73 := rfl
theorem fn74 : E0.fns 74 = some L17.r74 := rfl
theorem fn75 : E0.fns 75 = some L17.r75 := rfl
theorem fn76 : E0.fns 76 = some L17.r76 := rfl
theorem fn77 : E0.fns 77 = some L17.r77 := rfl
theorem fn78 : E0.fns 78 = some L17.r78 := rfl
theorem fn79 : E0.fns 79 = some L17.r79 := rfl
theorem fn80 : E0.fns 80 = some L17.r80 := rfl
theorem fn81 : E0.fns 81 = some L17.r81 := rfl
theorem fn82 : E0.fns 82 = some L17.r82 := rfl
theorem fn83 : E0.fns 83 = some L17.r83 := rfl
theorem fn84 : E0.fns 84 = some L17.r84 := rfl
theorem fn85 : E0.fns 85 = some L17.r85 := rfl
end G17
