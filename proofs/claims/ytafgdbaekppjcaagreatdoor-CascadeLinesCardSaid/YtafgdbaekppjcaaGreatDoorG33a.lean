/- The chapter's examples answer true, by known calls. No condition. -/
import Derived.Test.YtafgdbaekppjcaaGreatDoorG33D
import Derived.Test.YtafgdbaekppjcaaGreatDoorG33w0
import Derived.Test.YtafgdbaekppjcaaGreatDoorG33w1
import Derived.Test.YtafgdbaekppjcaaGreatDoorG33w2
import Derived.Test.YtafgdbaekppjcaaGreatDoorG33w3
import Derived.Test.YtafgdbaekppjcaaGreatDoorG33w4
set_option linter.unusedSectionVars false
set_option linter.unusedVariables false
set_option linter.unusedSimpArgs false
namespace G33
open Go hiding Obj mark
open Go.Pl Go.Am Go.Am.As Dnm
theorem tab_ok:∃ N,TabOk E0 hp t55 N:=known (known (known (known (known (known (known (known (known (known (known (known (known (known (known (known (known (known (known (known (known (known (known (known (known (known (known (known (known (known (known (known (known (known (known (known (known (known (known (known (known (known (known (known (known (known (known (known (known (known (known (known (known (known (known ⟨0,TabOk.nil⟩ w0) w1) w2) w3) w4) w5) w6) w7) w8) w9) w10) w11) w12) w13) w14) w15) w16) w17) w18) w19) w20) w21) w22) w23) w24) w25) w26) w27) w28) w29) w30) w31) w32) w33) w34) w35) w36) w37) w38) w39) w40) w41) w42) w43) w44) w45) w46) w47) w48) w49) w50) w51) w52) w53) w54
def c25:Con GT:=⟨25,[],[],[B],fun _=>m25⟩
theorem k25:c25.Ok E0 hp sp.ge:=fun _ r hr=>by
 obtain ⟨N,h⟩:=tab_ok
 obtain rfl:true=r:=Option.some.inj hr
 exact h.pt (f:=25) (xs:=[]) (r:=b true) (by kernel_rfl)
end G33
