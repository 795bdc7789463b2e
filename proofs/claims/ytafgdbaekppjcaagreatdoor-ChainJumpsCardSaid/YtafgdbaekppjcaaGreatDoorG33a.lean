/- The chapter's examples answer true, by known calls. No condition. -/
import Derived.Test.YtafgdbaekppjcaaGreatDoorG33D
import Derived.Test.YtafgdbaekppjcaaGreatDoorG33w0
import Derived.Test.YtafgdbaekppjcaaGreatDoorG33w1
import Derived.Test.YtafgdbaekppjcaaGreatDoorG33w2
import Derived.Test.YtafgdbaekppjcaaGreatDoorG33w3
import Derived.Test.YtafgdbaekppjcaaGreatDoorG33w4
set_option linter.unusedSectionVars false
set_option linter.unusedVariables false
set_option linter.unusedSimpArgs false
namespace ck
open Go hiding Obj mark
open Go.Pl Go.Am Go.Am.As oe
theorem V3:∃ N,jz E0 hp t22 N:=known (known (known (known (known (known (known (known (known (known (known (known (known (known (known (known (known (known (known (known (known (known ⟨0,jz.nil⟩ w0) w1) w2) w3) w4) w5) w6) w7) w8) w9) Fq) oP) zi) zj) Qi) zk) Yo) Qj) KB) KC) w20) Yp
def c11:gS GT:=⟨11,[],[],[B],fun _=>m11⟩
theorem k11:c11.Ok E0 hp sp.ge:=fun _ r hr=>by
 obtain ⟨N,h⟩:=V3;obtain rfl:true=r:=zbg hr;exact h.pt (f:=11) (xs:=[]) (r:=b true) (by kernel_rfl)
end ck
