/- The chapter's examples answer true, by known calls. No condition. -/
import Derived.Test.YtafgdbaekppjcaaGreatDoorG33D
import Derived.Test.YtafgdbaekppjcaaGreatDoorG33w0
import Derived.Test.YtafgdbaekppjcaaGreatDoorG33w1
import Derived.Test.YtafgdbaekppjcaaGreatDoorG33w2
import Derived.Test.YtafgdbaekppjcaaGreatDoorG33w3
set_option linter.unusedSectionVars false
set_option linter.unusedVariables false
set_option linter.unusedSimpArgs false
namespace cQ
open Go hiding Obj mark
open Go.Pl Go.Am Go.Am.As nT
theorem Q6:∃ N,iS E0 hp t23 N:=known (known (known (known (known (known (known (known (known (known (known (known (known (known (known (known (known (known (known (known (known (known (known ⟨0,iS.nil⟩ w0) w1) w2) w3) w4) w5) w6) w7) w8) w9) Lw) nH) wT) wU) Xu) wV) Xv) Py) GJ) Xw) Xx) Tn) w22
def c11:b7 GT:=⟨11,[],[],[B],fun _=>Xy⟩
theorem k11:c11.Ok E0 hp sp.ge:=fun _ r hr=>by
 obtain ⟨N,h⟩:=Q6;obtain rfl:true=r:=Option.some.inj hr;exact h.pt (f:=11) (xs:=[]) (r:=b true) (by kernel_rfl)
end cQ
