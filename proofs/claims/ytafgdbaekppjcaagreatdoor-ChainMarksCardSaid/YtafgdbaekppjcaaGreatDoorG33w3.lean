/- Known calls, by the kernel; printed by a program of mine. No condition. -/
import Derived.Test.YtafgdbaekppjcaaGreatDoorG33w
import Derived.KernelRfl
set_option linter.unusedSectionVars false
set_option linter.unusedVariables false
set_option linter.unusedSimpArgs false
namespace cQ
set_option maxRecDepth 100000
theorem w5:Kn t5 e5:=by show said _ _=true;kernel_rfl
theorem Lw:Kn t10 e10:=by show said _ _=true;kernel_rfl
theorem Xu:Kn t14 e14:=by show said _ _=true;kernel_rfl
theorem Xv:Kn t16 e16:=by show said _ _=true;kernel_rfl
theorem Tn:Kn t21 e21:=by show said _ _=true;kernel_rfl
end cQ
