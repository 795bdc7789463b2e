/- Known calls, by the kernel; printed by a program of mine. No condition. -/
import Derived.Test.YtafgdbaekppjcaaGreatDoorG33w
import Derived.KernelRfl
set_option linter.unusedSectionVars false
set_option linter.unusedVariables false
set_option linter.unusedSimpArgs false
namespace ck
set_option maxRecDepth 100000
theorem w3:Kn t3 e3:=by show said _ _=true;kernel_rfl
theorem w7:Kn t7 e7:=by show said _ _=true;kernel_rfl
theorem w9:Kn t9 e9:=by show said _ _=true;kernel_rfl
theorem zi:Kn t12 e12:=by show said _ _=true;kernel_rfl
theorem w20:Kn t20 e20:=by show said _ _=true;kernel_rfl
end ck
