/- Known calls, by the kernel; printed by a program of mine. No condition. -/
import Derived.Test.YtafgdbaekppjcaaGreatDoorG33w
import Derived.KernelRfl
set_option linter.unusedSectionVars false
set_option linter.unusedVariables false
set_option linter.unusedSimpArgs false
namespace ck
set_option maxRecDepth 100000
theorem w1:Kn t1 e1:=by show said _ _=true;kernel_rfl
theorem w2:Kn t2 e2:=by show said _ _=true;kernel_rfl
theorem zj:Kn t13 e13:=by show said _ _=true;kernel_rfl
end ck
