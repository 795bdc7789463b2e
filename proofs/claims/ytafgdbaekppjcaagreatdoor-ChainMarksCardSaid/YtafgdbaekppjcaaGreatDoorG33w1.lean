/- Known calls, by the kernel; printed by a program of mine. No condition. -/
import Derived.Test.YtafgdbaekppjcaaGreatDoorG33w
import Derived.KernelRfl
set_option linter.unusedSectionVars false
set_option linter.unusedVariables false
set_option linter.unusedSimpArgs false
namespace cQ
set_option maxRecDepth 100000
theorem w0:Kn t0 e0:=by show said _ _=true;kernel_rfl
theorem w1:Kn t1 e1:=by show said _ _=true;kernel_rfl
theorem w3:Kn t3 e3:=by show said _ _=true;kernel_rfl
theorem w4:Kn t4 e4:=by show said _ _=true;kernel_rfl
theorem nH:Kn t11 e11:=by show said _ _=true;kernel_rfl
theorem wU:Kn t13 e13:=by show said _ _=true;kernel_rfl
theorem GJ:Kn t18 e18:=by show said _ _=true;kernel_rfl
end cQ
