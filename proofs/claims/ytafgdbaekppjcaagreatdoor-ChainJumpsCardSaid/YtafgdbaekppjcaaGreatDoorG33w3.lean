/- Known calls, by the kernel; printed by a program of mine. No condition. -/
import Derived.Test.YtafgdbaekppjcaaGreatDoorG33w
import Derived.KernelRfl
set_option linter.unusedSectionVars false
set_option linter.unusedVariables false
set_option linter.unusedSimpArgs false
namespace ck
set_option maxRecDepth 100000
theorem w0:Kn t0 e0:=by show said _ _=true;kernel_rfl
theorem w4:Kn t4 e4:=by show said _ _=true;kernel_rfl
theorem w5:Kn t5 e5:=by show said _ _=true;kernel_rfl
theorem w6:Kn t6 e6:=by show said _ _=true;kernel_rfl
theorem oP:Kn t11 e11:=by show said _ _=true;kernel_rfl
theorem Qi:Kn t14 e14:=by show said _ _=true;kernel_rfl
theorem Yo:Kn t16 e16:=by show said _ _=true;kernel_rfl
end ck
