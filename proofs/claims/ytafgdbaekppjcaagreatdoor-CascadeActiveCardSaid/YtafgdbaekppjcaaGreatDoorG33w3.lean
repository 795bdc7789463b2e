/- Known calls, by the kernel; printed by a program of mine. No condition. -/
import Derived.Test.YtafgdbaekppjcaaGreatDoorG33w
import Derived.KernelRfl
set_option linter.unusedSectionVars false
set_option linter.unusedVariables false
set_option linter.unusedSimpArgs false
namespace cK
set_option maxRecDepth 100000
theorem w1:Kn t1 e1:=by show said _ _=true;kernel_rfl
theorem w8:Kn t8 e8:=by show said _ _=true;kernel_rfl
theorem tZ:Kn t11 e11:=by show said _ _=true;kernel_rfl
theorem lW:Kn t15 e15:=by show said _ _=true;kernel_rfl
theorem w23:Kn t23 e23:=by show said _ _=true;kernel_rfl
theorem w25:Kn t25 e25:=by show said _ _=true;kernel_rfl
theorem w31:Kn t31 e31:=by show said _ _=true;kernel_rfl
theorem w38:Kn t38 e38:=by show said _ _=true;kernel_rfl
theorem w41:Kn t41 e41:=by show said _ _=true;kernel_rfl
theorem BY:Kn t48 e48:=by show said _ _=true;kernel_rfl
theorem w50:Kn t50 e50:=by show said _ _=true;kernel_rfl
end cK
