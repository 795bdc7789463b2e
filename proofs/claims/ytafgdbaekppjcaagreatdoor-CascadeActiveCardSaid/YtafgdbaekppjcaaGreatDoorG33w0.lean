/- Known calls, by the kernel; printed by a program of mine. No condition. -/
import Derived.Test.YtafgdbaekppjcaaGreatDoorG33w
import Derived.KernelRfl
set_option linter.unusedSectionVars false
set_option linter.unusedVariables false
set_option linter.unusedSimpArgs false
namespace cK
set_option maxRecDepth 100000
theorem Wt:Kn t21 e21:=by show said _ _=true;kernel_rfl
theorem w32:Kn t32 e32:=by show said _ _=true;kernel_rfl
theorem nc:Kn t33 e33:=by show said _ _=true;kernel_rfl
theorem lV:Kn t35 e35:=by show said _ _=true;kernel_rfl
theorem w36:Kn t36 e36:=by show said _ _=true;kernel_rfl
theorem od:Kn t37 e37:=by show said _ _=true;kernel_rfl
theorem BX:Kn t43 e43:=by show said _ _=true;kernel_rfl
theorem w47:Kn t47 e47:=by show said _ _=true;kernel_rfl
theorem w51:Kn t51 e51:=by show said _ _=true;kernel_rfl
theorem w52:Kn t52 e52:=by show said _ _=true;kernel_rfl
end cK
