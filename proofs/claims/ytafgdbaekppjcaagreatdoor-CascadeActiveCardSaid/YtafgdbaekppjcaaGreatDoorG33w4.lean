/- Known calls, by the kernel; printed by a program of mine. No condition. -/
import Derived.Test.YtafgdbaekppjcaaGreatDoorG33w
import Derived.KernelRfl
set_option linter.unusedSectionVars false
set_option linter.unusedVariables false
set_option linter.unusedSimpArgs false
namespace cK
set_option maxRecDepth 100000
theorem y5:Kn t12 e12:=by show said _ _=true;kernel_rfl
theorem y6:Kn t13 e13:=by show said _ _=true;kernel_rfl
theorem j6:Kn t14 e14:=by show said _ _=true;kernel_rfl
theorem w16:Kn t16 e16:=by show said _ _=true;kernel_rfl
theorem m8:Kn t20 e20:=by show said _ _=true;kernel_rfl
theorem w24:Kn t24 e24:=by show said _ _=true;kernel_rfl
theorem w26:Kn t26 e26:=by show said _ _=true;kernel_rfl
theorem w39:Kn t39 e39:=by show said _ _=true;kernel_rfl
theorem w42:Kn t42 e42:=by show said _ _=true;kernel_rfl
theorem BR:Kn t45 e45:=by show said _ _=true;kernel_rfl
end cK
