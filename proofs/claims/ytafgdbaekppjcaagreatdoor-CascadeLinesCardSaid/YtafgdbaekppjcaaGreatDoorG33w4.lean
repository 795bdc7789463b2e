/- Known calls, by the kernel; printed by a program of mine. No condition. -/
import Derived.Test.YtafgdbaekppjcaaGreatDoorG33w
import Derived.KernelRfl
set_option linter.unusedSectionVars false
set_option linter.unusedVariables false
set_option linter.unusedSimpArgs false
namespace G33
set_option maxRecDepth 100000
theorem w12:Kn t12 e12:=by show said _ _=true;kernel_rfl
theorem w14:Kn t14 e14:=by show said _ _=true;kernel_rfl
theorem w16:Kn t16 e16:=by show said _ _=true;kernel_rfl
theorem w22:Kn t22 e22:=by show said _ _=true;kernel_rfl
theorem w26:Kn t26 e26:=by show said _ _=true;kernel_rfl
theorem w28:Kn t28 e28:=by show said _ _=true;kernel_rfl
theorem w34:Kn t34 e34:=by show said _ _=true;kernel_rfl
theorem w42:Kn t42 e42:=by show said _ _=true;kernel_rfl
theorem w45:Kn t45 e45:=by show said _ _=true;kernel_rfl
theorem w46:Kn t46 e46:=by show said _ _=true;kernel_rfl
end G33
