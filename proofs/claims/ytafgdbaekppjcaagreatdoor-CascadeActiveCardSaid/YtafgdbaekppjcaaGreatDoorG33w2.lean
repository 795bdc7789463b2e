/- Known calls, by the kernel; printed by a program of mine. No condition. -/
import Derived.Test.YtafgdbaekppjcaaGreatDoorG33w
import Derived.KernelRfl
set_option linter.unusedSectionVars false
set_option linter.unusedVariables false
set_option linter.unusedSimpArgs false
namespace cK
set_option maxRecDepth 100000
theorem w3:Kn t3 e3:=by show said _ _=true;kernel_rfl
theorem w5:Kn t5 e5:=by show said _ _=true;kernel_rfl
theorem w6:Kn t6 e6:=by show said _ _=true;kernel_rfl
theorem w7:Kn t7 e7:=by show said _ _=true;kernel_rfl
theorem w9:Kn t9 e9:=by show said _ _=true;kernel_rfl
theorem w17:Kn t17 e17:=by show said _ _=true;kernel_rfl
theorem NZ:Kn t18 e18:=by show said _ _=true;kernel_rfl
theorem BW:Kn t19 e19:=by show said _ _=true;kernel_rfl
theorem w27:Kn t27 e27:=by show said _ _=true;kernel_rfl
theorem Et:Kn t30 e30:=by show said _ _=true;kernel_rfl
theorem w49:Kn t49 e49:=by show said _ _=true;kernel_rfl
theorem w53:Kn t53 e53:=by show said _ _=true;kernel_rfl
end cK
