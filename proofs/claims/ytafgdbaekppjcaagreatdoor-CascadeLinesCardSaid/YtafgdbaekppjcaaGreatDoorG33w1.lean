/- Known calls, by the kernel; printed by a program of mine. No condition. -/
import Derived.Test.YtafgdbaekppjcaaGreatDoorG33w
import Derived.KernelRfl
set_option linter.unusedSectionVars false
set_option linter.unusedVariables false
set_option linter.unusedSimpArgs false
namespace G33
set_option maxRecDepth 100000
theorem w0:Kn t0 e0:=by show said _ _=true;kernel_rfl
theorem w2:Kn t2 e2:=by show said _ _=true;kernel_rfl
theorem w4:Kn t4 e4:=by show said _ _=true;kernel_rfl
theorem w10:Kn t10 e10:=by show said _ _=true;kernel_rfl
theorem w13:Kn t13 e13:=by show said _ _=true;kernel_rfl
theorem w20:Kn t20 e20:=by show said _ _=true;kernel_rfl
theorem w24:Kn t24 e24:=by show said _ _=true;kernel_rfl
theorem w29:Kn t29 e29:=by show said _ _=true;kernel_rfl
theorem w39:Kn t39 e39:=by show said _ _=true;kernel_rfl
theorem w40:Kn t40 e40:=by show said _ _=true;kernel_rfl
theorem w44:Kn t44 e44:=by show said _ _=true;kernel_rfl
theorem w54:Kn t54 e54:=by show said _ _=true;kernel_rfl
end G33
