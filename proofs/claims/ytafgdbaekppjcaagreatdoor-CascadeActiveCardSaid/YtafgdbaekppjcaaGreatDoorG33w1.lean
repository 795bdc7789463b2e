/- Known calls, by the kernel; printed by a program of mine. No condition. -/
import Derived.Test.YtafgdbaekppjcaaGreatDoorG33w
import Derived.KernelRfl
set_option linter.unusedSectionVars false
set_option linter.unusedVariables false
set_option linter.unusedSimpArgs false
namespace cK
set_option maxRecDepth 100000
theorem w0:Kn t0 e0:=by show said _ _=true;kernel_rfl
theorem w2:Kn t2 e2:=by show said _ _=true;kernel_rfl
theorem w4:Kn t4 e4:=by show said _ _=true;kernel_rfl
theorem Js:Kn t10 e10:=by show said _ _=true;kernel_rfl
theorem r9:Kn t22 e22:=by show said _ _=true;kernel_rfl
theorem F3:Kn t28 e28:=by show said _ _=true;kernel_rfl
theorem w29:Kn t29 e29:=by show said _ _=true;kernel_rfl
theorem w34:Kn t34 e34:=by show said _ _=true;kernel_rfl
theorem w40:Kn t40 e40:=by show said _ _=true;kernel_rfl
theorem w44:Kn t44 e44:=by show said _ _=true;kernel_rfl
theorem w46:Kn t46 e46:=by show said _ _=true;kernel_rfl
theorem HT:Kn t54 e54:=by show said _ _=true;kernel_rfl
end cK
