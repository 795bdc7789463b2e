/- Known calls, by the kernel; printed by a program of mine. No condition. -/
import Derived.Test.YtafgdbaekppjcaaGreatDoorG33w
import Derived.KernelRfl
set_option linter.unusedSectionVars false
set_option linter.unusedVariables false
set_option linter.unusedSimpArgs false
namespace cQ
set_option maxRecDepth 100000
theorem w2:Kn t2 e2:=by show said _ _=true;kernel_rfl
theorem w6:Kn t6 e6:=by show said _ _=true;kernel_rfl
theorem w7:Kn t7 e7:=by show said _ _=true;kernel_rfl
theorem w8:Kn t8 e8:=by show said _ _=true;kernel_rfl
theorem w9:Kn t9 e9:=by show said _ _=true;kernel_rfl
theorem wT:Kn t12 e12:=by show said _ _=true;kernel_rfl
theorem wV:Kn t15 e15:=by show said _ _=true;kernel_rfl
theorem Py:Kn t17 e17:=by show said _ _=true;kernel_rfl
theorem Xw:Kn t19 e19:=by show said _ _=true;kernel_rfl
theorem Xx:Kn t20 e20:=by show said _ _=true;kernel_rfl
end cQ
