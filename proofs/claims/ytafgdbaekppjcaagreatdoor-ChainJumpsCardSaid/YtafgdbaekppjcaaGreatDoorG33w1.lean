/- Known calls, by the kernel; printed by a program of mine. No condition. -/
import Derived.Test.YtafgdbaekppjcaaGreatDoorG33w
import Derived.KernelRfl
set_option linter.unusedSectionVars false
set_option linter.unusedVariables false
set_option linter.unusedSimpArgs false
namespace ck
set_option maxRecDepth 100000
theorem w8:Kn t8 e8:=by show said _ _=true;kernel_rfl
theorem Fq:Kn t10 e10:=by show said _ _=true;kernel_rfl
theorem zk:Kn t15 e15:=by show said _ _=true;kernel_rfl
theorem Qj:Kn t17 e17:=by show said _ _=true;kernel_rfl
theorem KB:Kn t18 e18:=by show said _ _=true;kernel_rfl
theorem KC:Kn t19 e19:=by show said _ _=true;kernel_rfl
end ck
