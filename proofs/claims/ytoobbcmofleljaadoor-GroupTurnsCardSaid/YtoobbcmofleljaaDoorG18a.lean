/- The examples of the chapter come out as they should: the kernel runs the models. No condition. -/
import Derived.Test.YtoobbcmofleljaaDoorG18E
namespace G18
open Go Go.Pl
theorem awake_run : m12 = some true := by kernel_rfl
end G18
