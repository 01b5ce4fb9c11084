/- A part of the run. -/
import Derived.Test.YtfhfilkicbdboaaGreatAmSt0
import Derived.Test.YtfhfilkicbdboaaGreatAmSt1
import Derived.Test.YtfhfilkicbdboaaGreatAm10
import Derived.KernelRfl
section
namespace Go.AM
set_option maxRecDepth 100000 in
theorem c22 : doneV (run2 C0 16 s22) = some bT := by kernel_rfl
end Go.AM
end
