/- A part of the run. -/
import Derived.Test.YtfhfilkicbdboaaGreatAmSt0
import Derived.Test.YtfhfilkicbdboaaGreatAmSt1
import Derived.Test.YtfhfilkicbdboaaGreatAm10
import Derived.KernelRfl
section
namespace Go.AM
set_option maxRecDepth 100000 in
theorem c6 : cutTo s7 (settle C0 200 (run2 C0 16 s6)) = .go s7 := by kernel_rfl
set_option maxRecDepth 100000 in
theorem o6 : okCut s7 = true := by kernel_rfl
end Go.AM
end
