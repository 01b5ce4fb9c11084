/- A part of the run. -/
import Derived.Test.YtfhfilkicbdboaaGreatAmSt0
import Derived.Test.YtfhfilkicbdboaaGreatAmSt1
import Derived.Test.YtfhfilkicbdboaaGreatAm10
import Derived.KernelRfl
section
namespace Go.AM
set_option maxRecDepth 100000 in
theorem c7 : cutTo s8 (settle C0 200 (run2 C0 16 s7)) = .go s8 := by kernel_rfl
set_option maxRecDepth 100000 in
theorem o7 : okCut s8 = true := by kernel_rfl
end Go.AM
end
