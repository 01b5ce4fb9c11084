/- A part of the run. -/
import Derived.Test.YtfhfilkicbdboaaGreatAmSt0
import Derived.Test.YtfhfilkicbdboaaGreatAmSt1
import Derived.Test.YtfhfilkicbdboaaGreatAm10
import Derived.KernelRfl
section
namespace Go.AM
set_option maxRecDepth 100000 in
theorem c8 : cutTo s9 (settle C0 200 (run2 C0 16 s8)) = .go s9 := by kernel_rfl
set_option maxRecDepth 100000 in
theorem o8 : okCut s9 = true := by kernel_rfl
end Go.AM
end
