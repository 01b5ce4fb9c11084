/- A part of the run. -/
import Derived.Test.YtfhfilkicbdboaaGreatAmSt0
import Derived.Test.YtfhfilkicbdboaaGreatAmSt1
import Derived.Test.YtfhfilkicbdboaaGreatAm10
import Derived.KernelRfl
section
namespace Go.AM
set_option maxRecDepth 100000 in
theorem c2 : cutTo s3 (settle C0 200 (run2 C0 16 s2)) = .go s3 := by kernel_rfl
set_option maxRecDepth 100000 in
theorem o2 : okCut s3 = true := by kernel_rfl
end Go.AM
end
