/- The rounds of Made from the first call of Whole on. -/
import Derived.Test.YtfhfilkicbdboaaGreatAm16
import Derived.KernelRfl
section
noncomputable section
namespace Go.AM
theorem argC100 (m : Nat) (v9 : V) (c : Nat → Int) : nextCall (stC 1 m v9 c 0 0) = some (20, [qA (c 5)]) := by kernel_rfl
theorem eqC100 (m : Nat) (v9 : V) (c : Nat → Int) : stC 1 m v9 c 0 0 = setE0 (qA (c 5)) (stC 1 m v9 c 0 0) := by kernel_rfl
theorem leaf100 (m : Nat) (v9 : V) (c : Nat → Int) (v' : V) : qs.map (leafL 1 m v9 c 0 0 v') = qs.map (leafR 1 m v9 c 0 0 v') := by kernel_rfl
theorem argC101 (m : Nat) (v9 : V) (c : Nat → Int) : nextCall (stC 1 m v9 c 0 1) = some (20, [qA (c 5)]) := by kernel_rfl
theorem eqC101 (m : Nat) (v9 : V) (c : Nat → Int) : stC 1 m v9 c 0 1 = setE0 (qA (c 5)) (stC 1 m v9 c 0 1) := by kernel_rfl
theorem leaf101 (m : Nat) (v9 : V) (c : Nat → Int) (v' : V) : qs.map (leafL 1 m v9 c 0 1 v') = qs.map (leafR 1 m v9 c 0 1 v') := by kernel_rfl
theorem argC102 (m : Nat) (v9 : V) (c : Nat → Int) : nextCall (stC 1 m v9 c 0 2) = some (20, [qA (c 5)]) := by kernel_rfl
theorem eqC102 (m : Nat) (v9 : V) (c : Nat → Int) : stC 1 m v9 c 0 2 = setE0 (qA (c 5)) (stC 1 m v9 c 0 2) := by kernel_rfl
theorem leaf102 (m : Nat) (v9 : V) (c : Nat → Int) (v' : V) : qs.map (leafL 1 m v9 c 0 2 v') = qs.map (leafR 1 m v9 c 0 2 v') := by kernel_rfl
theorem argC110 (m : Nat) (v9 : V) (c : Nat → Int) : nextCall (stC 1 m v9 c 1 0) = some (20, [qA (c 5)]) := by kernel_rfl
theorem eqC110 (m : Nat) (v9 : V) (c : Nat → Int) : stC 1 m v9 c 1 0 = setE0 (qA (c 5)) (stC 1 m v9 c 1 0) := by kernel_rfl
theorem leaf110 (m : Nat) (v9 : V) (c : Nat → Int) (v' : V) : qs.map (leafL 1 m v9 c 1 0 v') = qs.map (leafR 1 m v9 c 1 0 v') := by kernel_rfl
theorem argC111 (m : Nat) (v9 : V) (c : Nat → Int) : nextCall (stC 1 m v9 c 1 1) = some (20, [qA (c 5)]) := by kernel_rfl
theorem eqC111 (m : Nat) (v9 : V) (c : Nat → Int) : stC 1 m v9 c 1 1 = setE0 (qA (c 5)) (stC 1 m v9 c 1 1) := by kernel_rfl
theorem leaf111 (m : Nat) (v9 : V) (c : Nat → Int) (v' : V) : qs.map (leafL 1 m v9 c 1 1 v') = qs.map (leafR 1 m v9 c 1 1 v') := by kernel_rfl
theorem argC120 (m : Nat) (v9 : V) (c : Nat → Int) : nextCall (stC 1 m v9 c 2 0) = some (20, [qA (c 5)]) := by kernel_rfl
theorem eqC120 (m : Nat) (v9 : V) (c : Nat → Int) : stC 1 m v9 c 2 0 = setE0 (qA (c 5)) (stC 1 m v9 c 2 0) := by kernel_rfl
theorem leaf120 (m : Nat) (v9 : V) (c : Nat → Int) (v' : V) : qs.map (leafL 1 m v9 c 2 0 v') = qs.map (leafR 1 m v9 c 2 0 v') := by kernel_rfl
end Go.AM
end
end
