/- The rounds of Made from the first call of Whole on. -/
import Derived.Test.YtfhfilkicbdboaaGreatAm16
import Derived.KernelRfl
section
noncomputable section
namespace Go.AM
theorem argC200 (m : Nat) (v9 : V) (c : Nat → Int) : nextCall (stC 2 m v9 c 0 0) = some (20, [qA (c 10)]) := by kernel_rfl
theorem eqC200 (m : Nat) (v9 : V) (c : Nat → Int) : stC 2 m v9 c 0 0 = setE0 (qA (c 10)) (stC 2 m v9 c 0 0) := by kernel_rfl
theorem leaf200 (m : Nat) (v9 : V) (c : Nat → Int) (v' : V) : qs.map (leafL 2 m v9 c 0 0 v') = qs.map (leafR 2 m v9 c 0 0 v') := by kernel_rfl
theorem argC201 (m : Nat) (v9 : V) (c : Nat → Int) : nextCall (stC 2 m v9 c 0 1) = some (20, [qA (c 10)]) := by kernel_rfl
theorem eqC201 (m : Nat) (v9 : V) (c : Nat → Int) : stC 2 m v9 c 0 1 = setE0 (qA (c 10)) (stC 2 m v9 c 0 1) := by kernel_rfl
theorem leaf201 (m : Nat) (v9 : V) (c : Nat → Int) (v' : V) : qs.map (leafL 2 m v9 c 0 1 v') = qs.map (leafR 2 m v9 c 0 1 v') := by kernel_rfl
theorem argC202 (m : Nat) (v9 : V) (c : Nat → Int) : nextCall (stC 2 m v9 c 0 2) = some (20, [qA (c 10)]) := by kernel_rfl
theorem eqC202 (m : Nat) (v9 : V) (c : Nat → Int) : stC 2 m v9 c 0 2 = setE0 (qA (c 10)) (stC 2 m v9 c 0 2) := by kernel_rfl
theorem leaf202 (m : Nat) (v9 : V) (c : Nat → Int) (v' : V) : qs.map (leafL 2 m v9 c 0 2 v') = qs.map (leafR 2 m v9 c 0 2 v') := by kernel_rfl
theorem argC210 (m : Nat) (v9 : V) (c : Nat → Int) : nextCall (stC 2 m v9 c 1 0) = some (20, [qA (c 10)]) := by kernel_rfl
theorem eqC210 (m : Nat) (v9 : V) (c : Nat → Int) : stC 2 m v9 c 1 0 = setE0 (qA (c 10)) (stC 2 m v9 c 1 0) := by kernel_rfl
theorem leaf210 (m : Nat) (v9 : V) (c : Nat → Int) (v' : V) : qs.map (leafL 2 m v9 c 1 0 v') = qs.map (leafR 2 m v9 c 1 0 v') := by kernel_rfl
theorem argC211 (m : Nat) (v9 : V) (c : Nat → Int) : nextCall (stC 2 m v9 c 1 1) = some (20, [qA (c 10)]) := by kernel_rfl
theorem eqC211 (m : Nat) (v9 : V) (c : Nat → Int) : stC 2 m v9 c 1 1 = setE0 (qA (c 10)) (stC 2 m v9 c 1 1) := by kernel_rfl
theorem leaf211 (m : Nat) (v9 : V) (c : Nat → Int) (v' : V) : qs.map (leafL 2 m v9 c 1 1 v') = qs.map (leafR 2 m v9 c 1 1 v') := by kernel_rfl
theorem argC220 (m : Nat) (v9 : V) (c : Nat → Int) : nextCall (stC 2 m v9 c 2 0) = some (20, [qA (c 10)]) := by kernel_rfl
theorem eqC220 (m : Nat) (v9 : V) (c : Nat → Int) : stC 2 m v9 c 2 0 = setE0 (qA (c 10)) (stC 2 m v9 c 2 0) := by kernel_rfl
theorem leaf220 (m : Nat) (v9 : V) (c : Nat → Int) (v' : V) : qs.map (leafL 2 m v9 c 2 0 v') = qs.map (leafR 2 m v9 c 2 0 v') := by kernel_rfl
end Go.AM
end
end
