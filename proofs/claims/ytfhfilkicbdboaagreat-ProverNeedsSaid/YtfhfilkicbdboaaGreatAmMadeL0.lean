/- The rounds of Made from the first call of Whole on. -/
import Derived.Test.YtfhfilkicbdboaaGreatAm16
import Derived.KernelRfl
section
noncomputable section
namespace Go.AM
theorem argC000 (m : Nat) (v9 : V) (c : Nat → Int) : nextCall (stC 0 m v9 c 0 0) = some (20, [qA (c 0)]) := by kernel_rfl
theorem eqC000 (m : Nat) (v9 : V) (c : Nat → Int) : stC 0 m v9 c 0 0 = setE0 (qA (c 0)) (stC 0 m v9 c 0 0) := by kernel_rfl
theorem leaf000 (m : Nat) (v9 : V) (c : Nat → Int) (v' : V) : qs.map (leafL 0 m v9 c 0 0 v') = qs.map (leafR 0 m v9 c 0 0 v') := by kernel_rfl
theorem argC001 (m : Nat) (v9 : V) (c : Nat → Int) : nextCall (stC 0 m v9 c 0 1) = some (20, [qA (c 0)]) := by kernel_rfl
theorem eqC001 (m : Nat) (v9 : V) (c : Nat → Int) : stC 0 m v9 c 0 1 = setE0 (qA (c 0)) (stC 0 m v9 c 0 1) := by kernel_rfl
theorem leaf001 (m : Nat) (v9 : V) (c : Nat → Int) (v' : V) : qs.map (leafL 0 m v9 c 0 1 v') = qs.map (leafR 0 m v9 c 0 1 v') := by kernel_rfl
theorem argC002 (m : Nat) (v9 : V) (c : Nat → Int) : nextCall (stC 0 m v9 c 0 2) = some (20, [qA (c 0)]) := by kernel_rfl
theorem eqC002 (m : Nat) (v9 : V) (c : Nat → Int) : stC 0 m v9 c 0 2 = setE0 (qA (c 0)) (stC 0 m v9 c 0 2) := by kernel_rfl
theorem leaf002 (m : Nat) (v9 : V) (c : Nat → Int) (v' : V) : qs.map (leafL 0 m v9 c 0 2 v') = qs.map (leafR 0 m v9 c 0 2 v') := by kernel_rfl
theorem argC010 (m : Nat) (v9 : V) (c : Nat → Int) : nextCall (stC 0 m v9 c 1 0) = some (20, [qA (c 0)]) := by kernel_rfl
theorem eqC010 (m : Nat) (v9 : V) (c : Nat → Int) : stC 0 m v9 c 1 0 = setE0 (qA (c 0)) (stC 0 m v9 c 1 0) := by kernel_rfl
theorem leaf010 (m : Nat) (v9 : V) (c : Nat → Int) (v' : V) : qs.map (leafL 0 m v9 c 1 0 v') = qs.map (leafR 0 m v9 c 1 0 v') := by kernel_rfl
theorem argC011 (m : Nat) (v9 : V) (c : Nat → Int) : nextCall (stC 0 m v9 c 1 1) = some (20, [qA (c 0)]) := by kernel_rfl
theorem eqC011 (m : Nat) (v9 : V) (c : Nat → Int) : stC 0 m v9 c 1 1 = setE0 (qA (c 0)) (stC 0 m v9 c 1 1) := by kernel_rfl
theorem leaf011 (m : Nat) (v9 : V) (c : Nat → Int) (v' : V) : qs.map (leafL 0 m v9 c 1 1 v') = qs.map (leafR 0 m v9 c 1 1 v') := by kernel_rfl
theorem argC020 (m : Nat) (v9 : V) (c : Nat → Int) : nextCall (stC 0 m v9 c 2 0) = some (20, [qA (c 0)]) := by kernel_rfl
theorem eqC020 (m : Nat) (v9 : V) (c : Nat → Int) : stC 0 m v9 c 2 0 = setE0 (qA (c 0)) (stC 0 m v9 c 2 0) := by kernel_rfl
theorem leaf020 (m : Nat) (v9 : V) (c : Nat → Int) (v' : V) : qs.map (leafL 0 m v9 c 2 0 v') = qs.map (leafR 0 m v9 c 2 0 v') := by kernel_rfl
end Go.AM
end
end
