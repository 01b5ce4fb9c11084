/- The contracts of abs and Cmp. -/
import Derived.Test.YtfhfilkicbdboaaGreatAm11
import Derived.Test.YtfhfilkicbdboaaGreatAmGood
import Derived.KernelRfl
section
noncomputable section
namespace Go.AM
open Go.Proofs
open Go.RowKit (Below)

/-- the number i below 0 by 128 -/
def i8 (i : Nat) : Int := iadd (.ofNat i) (.negSucc 127)
def natAbs (n : Int) : Nat := Int.rec (motive := fun _ => Nat) (fun a => a) (fun a => Nat.succ a) n
def below (n : Nat) : List Nat := Nat.rec (motive := fun _ => List Nat) [] (fun k l => k :: l) n
def isInt (k : IntKind) (m : Int) (v : V) : Bool := match v with | .int j x => bc (eqK j k) (ieq x m) false | _ => false
def allF (φ : Nat → Bool) (l : List Nat) : Bool := List.rec (motive := fun _ => Bool) true (fun x _ r => bc (φ x) r false) l
theorem abs_run : allF (fun i => runC W0 17 [.int .i8 (i8 i)] .e 0 noHold noAns (fun v _ _ => isInt .i64 (.ofNat (natAbs (i8 i))) v) 7 1) (below 256) = true := by kernel_rfl
/-- tests that are taken both ways: a < b, a > b -/
def cmpHold : Hold := ⟨[], [(34, 16), (34, 23)], fun _ => false⟩
def cmpFin (v : V) : Bool := bc (isInt .i64 (.negSucc 0) v) true (bc (isInt .i64 (.ofNat 0) v) true (isInt .i64 (.ofNat 1) v))
def eight (f : Nat → Int) : List V := [.int .i64 (f 0), .int .i64 (f 1), .int .i64 (f 2), .int .i64 (f 3), .int .i64 (f 4), .int .i64 (f 5), .int .i64 (f 6), .int .i64 (f 7)]
theorem cmp_run (f g : Nat → Int) : runC W0 34 [.ag (eight f), .ag (eight g)] .e 0 cmpHold noAns (fun v _ _ => cmpFin v) 8 30 = true := by kernel_rfl
end Go.AM
end
end
