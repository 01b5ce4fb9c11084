/- The runs of the sum of two small whole rationals. -/
import Derived.Test.YtfhfilkicbdboaaGreatAm14
import Derived.KernelRfl
section
noncomputable section
namespace Go.AM
open Go.Proofs
open Go.RowKit (Below)

/-- a block of which one word is known -/
def wb (n : Nat) : O := .win [.int .u32 (.ofNat n)]
def hRat (a b : Nat) : H := T.put (pth 3) (some (wb 1)) (T.put (pth 2) (some (wb b)) (T.put (pth 1) (some (wb 1)) (T.put (pth 0) (some (wb a)) .e)))
/-- a whole rational in memory -/
def rat (s : Bool) (p q : Nat) : V := .ag [.bl s, .so (pth p) 0 1, .bl false, .so (pth q) 0 1]
/-- the first word of a block -/
def wordAt (h : H) (p : Pth) : Nat := match T.get p h with
  | some o => match cellsOf o with
    | some l => match l with
      | v :: _ => match v with
        | .int k n => match k with
          | .u32 => Int.rec (motive := fun _ => Nat) (fun a => a) (fun _ => 0) n
          | _ => 0
        | _ => 0
      | [] => 0
    | none => 0
  | none => 0
def newB (z : H) (p : Pth) : Bool := match T.get p z with | none => true | some _ => false
/-- a sum: its numerator is nothing, or one new word up to N; the denominator is the word 1 -/
def sumOk (z : H) (N : Nat) (v : V) (h : H) : Bool := match v with
  | .ag [.bl s, x, .bl false, .sl q 0 1 1] => bc (newB z q) (bc (Nat.beq (wordAt h q) 1) (match x with
    | .s0 => bc s false true
    | .sl p 0 1 1 => bc (newB z p) (bc (Nat.ble 1 (wordAt h p)) (bc (Nat.ble (wordAt h p) N) (bc (eqP p q) false true) false) false) false
    | _ => false) false) false
  | _ => false
def bools (φ : Bool → Bool) : Bool := bc (φ false) (φ true) false
theorem add_run : allF (fun a => allF (fun b => bools fun s => bools fun t =>
    runC W0 35 [rat s 0 1, rat t 2 3] (hRat (a + 1) (b + 1)) 4 noHold noAns (fun v h _ => sumOk (hRat (a + 1) (b + 1)) (a + b + 2) v h) 12 1) (below 3)) (below 6) = true := by kernel_rfl
end Go.AM
end
end
