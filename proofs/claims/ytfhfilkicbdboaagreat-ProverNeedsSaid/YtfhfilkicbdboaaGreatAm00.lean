/- Parts of the proof, joined: AmData AmOps AmPlan. -/
import GoSem.Step
section
/- The data of an abstract machine that runs closed calls of the given program: numbered blocks, values without addresses of the memory, lists. -/
noncomputable section
namespace Go.AM

/-- a number's binary digits: the way to its place in a tree -/
inductive Pth where | z | l (p : Pth) | r (p : Pth)
def pthF (k : Nat) : Nat → Pth :=
  Nat.rec (motive := fun _ => Nat → Pth) (fun _ => .z)
    (fun _ ih n => Nat.rec (motive := fun _ => Pth) .z (fun m _ => Bool.rec (motive := fun _ => Pth) (.r (ih (Nat.div m 2))) (.l (ih (Nat.div m 2))) (Nat.beq (Nat.mod m 2) 0)) n) k
def pth (n : Nat) : Pth := pthF (Nat.succ n) n
def eqP (p : Pth) : Pth → Bool :=
  Pth.rec (motive := fun _ => Pth → Bool)
    (fun q => Pth.rec (motive := fun _ => Bool) true (fun _ _ => false) (fun _ _ => false) q)
    (fun _ ih q => Pth.rec (motive := fun _ => Bool) false (fun q' _ => ih q') (fun _ _ => false) q)
    (fun _ ih q => Pth.rec (motive := fun _ => Bool) false (fun _ _ => false) (fun q' _ => ih q') q) p

inductive T (α : Type) where | e | n (v : Option α) (l r : T α)
namespace T
variable {α : Type}
def val (t : T α) : Option α := T.rec (motive := fun _ => Option α) none (fun v _ _ _ _ => v) t
def lt (t : T α) : T α := T.rec (motive := fun _ => T α) .e (fun _ l _ _ _ => l) t
def rt (t : T α) : T α := T.rec (motive := fun _ => T α) .e (fun _ _ r _ _ => r) t
def get (p : Pth) : T α → Option α :=
  Pth.rec (motive := fun _ => T α → Option α) (fun t => t.val) (fun _ ih t => ih t.lt) (fun _ ih t => ih t.rt) p
/-- looks at the node first -/
def put (p : Pth) : Option α → T α → T α :=
  Pth.rec (motive := fun _ => Option α → T α → T α)
    (fun v t => T.rec (motive := fun _ => T α) (.n v .e .e) (fun _ l r _ _ => .n v l r) t)
    (fun _ ih v t => T.rec (motive := fun _ => T α) (.n none (ih v .e) .e) (fun u l r _ _ => .n u (ih v l) r) t)
    (fun _ ih v t => T.rec (motive := fun _ => T α) (.n none .e (ih v .e)) (fun u l r _ _ => .n u l (ih v r)) t) p
/-- what lies at the places of another tree -/
def keep {β : Type} (m : T β) : T α → T α :=
  T.rec (motive := fun _ => T α → T α) (fun _ => .e)
    (fun v _ _ ihl ihr t => .n (Option.rec (motive := fun _ => Option α) none (fun _ => t.val) v) (ihl t.lt) (ihr t.rt)) m
end T

inductive V where
  | bl (b : Bool)
  | int (k : IntKind) (n : Int)
  | str (s : ByteArray)
  | p (b : Pth) (off : Nat)
  | p0
  | sl (b : Pth) (off len cap : Nat)
  | so (b : Pth) (off len : Nat)
  | sz (b : Pth) (alt off : Nat)
  | s0
  | mp (b : Pth)
  | m0
  | fn (f : FuncId) (fst cap : List V)
  | yl (b : Pth)
  | f0
  | ifc (t : TypeId) (v : V)
  | i0
  | ag (l : List V)
  | tu (l : List V)
abbrev undef : V := .tu []
/-- a deferred call -/
structure D where
  f : FuncId
  args : List V
/-- a block of the memory -/
inductive O where
  | cells (c : List V)
  | opn (esz : Nat) (c : List V)
  | win (c : List V)
  | map (es : List (V × V × Nat)) (clock : Nat)
  | mit (m : Pth) (since : Nat) (seen : List Nat) (stepped : Nat)
  | loop (st : LoopState) (pending : Option Code) (fn : FuncId) (tmps : T V) (params : List Tmp) (assign body : Code) (dfr : Pth)
  | dfr (calls : List D)
  | dfr0
abbrev H := T O
abbrev F := T V
abbrev E := List V
abbrev Q := E → F → Option V

/-- bind for options -/
def ob {α β : Type} (x : Option α) (f : α → Option β) : Option β := Option.rec (motive := fun _ => Option β) none f x
/-- a test -/
def bc {α : Type} (b : Bool) (x y : α) : α := Bool.rec (motive := fun _ => α) y x b

/-! lists -/
def nth (i : Nat) : E → Option V :=
  Nat.rec (motive := fun _ => E → Option V)
    (fun l => List.rec (motive := fun _ => Option V) none (fun x _ _ => some x) l)
    (fun _ ih l => List.rec (motive := fun _ => Option V) none (fun _ xs _ => ih xs) l) i
def ldrop (n : Nat) : List V → List V :=
  Nat.rec (motive := fun _ => List V → List V) (fun l => l) (fun _ ih l => List.rec (motive := fun _ => List V) [] (fun _ xs _ => ih xs) l) n
/-- just n elements -/
def ltake (n : Nat) : List V → Option (List V) :=
  Nat.rec (motive := fun _ => List V → Option (List V)) (fun _ => some [])
    (fun _ ih l => List.rec (motive := fun _ => Option (List V)) none (fun x xs _ => ob (ih xs) fun r => some (x :: r)) l) n
def lover (vs : List V) : List V → Option (List V) :=
  List.rec (motive := fun _ => List V → Option (List V)) (fun cs => some cs)
    (fun x _ ih cs => List.rec (motive := fun _ => Option (List V)) none (fun _ ds _ => ob (ih ds) fun r => some (x :: r)) cs) vs
/-- vs over the cells from n on -/
def lput (n : Nat) (vs : List V) : List V → Option (List V) :=
  Nat.rec (motive := fun _ => List V → Option (List V)) (lover vs)
    (fun _ ih cs => List.rec (motive := fun _ => Option (List V)) none (fun c ds _ => ob (ih ds) fun r => some (c :: r)) cs) n
def cellsOf (o : O) : Option (List V) := match o with
  | .cells c => some c
  | .opn _ c => some c
  | .win c => some c
  | _ => none
def rdN (h : H) (b : Pth) (off n : Nat) : Option (List V) := ob (T.get b h) fun o => ob (cellsOf o) fun c => ltake n (ldrop off c)
def rd1 (h : H) (b : Pth) (off : Nat) : Option V := ob (T.get b h) fun o => ob (cellsOf o) fun c => nth off c
def setCells (o : O) (c : List V) : O := match o with
  | .cells _ => .cells c
  | .opn e _ => .opn e c
  | .win _ => .win c
  | o => o
/-- cells hold no aggregates -/
def scalar (v : V) : Bool := match v with
  | .ag _ | .tu _ => false
  | _ => true
/-- of a block that may be written -/
def cellsW (o : O) : Option (List V) := match o with
  | .cells c => some c
  | .opn _ c => some c
  | _ => none
def wr (h : H) (b : Pth) (off : Nat) (vs : List V) : Option H :=
  bc (vs.all scalar) (ob (T.get b h) fun o => ob (cellsW o) fun c => ob (lput off vs c) fun c' => some (T.put b (some (setCells o c')) h)) none
def vcells (v : V) : List V := match v with
  | .ag l => l
  | v => [v]

/-! whole numbers -/
def ile (a b : Int) : Bool :=
  Int.rec (motive := fun _ => Bool)
    (fun m => Int.rec (motive := fun _ => Bool) (fun n => Nat.ble m n) (fun _ => false) b)
    (fun m => Int.rec (motive := fun _ => Bool) (fun _ => true) (fun n => Nat.ble n m) b) a
def ieq (a b : Int) : Bool :=
  Int.rec (motive := fun _ => Bool)
    (fun m => Int.rec (motive := fun _ => Bool) (fun n => Nat.beq m n) (fun _ => false) b)
    (fun m => Int.rec (motive := fun _ => Bool) (fun _ => false) (fun n => Nat.beq m n) b) a
/-- m - n of natural numbers -/
def nsub (m n : Nat) : Int := bc (Nat.ble n m) (.ofNat (Nat.sub m n)) (.negSucc (Nat.sub (Nat.sub n m) 1))
def iadd (a b : Int) : Int :=
  Int.rec (motive := fun _ => Int)
    (fun m => Int.rec (motive := fun _ => Int) (fun n => .ofNat (Nat.add m n)) (fun n => nsub m (Nat.succ n)) b)
    (fun m => Int.rec (motive := fun _ => Int) (fun n => nsub n (Nat.succ m)) (fun n => .negSucc (Nat.succ (Nat.add m n))) b) a
def ineg (a : Int) : Int := Int.rec (motive := fun _ => Int) (fun m => nsub 0 m) (fun m => .ofNat (Nat.succ m)) a
def imul (a b : Int) : Int :=
  Int.rec (motive := fun _ => Int)
    (fun m => Int.rec (motive := fun _ => Int) (fun n => .ofNat (Nat.mul m n)) (fun n => nsub 0 (Nat.mul m (Nat.succ n))) b)
    (fun m => Int.rec (motive := fun _ => Int) (fun n => nsub 0 (Nat.mul (Nat.succ m) n)) (fun n => .ofNat (Nat.mul (Nat.succ m) (Nat.succ n))) b) a
def wU (m : Nat) (k : IntKind) (n : Int) : Int := Int.rec (motive := fun _ => Int) (fun a => bc (Nat.ble a m) (.ofNat a) (k.wrap (.ofNat a))) (fun a => k.wrap (.negSucc a)) n
def wS (m : Nat) (k : IntKind) (n : Int) : Int :=
  Int.rec (motive := fun _ => Int) (fun a => bc (Nat.ble a m) (.ofNat a) (k.wrap (.ofNat a))) (fun a => bc (Nat.ble a m) (.negSucc a) (k.wrap (.negSucc a))) n
/-- the kind's wraparound -/
def wrp (k : IntKind) : Int → Int :=
  IntKind.rec (motive := fun _ => Int → Int) (wS 127 .i8) (wS 32767 .i16) (wS 2147483647 .i32) (wS 9223372036854775807 .i64) (wU 255 .u8) (wU 65535 .u16) (wU 4294967295 .u32) (wU 18446744073709551615 .u64) k
def kc (k : IntKind) : Nat := IntKind.rec (motive := fun _ => Nat) 0 1 2 3 4 5 6 7 k
def eqK (a b : IntKind) : Bool := Nat.beq (kc a) (kc b)
def eqB (a b : Bool) : Bool := bc a b (bc b false true)
end Go.AM
end
end
section
/- The abstract machine's operations: each is made once out of the program's own operation. -/
noncomputable section
namespace Go.AM

/-! types -/
/-- the program's tables as trees -/
structure Wd where
  types : T TypeInfo
  funcs : T Func
  /-- the slots that a frame of a function keeps -/
  keep : T (List Nat)
def Wd.inf (P : Wd) (t : TypeId) : Option TypeInfo := T.get (pth t) P.types
def Wd.und (P : Wd) (t : TypeId) : Option TypeDesc := match P.inf t with
  | some i => match i.desc with
    | .named _ u => match P.inf u with | some j => some j.desc | none => none
    | d => some d
  | none => none
def Wd.fun (P : Wd) (n : FuncId) : Option Func := T.get (pth n) P.funcs
def isAgg (P : Wd) (t : TypeId) : Bool := match P.und t with | some (.struct _) => true | some (.array _ _) => true | _ => false
def szOf (P : Wd) (t : TypeId) : Nat := match P.inf t with | some i => i.size | none => 0
/-- does the tables' tree hold the type, and what it is? -/
def okT (P : Wd) (t : TypeId) : Bool := match P.inf t, P.und t with | some _, some _ => true | _, _ => false

/-! constants -/
def cScalar : Value → Option V
  | .bool b => some (.bl b)
  | .int k n => some (.int k n)
  | .string s => some (.str s)
  | .pointer none => some .p0
  | .slice none 0 0 => some .s0
  | .map none => some .m0
  | .nilFunc => some .f0
  | .nilIface => some .i0
  | _ => none
def cList : List Value → Option (List V)
  | [] => some []
  | v :: vs => ob (cScalar v) fun x => ob (cList vs) fun xs => some (x :: xs)
def cV : Value → Option V
  | .agg cs => ob (cList cs.toList) fun l => some (.ag l)
  | v => cScalar v
def zeroC (P : Wd) (t : TypeId) : Option (List V) := ob (P.inf t) fun i => ob i.zero fun z => cList z.cells.toList
def zeroV (P : Wd) (t : TypeId) : Option V := ob (P.inf t) fun i => ob i.zero fun z => cV z

/-- a way to a value, made once -/
inductive Bx where | mk (q : Q)
def bx {α : Type} (b : Bx) (g : Q → α) : α := Bx.rec (motive := fun _ => α) g b

/-- values of a list of operands -/
def evs (qs : List Bx) : E → F → Option (List V) :=
  List.rec (motive := fun _ => E → F → Option (List V)) (fun _ _ => some []) (fun b _ ih => bx b fun q e f => ob (q e f) fun v => ob (ih e f) fun vs => some (v :: vs)) qs

inductive Tg where | fn (n : FuncId) (as : List V) | yl (b : Pth) (as : List V)
structure AV where
  v : V
  o : O
/-- what a loud operation leaves: the memory, the block that it wrote, a value -/
structure HV where
  h : H
  b : Option Pth
  v : V
structure HNV where
  h : H
  b : Option Pth
  nx : Nat
  v : V
inductive CO where
  | q (g : E → F → Option V)
  | m (g : E → F → H → Option V)
  | a (g : E → F → Pth → Option AV)
  | s (g : E → F → H → Option HV)
  | ap (g : E → F → H → Nat → Option HNV)
  | call (g : E → F → Option Tg)
  | dfr (g : E → F → Option D)
  | nx (g : E → F → Option V)
  | rc
  | bad

def onP {α : Type} (v : V) (g : Pth → Nat → Option α) : Option α := match v with | .p b off => g b off | _ => none
def onN {α : Type} (v : V) (g : Nat → Option α) : Option α := match v with | .int _ (.ofNat n) => g n | _ => none
def onAg {α : Type} (v : V) (g : List V → Option α) : Option α := match v with | .ag l => g l | _ => none

/-! two whole numbers -/
abbrev B2 := IntKind → Int → Int → Option V
/-- the greatest number of a kind -/
def hiK (k : IntKind) : Nat := IntKind.rec (motive := fun _ => Nat) 127 32767 2147483647 9223372036854775807 255 65535 4294967295 18446744073709551615 k
def nn (g : Nat → Nat → Nat) : B2 := fun k a b =>
  Int.rec (motive := fun _ => Option V) (fun m => Int.rec (motive := fun _ => Option V)
    (fun n => bc (Nat.ble m (hiK k)) (bc (Nat.ble n (hiK k)) (some (.int k (.ofNat (g m n)))) none) none) (fun _ => none) b) (fun _ => none) a
def eqL : List V → List V → Option Bool
  | [], [] => some true
  | .int k a :: xs, .int j b :: ys => bc (eqK k j) (ob (eqL xs ys) fun r => some (bc (ieq a b) r false)) none
  | _, _ => none
/-- == of two values of a type: with nil; bools; arrays of whole numbers -/
def eqD (P : Wd) (d : TypeDesc) (x y : V) : Option Bool := match d, x, y with
  | .bool, .bl a, .bl b => some (eqB a b)
  | .slice _, .s0, .s0 => some true
  | .slice _, .sl .., .s0 | .slice _, .so .., .s0 | .slice _, .sz .., .s0 | .slice _, .s0, .sl .. | .slice _, .s0, .so .. | .slice _, .s0, .sz .. => some false
  | .pointer _, .p0, .p0 => some true
  | .pointer _, .p .., .p0 | .pointer _, .p0, .p .. => some false
  | .func _ _ _, .f0, .f0 => some true
  | .func _ _ _, .f0, .fn .. | .func _ _ _, .fn .., .f0 | .func _ _ _, .f0, .yl .. | .func _ _ _, .yl .., .f0 => some false
  | .interface ms, .i0, .i0 => bc ms.isEmpty (some true) none
  | .interface _, .i0, .ifc .. | .interface _, .ifc .., .i0 => some false
  | .map _ _, .m0, .m0 => some true
  | .map _ _, .m0, .mp _ | .map _ _, .mp _, .m0 => some false
  | .array n el, .ag a, .ag b => match P.und el with
    | some (.int _) => bc (Nat.beq (szOf P el) 1) (bc (Nat.beq a.length n) (bc (Nat.beq b.length n) (eqL a b) none) none) none
    | _ => none
  | _, _, _ => none
def eqT (P : Wd) (t : TypeId) (x y : V) : Option Bool := match P.und t with | some d => eqD P d x y | none => none
def onInts (g : B2) (els : V → V → Option V) (x y : V) : Option V :=
  match x, y with
  | .int k a, .int j b => bc (eqK k j) (g k a b) none
  | x, y => els x y
def shf (g : B2) (x y : V) : Option V := match x, y with
  | .int k a, .int _ b => g k a b
  | _, _ => none
def noV : V → V → Option V := fun _ _ => none
def cBinV (P : Wd) (op : BinOp) (t : TypeId) : V → V → Option V := match op with
  | .add => onInts (fun k a b => some (.int k (wrp k (iadd a b)))) noV
  | .sub => onInts (fun k a b => some (.int k (wrp k (iadd a (ineg b))))) noV
  | .mul => onInts (fun k a b => some (.int k (wrp k (imul a b)))) noV
  | .quo => onInts (fun k a b => bc (ieq b (.ofNat 0)) none (some (.int k (wrp k (a.tdiv b))))) noV
  | .rem => onInts (fun k a b => bc (ieq b (.ofNat 0)) none (some (.int k (a.tmod b)))) noV
  | .eql => onInts (fun _ a b => some (.bl (ieq a b))) fun x y => ob (eqT P t x y) fun b => some (.bl b)
  | .neq => onInts (fun _ a b => some (.bl (bc (ieq a b) false true))) fun x y => ob (eqT P t x y) fun b => some (.bl (bc b false true))
  | .lss => onInts (fun _ a b => some (.bl (bc (ile b a) false true))) noV
  | .leq => onInts (fun _ a b => some (.bl (ile a b))) noV
  | .gtr => onInts (fun _ a b => some (.bl (bc (ile a b) false true))) noV
  | .geq => onInts (fun _ a b => some (.bl (ile b a))) noV
  | .and => onInts (nn Nat.land) noV
  | .or => onInts (nn Nat.lor) noV
  | .xor => onInts (nn Nat.xor) noV
  | .andNot => onInts (nn fun a b => Nat.sub a (Nat.land a b)) noV
  | .shl => shf fun k a b => Int.rec (motive := fun _ => Option V) (fun n => some (.int k (wrp k (imul a (.ofNat (Nat.pow 2 (Nat.min n k.bits))))))) (fun _ => none) b
  | .shr => shf fun k a b => Int.rec (motive := fun _ => Option V) (fun n => Int.rec (motive := fun _ => Option V) (fun m => some (.int k (.ofNat (Nat.div m (Nat.pow 2 (Nat.min n k.bits)))))) (fun _ => none) a) (fun _ => none) b
def cBin (P : Wd) (op : BinOp) (t : TypeId) (x y : Bx) : CO := bx x fun x => bx y fun y => .q fun e f => ob (x e f) fun a => ob (y e f) fun b => cBinV P op t a b

/-! reading and writing -/
def cLoad (P : Wd) (t : TypeId) (a : Bx) : CO := bx a fun a => bc (okT P t) (bc (isAgg P t)
  (.m fun e f h => ob (a e f) fun v => onP v fun b off => ob (rdN h b off (szOf P t)) fun l => some (.ag l))
  (.m fun e f h => ob (a e f) fun v => onP v fun b off => rd1 h b off)) .bad
def cStore (P : Wd) (t : TypeId) (a x : Bx) : CO := bx a fun a => bx x fun x => bc (okT P t)
  (.s fun e f h => ob (a e f) fun v => onP v fun b off => ob (x e f) fun u =>
    bc (Nat.beq (vcells u).length (szOf P t)) (ob (wr h b off (vcells u)) fun h' => some ⟨h', some b, undef⟩) none) .bad
def fieldInfo (P : Wd) (s : TypeId) (i : Nat) : Option (Nat × TypeId) :=
  match P.und s with
  | some (.struct fs) => match fs[i]? with | some f => some (f.offset, f.type) | none => none
  | _ => none
def cFieldAddr (P : Wd) (s : TypeId) (x : Bx) (i : Nat) : CO := bx x fun x =>
  match fieldInfo P s i with
  | some (o, t) => bc (Nat.beq (szOf P t) 0) .bad (.q fun e f => ob (x e f) fun v => onP v fun b off => some (.p b (Nat.add off o)))
  | none => .bad
def elemP (s : Nat) (v iv : V) : Option V := match v with
  | .sl b off n _ => onN iv fun m => bc (Nat.blt m n) (some (.p b (Nat.add off (Nat.mul m s)))) none
  | .so b off n => onN iv fun m => bc (Nat.blt m n) (some (.p b (Nat.add off (Nat.mul m s)))) none
  | _ => none
def cIndexAddr (P : Wd) (t : TypeId) (x i : Bx) : CO := bx x fun x => bx i fun i =>
  match P.und t with
  | some (.array n el) => bc (okT P el) (.q fun e f => ob (x e f) fun v => ob (i e f) fun iv => onP v fun b off => onN iv fun m => bc (Nat.blt m n) (some (.p b (Nat.add off (Nat.mul m (szOf P el))))) none) .bad
  | some (.slice el) => bc (okT P el) (.q fun e f => ob (x e f) fun v => ob (i e f) fun iv => elemP (szOf P el) v iv) .bad
  | _ => .bad
def partL (P : Wd) (t : TypeId) : List V → Nat → Option V :=
  bc (isAgg P t) (fun cs off => ob (ltake (szOf P t) (ldrop off cs)) fun l => some (.ag l)) (fun cs off => nth off cs)
def byteAt (i : Nat) : List UInt8 → Option UInt8
  | [] => none
  | x :: xs => match i with | 0 => some x | j + 1 => byteAt j xs
def cIndex (P : Wd) (t : TypeId) (x i : Bx) : CO := bx x fun x => bx i fun i =>
  match P.und t with
  | some (.array n el) => bc (okT P el) (.q fun e f => ob (x e f) fun v => ob (i e f) fun iv => onAg v fun cs => onN iv fun m => bc (Nat.blt m n) (partL P el cs (Nat.mul m (szOf P el))) none) .bad
  | some .string => .q fun e f => ob (x e f) fun v => ob (i e f) fun iv => match v with
      | .str s => onN iv fun m => ob (byteAt m s.data.toList) fun c => some (.int .u8 (.ofNat c.toNat))
      | _ => none
  | _ => .bad
def cField (P : Wd) (t : TypeId) (x : Bx) (i : Nat) : CO := bx x fun x =>
  match fieldInfo P t i with
  | some (o, ft) => bc (okT P ft) (.q fun e f => ob (x e f) fun v => onAg v fun cs => partL P ft cs o) .bad
  | none => .bad

/-! making -/
def fillL (place : Nat → Option (Nat × Nat)) (cs : List V) : List (Nat × V) → Option (List V)
  | [] => some cs
  | (i, v) :: rest => ob (place i) fun p => bc (Nat.beq (vcells v).length p.2) (ob (lput p.1 (vcells v) cs) fun cs' => fillL place cs' rest) none
def evp : List (Nat × Bx) → E → F → Option (List (Nat × V))
  | [], _, _ => some []
  | (i, q) :: qs, e, f => bx q fun q => ob (q e f) fun v => ob (evp qs e f) fun vs => some ((i, v) :: vs)
/-- the parts' types are held -/
def partsOk (P : Wd) (t : TypeId) : Bool := match P.und t with
  | some (.struct fs) => fs.toList.all fun f => okT P f.type
  | some (.array _ e) => okT P e
  | some (.slice e) => okT P e
  | _ => false
def place (P : Wd) (t : TypeId) (i : Nat) : Option (Nat × Nat) :=
  match P.und t with
  | some (.struct fs) => match fs[i]? with | some f => some (f.offset, szOf P f.type) | none => none
  | some (.array _ e) => some (i * szOf P e, szOf P e)
  | some (.slice e) => some (i * szOf P e, szOf P e)
  | _ => none
def cBuild (P : Wd) (t : TypeId) (parts : List (Nat × Bx)) : CO :=
  bc (isAgg P t) (bc (partsOk P t) (match zeroC P t with
    | some z => .q fun e f => ob (evp parts e f) fun ps => ob (fillL (place P t) z ps) fun l => some (.ag l)
    | none => .bad) .bad) .bad
def rep (z : List V) : Nat → List V
  | 0 => []
  | n + 1 => z ++ rep z n
/-- the cells of a zero value, just as many as the type has; no element is very large -/
def zeroN (P : Wd) (t : TypeId) : Option (List V) := ob (P.inf t) fun i => bc (Nat.ble i.bytes 65536) (ob (zeroC P t) fun z => bc (Nat.beq z.length (szOf P t)) (some z) none) none
def elemOf (P : Wd) (t : TypeId) : Option TypeId := match P.und t with | some (.slice e) => some e | _ => none
def cBuildSlice (P : Wd) (t : TypeId) (n : Nat) (parts : List (Nat × Bx)) : CO :=
  match elemOf P t with
  | some el => match zeroN P el with
    | some z => bc (okT P el) (bc (Nat.ble (n * szOf P el) 10000) (.a fun e f b => ob (evp parts e f) fun ps => ob (fillL (place P t) (rep z n) ps) fun l => bc (l.all scalar) (some ⟨.sl b 0 n n, .cells l⟩) none) .bad) .bad
    | none => .bad
  | none => .bad
def cMakeSlice (P : Wd) (t : TypeId) (l c : Bx) : CO := bx l fun l => bx c fun c =>
  match elemOf P t with
  | some el => match zeroN P el with
    | some z => .a fun e f b => ob (l e f) fun lv => onN lv fun n => ob (c e f) fun cv => onN cv fun m =>
        bc (Nat.ble n m) (bc (Nat.ble m 10000) (some ⟨.sl b 0 n m, .cells (rep z m)⟩) none) none
    | none => .bad
  | none => .bad
def cAlloc (P : Wd) (t : TypeId) : CO :=
  match zeroC P t with
  | some z => .a fun _ _ b => some ⟨.p b 0, .cells z⟩
  | none => .bad
def cBox (x : Bx) : CO := bx x fun x => .a fun e f b => ob (x e f) fun v => bc ((vcells v).all scalar) (some ⟨.p b 0, .cells (vcells v)⟩) none

/-! slicing -/
def optQ (o : Option Bx) (e : E) (f : F) : Option (Option V) := match o with
  | none => some none
  | some q => bx q fun q => ob (q e f) fun v => some (some v)
def bnd (d : Nat) (v : Option V) : Option Nat := match v with
  | none => some d
  | some w => onN w some
def slc (s : Nat) (x : V) (lo hi mx : Option V) : Option V :=
  match x with
  | .s0 => ob (bnd 0 mx) fun m => ob (bnd 0 lo) fun l => ob (bnd 0 hi) fun h => bc (Nat.beq (Nat.add m (Nat.add l h)) 0) (some .s0) none
  | .sl b off n c => ob (bnd c mx) fun m => ob (bnd n hi) fun h => ob (bnd 0 lo) fun l =>
      bc (Nat.ble m c) (bc (Nat.ble h m) (bc (Nat.ble l h) (some (.sl b (bc (Nat.beq m l) off (Nat.add off (Nat.mul l s))) (Nat.sub h l) (Nat.sub m l))) none) none) none
  | .so b off n => match mx with
    | some mv => ob (bnd 0 (some mv)) fun m => ob (bnd n hi) fun h => ob (bnd 0 lo) fun l =>
      bc (Nat.ble m n) (bc (Nat.ble h m) (bc (Nat.ble l h) (some (.sl b (bc (Nat.beq m l) off (Nat.add off (Nat.mul l s))) (Nat.sub h l) (Nat.sub m l))) none) none) none
    | none => ob (bnd n hi) fun h => ob (bnd 0 lo) fun l =>
      bc (Nat.ble l h) (bc (Nat.beq l 0) (some (.so b off h)) (bc (Nat.blt l n) (some (.so b (Nat.add off (Nat.mul l s)) (Nat.sub h l)))
        (bc (Nat.beq h l) (some (.sz b off (Nat.add off (Nat.mul l s)))) (some (.so b (Nat.add off (Nat.mul l s)) (Nat.sub h l)))))) none
  | _ => none
/-- a high bound within the known cells of an open block; the element's size is the block's -/
def hiOk (s : Nat) (h : H) (x : V) (hi : Option V) : Bool := match x with
  | .so b off n => match T.get b h with
      | some (.opn e c) => bc (Nat.beq e s) (match hi with
        | some (.int _ (.ofNat m)) => bc (Nat.ble m n) true (Nat.ble (Nat.add off (Nat.mul m s)) c.length)
        | _ => true) false
      | _ => false
  | _ => true
/-- no third bound without the second -/
def hm {α : Type} (h m : Option α) : Bool := match h, m with
  | none, some _ => false
  | _, _ => true
def cSlice (P : Wd) (t : TypeId) (x : Bx) (l h m : Option Bx) : CO := bc (hm h m) (bx x fun x =>
  match P.und t with
  | some (.slice el) => bc (okT P el) (.m fun e f hp => ob (x e f) fun xv => ob (optQ l e f) fun lv => ob (optQ h e f) fun hv => ob (optQ m e f) fun mv =>
        bc (hiOk (szOf P el) hp xv hv) (slc (szOf P el) xv lv hv mv) none) .bad
  | some (.array n el) => bc (okT P el) (.q fun e f => ob (x e f) fun xv => onP xv fun b off => ob (optQ l e f) fun lv => ob (optQ h e f) fun hv => ob (optQ m e f) fun mv => slc (szOf P el) (.sl b off n n) lv hv mv) .bad
  | _ => .bad) .bad

/-! numbers, tests -/
def cConvert (P : Wd) (s d : TypeId) (x : Bx) : CO := bx x fun x =>
  match P.und d, P.und s with
  | some (.int k), some _ => .q fun e f => ob (x e f) fun v => match v with | .int _ n => some (.int k (wrp k n)) | _ => none
  | _, _ => .bad
def cUn (op : UnOp) (x : Bx) : CO := bx x fun x => match op with
  | .not => .q fun e f => ob (x e f) fun v => match v with | .bl b => some (.bl (bc b false true)) | _ => none
  | .neg => .q fun e f => ob (x e f) fun v => match v with | .int k n => some (.int k (wrp k (ineg n))) | _ => none
  | .xor => .q fun e f => ob (x e f) fun v => match v with | .int k n => bc k.signed none (nn Nat.xor k (.ofNat (hiK k)) n) | _ => none
  | _ => .bad
def nilOk (v : V) : Bool := match v with
  | .p .. | .fn .. | .yl .. | .ifc .. => true
  | _ => false
def cPick (c a b : Bx) : CO := bx c fun c => bx a fun a => bx b fun b => .q fun e f => ob (c e f) fun v => match v with | .bl t => bc t (a e f) (b e f) | _ => none

/-! maps: keys are whole numbers, or arrays of whole numbers -/
def keyEq (a b : V) : Option Bool := match a, b with
  | .int k x, .int j y => bc (eqK k j) (some (ieq x y)) none
  | .ag x, .ag y => eqL x y
  | _, _ => none
def keyOk (P : Wd) (t : TypeId) (k : V) : Bool := match P.und t, k with
  | some (.int _), .int _ _ => true
  | some (.array n el), .ag l => match P.und el with
    | some (.int _) => bc (Nat.beq l.length n) (bc (Nat.ble n 100) (bc (Nat.beq (szOf P el) 1) (l.all fun v => match v with | .int _ _ => true | _ => false) false) false) false
    | _ => false
  | _, _ => false
def mfind (k : V) : List (V × V × Nat) → Option (Option V)
  | [] => some none
  | (x, v, _) :: es => ob (keyEq k x) fun b => bc b (some (some v)) (mfind k es)
def mset (k v : V) (n : Nat) : List (V × V × Nat) → Option (List (V × V × Nat) × Nat)
  | [] => some ([(k, v, n)], n + 1)
  | (x, u, i) :: es => ob (keyEq k x) fun b => bc b (some ((k, v, i) :: es, n)) (ob (mset k v n es) fun r => some ((x, u, i) :: r.1, r.2))
def mapTypes (P : Wd) (t : TypeId) : Option (TypeId × TypeId) := match P.und t with | some (.map k e) => some (k, e) | _ => none
def onMap {α : Type} (h : H) (v : V) (g : Pth → List (V × V × Nat) → Nat → Option α) : Option α := match v with
  | .mp b => ob (T.get b h) fun o => match o with | .map es c => g b es c | _ => none
  | _ => none
def cLookup (P : Wd) (t : TypeId) (x i : Bx) (ok : Bool) : CO := bx x fun x => bx i fun i =>
  match mapTypes P t with
  | some (kt, el) => match zeroV P el with
    | some z => .m fun e f h => ob (x e f) fun v => ob (i e f) fun k => bc (keyOk P kt k) (onMap h v fun _ es _ => ob (mfind k es) fun r =>
        match r with
        | some v => some (bc ok (.tu [v, .bl true]) v)
        | none => some (bc ok (.tu [z, .bl false]) z)) none
    | none => .bad
  | none => .bad
def cMapSet (P : Wd) (t : TypeId) (m k v : Bx) : CO := bx m fun m => bx k fun k => bx v fun v =>
  match mapTypes P t with
  | some (kt, _) => .s fun e f h => ob (m e f) fun mv => ob (k e f) fun kv => ob (v e f) fun x => bc (keyOk P kt kv)
      (onMap h mv fun b es c => ob (mset kv x c es) fun r => some ⟨T.put b (some (.map r.1 r.2)) h, some b, undef⟩) none
  | none => .bad
def cRange (P : Wd) (t : TypeId) (x : Bx) : CO := bx x fun x => match mapTypes P t with
  | none => .bad
  | some _ => .ap fun e f h nx => ob (x e f) fun v => onMap h v fun b _ c =>
  some ⟨T.put (pth nx) (some (.mit b c [] c)) h, none, Nat.succ nx, .p (pth nx) 0⟩
def lastN : List Nat → Option Nat
  | [] => none
  | [x] => some x
  | _ :: xs => lastN xs
def mborn (n : Nat) : List (V × V × Nat) → Option V
  | [] => none
  | (k, v, i) :: es => bc (Nat.beq i n) (some (.tu [k, v])) (mborn n es)
def cEntry (x : Bx) : CO := bx x fun x => .m fun e f h => ob (x e f) fun v => onP v fun b off => bc (Nat.beq off 0)
  (ob (T.get b h) fun o => match o with
    | .mit m _ seen stepped => ob (lastN seen) fun n => ob (T.get m h) fun o' => match o' with
      | .map es c => bc (Nat.beq c stepped) (mborn n es) none
      | _ => none
    | _ => none) none

/-! len, min, max, append, copy, clear -/
def lenV (h : H) (x : V) : Option Nat := match x with
  | .sl _ _ n _ => some n
  | .so _ _ n => some n
  | .sz .. | .s0 => some 0
  | .m0 => some 0
  | .mp b => ob (T.get b h) fun o => match o with | .map es _ => some es.length | _ => none
  | _ => none
/-- of a slice alone -/
def lenW (h : H) (x : V) : Option Nat := match x with
  | .sl .. | .so .. | .sz .. | .s0 => lenV h x
  | _ => none
def lenS (h : H) (x : V) : Option Nat := match x with
  | .str s => some s.data.toList.length
  | x => lenV h x
def kindOk (d : TypeDesc) (x : V) : Bool := match d, x with
  | .slice _, .sl .. | .slice _, .so .. | .slice _, .sz .. | .slice _, .s0 | .string, .str _ | .map _ _, .m0 | .map _ _, .mp _ => true
  | _, _ => false
def cLen (P : Wd) (ts : Array TypeId) (as : List Bx) : CO :=
  match ts.toList, as with
  | t :: _, x :: _ => bx x fun x => match P.und t with
    | some (.array n _) => .q fun e f => ob (x e f) fun _ => some (.int .i64 (.ofNat n))
    | some d => .m fun e f h => ob (x e f) fun v => bc (kindOk d v) (ob (lenS h v) fun n => some (.int .i64 (.ofNat n))) none
    | none => .bad
  | _, _ => .bad
def mx2 (a b : V) : Option V := match a, b with
  | .int k x, .int _ y => some (.int k (bc (ile y x) x y))
  | _, _ => none
def mn2 (a b : V) : Option V := match a, b with
  | .int k x, .int _ y => some (.int k (bc (ile x y) x y))
  | _, _ => none
def fold2 (g : V → V → Option V) : V → List V → Option V
  | x, [] => some x
  | x, y :: ys => ob (g x y) fun z => fold2 g z ys
def cMM (g : V → V → Option V) (as : List Bx) : CO := .q fun e f => ob (evs as e f) fun vs => match vs with
  | x :: xs => fold2 g x xs
  | [] => none
def firsts (s : Nat) (h : H) (x : V) (n : Nat) : Option (List V) := match x with
  | .sl b off _ _ => rdN h b off (Nat.mul n s)
  | .so b off _ => rdN h b off (Nat.mul n s)
  | .sz .. | .s0 => bc (Nat.beq n 0) (some []) none
  | _ => none
def newO (h : H) (k : Option Pth) (nx : Nat) (s : Nat) (c : List V) (n : Nat) : Option HNV :=
  bc (Nat.ble n 10000) (some ⟨T.put (pth nx) (some (.opn s c)) h, k, Nat.succ nx, .so (pth nx) 0 n⟩) none
def lenOk (x : V) : Bool := match x with
  | .sl _ _ l c => Nat.ble l c
  | .so .. | .sz .. | .s0 => true
  | _ => false
def app (s : Nat) (x : V) (n : Nat) (new : List V) (h : H) (nx : Nat) : Option HNV :=
  bc (Nat.beq n 0) (bc (lenOk x) (some ⟨h, none, nx, x⟩) none) (match x with
    | .s0 => newO h none nx s new n
    | .sl b off l c => bc (Nat.ble (Nat.add l n) c)
        (ob (wr h b (Nat.add off (Nat.mul l s)) new) fun h' => some ⟨h', some b, nx, .sl b off (Nat.add l n) c⟩)
        (ob (rdN h b off (Nat.mul l s)) fun old => newO h none nx s (old ++ new) (Nat.add l n))
    | .so b off l => ob (T.get b h) fun o => match o with
      | .opn e c => bc (Nat.beq e s) (bc (Nat.ble (Nat.add off (Nat.mul (Nat.add l n) s)) c.length)
        (ob (wr h b (Nat.add off (Nat.mul l s)) new) fun h' => some ⟨h', some b, nx, .so b off (Nat.add l n)⟩)
        (bc (Nat.beq off 0) (bc (Nat.beq (Nat.mul l s) c.length) (bc (new.all scalar) (newO (T.put b none h) (some b) nx s (c ++ new) (Nat.add l n)) none) none) none)) none
      | _ => none
    | _ => none)
def cAppend (P : Wd) (ts : Array TypeId) (as : List Bx) : CO :=
  match ts.toList, as with
  | t :: u :: _, x :: y :: _ => bx x fun x => bx y fun y => match elemOf P t, elemOf P u with
    | some el, some _ => match zeroN P el with
      | some _ => bc (okT P el) (bc (Nat.beq (szOf P el) 0) .bad (.ap fun e f h nx => ob (x e f) fun xv => ob (y e f) fun yv => ob (lenW h yv) fun n => ob (firsts (szOf P el) h yv n) fun new =>
        app (szOf P el) xv n new h nx)) .bad
      | none => .bad
    | _, _ => .bad
  | _, _ => .bad
def wrS (h : H) (x : V) (vs : List V) : Option (H × Option Pth) := match vs with
  | [] => some (h, none)
  | _ :: _ => match x with
    | .sl b off _ _ => ob (wr h b off vs) fun h' => some (h', some b)
    | .so b off _ => ob (wr h b off vs) fun h' => some (h', some b)
    | _ => none
def cCopy (P : Wd) (ts : Array TypeId) (as : List Bx) : CO :=
  match ts.toList, as with
  | t :: _, x :: y :: _ => bx x fun x => bx y fun y => match elemOf P t with
    | some el => bc (okT P el) (.s fun e f h => ob (x e f) fun xv => ob (y e f) fun yv => ob (lenW h xv) fun m => ob (lenW h yv) fun n =>
          ob (firsts (szOf P el) h yv (Nat.min n m)) fun new => ob (wrS h xv new) fun h' => some ⟨h'.1, h'.2, .int .i64 (.ofNat (Nat.min n m))⟩) .bad
    | none => .bad
  | _, _ => .bad
def cClear (P : Wd) (ts : Array TypeId) (as : List Bx) : CO :=
  match ts.toList, as with
  | t :: _, x :: _ => bx x fun x => match elemOf P t with
    | some el => match zeroN P el with
      | some z => bc (okT P el) (.s fun e f h => ob (x e f) fun xv => ob (lenW h xv) fun n => ob (wrS h xv (rep z n)) fun h' => some ⟨h'.1, h'.2, undef⟩) .bad
      | none => .bad
    | none => .bad
  | _, _ => .bad

/-! calls -/
def callV (v : V) (as : List V) : Option Tg := match v with
  | .fn n fst cap => some (.fn n (fst ++ (as ++ cap)))
  | .yl b => some (.yl b as)
  | _ => none
def dfrV (v : V) (as : List V) : Option D := match v with
  | .fn n fst cap => some ⟨n, fst ++ (as ++ cap)⟩
  | _ => none
def bxs (rs : Operand → Bx) (os : List Operand) : List Bx := match os with
  | [] => []
  | o :: os => rs o :: bxs rs os
def bxps (rs : Operand → Bx) (os : List (Nat × Operand)) : List (Nat × Bx) := match os with
  | [] => []
  | (i, o) :: os => (i, rs o) :: bxps rs os
def cCall (P : Wd) (rs : Operand → Bx) (c : Call) : CO :=
  match c.callee with
  | .value x => bx (rs x) fun q => .call fun e f => ob (q e f) fun v => ob (evs (bxs rs c.args.toList) e f) fun as => callV v as
  | .invoke _ _ => .bad
  | .builtin b => match b with
      | .len => cLen P c.argTypes (bxs rs c.args.toList)
      | .max => cMM mx2 (bxs rs c.args.toList)
      | .min => cMM mn2 (bxs rs c.args.toList)
      | .append => cAppend P c.argTypes (bxs rs c.args.toList)
      | .copy => cCopy P c.argTypes (bxs rs c.args.toList)
      | .clear => cClear P c.argTypes (bxs rs c.args.toList)
      | .recover => .rc
      | _ => .bad
def cDefer (rs : Operand → Bx) (c : Call) : CO :=
  match c.callee with
  | .value x => bx (rs x) fun q => .dfr fun e f => ob (q e f) fun v => ob (evs (bxs rs c.args.toList) e f) fun as => dfrV v as
  | _ => .bad
def cOp (P : Wd) (rs : Operand → Bx) (op : Op) : CO :=
  match op with
  | .move x | .assign x => bx (rs x) fun q => .q q
  | .pick c a b => cPick (rs c) (rs a) (rs b)
  | .alloc t => cAlloc P t
  | .box _ x => cBox (rs x)
  | .build t ps => cBuild P t (bxps rs ps.toList)
  | .buildSlice t n ps => cBuildSlice P t n (bxps rs ps.toList)
  | .load t a => cLoad P t (rs a)
  | .store t a x => cStore P t (rs a) (rs x)
  | .nilCheck x => bx (rs x) fun x => .q fun e f => ob (x e f) fun v => bc (nilOk v) (some v) none
  | .binOp op t x y _ => cBin P op t (rs x) (rs y)
  | .unOp op _ x => cUn op (rs x)
  | .convert s d x => cConvert P s d (rs x)
  | .makeInterface t x => bx (rs x) fun x => match P.und t with
    | some (.interface _) | none => .bad
    | _ => .q fun e f => ob (x e f) fun v => some (.ifc t v)
  | .makeFunc (.func n) fst cap => .q fun e f => ob (evs (bxs rs fst.toList) e f) fun us => ob (evs (bxs rs cap.toList) e f) fun vs => some (.fn n us vs)
  | .makeMap _ none => .a fun _ _ b => some ⟨.mp b, .map [] 0⟩
  | .makeSlice t l c => cMakeSlice P t (rs l) (rs c)
  | .slice t x l h m => cSlice P t (rs x) (l.map rs) (h.map rs) (m.map rs)
  | .fieldAddr s x i => cFieldAddr P s (rs x) i
  | .field t x i => cField P t (rs x) i
  | .indexAddr t x i => cIndexAddr P t (rs x) (rs i)
  | .index t x i => cIndex P t (rs x) (rs i)
  | .lookup t x i ok => cLookup P t (rs x) (rs i) ok
  | .mapUpdate t m k v | .insert t m k v => cMapSet P t (rs m) (rs k) (rs v)
  | .range t x => cRange P t (rs x)
  | .next x false => bx (rs x) fun x => .nx x
  | .entry x => cEntry (rs x)
  | .extract x i => bx (rs x) fun x => .q fun e f => ob (x e f) fun v => match v with | .tu vs => nth i vs | _ => none
  | .call c => cCall P rs c
  | .defer c => cDefer rs c
  | _ => .bad
end Go.AM
end
end
section
/- How a region of the program is worked off: one order, and what has to be looked at once more behind a call that Go does not order against a reading. -/
noncomputable section
namespace Go.AM

/-! operands: a place among the region's own values, a slot of the frame, a constant -/
def ixOf (t : Tmp) : List (Option Tmp) → Option Nat
  | [] => none
  | d :: ds => match d with
    | some u => bc (Nat.beq u t) (some 0) (match ixOf t ds with | some i => some (i + 1) | none => none)
    | none => match ixOf t ds with | some i => some (i + 1) | none => none
def n0 : Q := fun l _ => List.rec (motive := fun _ => Option V) none (fun x _ _ => some x) l
def n1 : Q := fun l f => List.rec (motive := fun _ => Option V) none (fun _ xs _ => n0 xs f) l
def n2 : Q := fun l f => List.rec (motive := fun _ => Option V) none (fun _ xs _ => n1 xs f) l
def n3 : Q := fun l f => List.rec (motive := fun _ => Option V) none (fun _ xs _ => n2 xs f) l
def cLoc (i : Nat) : Bx := match i with
  | 0 => .mk n0 | 1 => .mk n1 | 2 => .mk n2 | 3 => .mk n3
  | i => .mk fun l _ => nth i l
def cOpd (ds : List (Option Tmp)) (o : Operand) : Bx := match o with
  | .tmp t => match ixOf t ds with
    | some i => cLoc i
    | none => .mk fun _ f => T.get (pth t) f
  | .const v => .mk fun _ _ => cV v
  | .global _ => .mk fun _ _ => none
  | .func n => .mk fun _ _ => some (.fn n [] [])

/-! what stands before what -/
def memN (n : Nat) : List Nat → Bool
  | [] => false
  | m :: l => bc (Nat.beq n m) true (memN n l)
def getL {α : Type} (i : Nat) : List α → Option α
  | [] => none
  | x :: xs => match i with | 0 => some x | j + 1 => getL j xs
/-- the masks of the operations so far, the latest first -/
def edgeMask (i : Nat) (ms : List Nat) : List Edge → Option Nat
  | [] => some 0
  | e :: es => ob (edgeMask i ms es) fun m => bc (Region.binds .any e) (bc (Nat.blt e.on i) (ob (getL (Nat.sub (Nat.sub i 1) e.on) ms) fun u => some (Nat.lor (Nat.lor (Nat.pow 2 e.on) u) m)) none) (some m)
def masks : Nat → List Nat → List Oper → Option (List Nat)
  | _, ms, [] => some ms
  | i, ms, o :: os => ob (edgeMask i ms o.after.toList) fun m => masks (i + 1) (m :: ms) os
def bitAt (m j : Nat) : Bool := Nat.beq (Nat.land (Nat.shiftRight m j) 1) 1
/-- what a region is looked at by: its operations, how many, the masks, whether the order is drawn -/
structure Rg where
  P : Wd
  ops : List Oper
  n : Nat
  ms : List Nat
  draw : Bool
def Rg.prec (g : Rg) (j i : Nat) : Bool := bc g.draw (match getL (Nat.sub (Nat.sub g.n 1) i) g.ms with | some m => bitAt m j | none => false) (Nat.blt j i)
def kindC (c : CO) : Nat := match c with
  | .q _ => 0 | .m _ => 1 | .a _ => 2 | _ => 3
def Rg.kind (g : Rg) (i : Nat) : Nat := match getL i g.ops with
  | some o => kindC (cOp g.P (fun _ => .mk fun _ _ => none) o.op)
  | none => 3
def Rg.loud (g : Rg) (i : Nat) : Bool := Nat.beq (g.kind i) 3
def Rg.dst (g : Rg) (i : Nat) : Option Tmp := match getL i g.ops with | some o => o.dst | none => none
def guardT (ops : List Oper) (o : Oper) : List Tmp := match o.guard with
  | none => []
  | some (j, _) => match getL j ops with
    | some p => match p.dst with | some d => [d] | none => []
    | none => []
def tmpsOf : List Operand → List Tmp
  | [] => []
  | o :: os => match o with | .tmp t => t :: tmpsOf os | _ => tmpsOf os
def Rg.reads (g : Rg) (i : Nat) : List Tmp := match getL i g.ops with
  | some o => guardT g.ops o ++ tmpsOf o.op.operands.toList
  | none => []
/-- the operation that writes a slot -/
def wrOf (t : Tmp) : Nat → List Oper → Option Nat
  | _, [] => none
  | i, o :: os => match o.dst with
    | some d => bc (Nat.beq d t) (some i) (wrOf t (i + 1) os)
    | none => wrOf t (i + 1) os
def Rg.writer (g : Rg) (t : Tmp) : Option Nat := wrOf t 0 g.ops
def Rg.lastLoud (g : Rg) : List Nat → Option Nat
  | [] => none
  | i :: is => bc (g.loud i) (some i) (g.lastLoud is)
/-- what stands behind an element -/
def behind (r : Nat) : List Nat → List Nat
  | [] => []
  | x :: xs => bc (Nat.beq x r) xs (behind r xs)
/-- what is to be looked at once more behind i: pre holds what was done before, the latest first -/
def Rg.again (g : Rg) (pre : List Nat) (i : Nat) : List Nat :=
  bc g.draw (bc (g.loud i) (pre.filter fun r => bc (Nat.beq (g.kind r) 1) (bc (g.prec r i) false true) false) []) []
def Rg.okRead (g : Rg) (pre : List Nat) (i : Nat) (t : Tmp) : Bool := match g.writer t with
  | none => true
  | some j => bc (Nat.beq j i) false (bc (memN j pre) (g.prec j i) (g.prec i j))
def Rg.okAgain (g : Rg) (pre : List Nat) (i r : Nat) (t : Tmp) : Bool := match g.writer t with
  | none => true
  | some j => bc (Nat.beq j i) false (bc (memN j pre) (memN j (behind r pre)) true)
def Rg.okAt (g : Rg) (pre : List Nat) (i : Nat) : Bool :=
  bc (Nat.blt i g.n) (bc (memN i pre) false
    (bc (match g.lastLoud pre with | none => true | some l => g.prec l i)
      (bc ((g.reads i).all (g.okRead pre i)) ((g.again pre i).all fun r => (g.reads r).all (g.okAgain pre i r)) false) false)) false
def Rg.okPre (g : Rg) : List Nat → List Nat → Bool
  | _, [] => true
  | pre, i :: is => bc (g.okAt pre i) (g.okPre (i :: pre) is) false
def okDst (nt : Nat) (all : List Oper) : Nat → List Oper → Bool
  | _, [] => true
  | i, o :: os => bc (match o.dst with
    | none => true
    | some d => bc (Nat.blt d nt) (match wrOf d 0 all with | some j => Nat.beq j i | none => false) false) (okDst nt all (i + 1) os) false
def upto' : Nat → List Nat
  | 0 => []
  | k + 1 => k :: upto' k
def Rg.ok (g : Rg) (nt : Nat) (ord : List Nat) : Bool :=
  bc (Nat.beq ord.length g.n) (bc (okDst nt g.ops 0 g.ops) (bc (g.okPre [] ord) ((upto' g.n).all fun i => memN i ord) false) false) false

/-- an order in which nothing that could go first waits for something loud -/
def subM (a b : Nat) : Bool := Nat.beq (Nat.lor a b) b
def pickR (loud : Bool) (g : Rg) (done : Nat) : List Nat → Option Nat
  | [] => none
  | i :: is => bc (match getL (Nat.sub (Nat.sub g.n 1) i) g.ms with | some m => bc (subM m done) (eqB (g.loud i) loud) false | none => false) (some i) (pickR loud g done is)
def without (i : Nat) : List Nat → List Nat
  | [] => []
  | x :: xs => bc (Nat.beq x i) xs (x :: without i xs)
def sched (g : Rg) : Nat → Nat → List Nat → List Nat
  | 0, _, _ => []
  | k + 1, done, rem => match pickR false g done rem with
    | some i => i :: sched g k (Nat.lor done (Nat.pow 2 i)) (without i rem)
    | none => match pickR true g done rem with
      | some i => i :: sched g k (Nat.lor done (Nat.pow 2 i)) (without i rem)
      | none => []
def upto : Nat → Nat → List Nat
  | _, 0 => []
  | i, k + 1 => i :: upto (i + 1) k

/-! the plan -/
inductive Gd where | yes | g (q : Q) (want : Bool) | no
inductive Kp where | no | at_ (p : Pth)
/-- one look more: where the value lies, the guard, the reading -/
inductive RK where | mk (pos : Nat) (gd : Gd) (g : E → F → H → Option V)
inductive PI where | mk (gd : Gd) (dst : Kp) (op : CO) (re : List RK)
def cGuard (ops : List Oper) (ds : List (Option Tmp)) (o : Oper) : Gd := match o.guard with
  | none => .yes
  | some (j, want) => match getL j ops with
    | some p => match p.dst with
      | some d => bx (cOpd ds (.tmp d)) fun q => .g q want
      | none => .no
    | none => .no
def cKeep (ks : List Nat) (d : Option Tmp) : Kp := match d with
  | none => .no
  | some t => bc (memN t ks) (.at_ (pth t)) .no
/-- where an element stands -/
def posOf (r : Nat) : List Nat → Nat
  | [] => 0
  | x :: xs => bc (Nat.beq x r) 0 (posOf r xs + 1)
def Rg.rk (g : Rg) (ds : List (Option Tmp)) (done : List Nat) (r : Nat) : RK := match getL r g.ops with
  | some o => match cOp g.P (cOpd ds) o.op with
    | .m f => .mk (posOf r done) (cGuard g.ops ds o) f
    | _ => .mk 0 .no fun _ _ _ => none
  | none => .mk 0 .no fun _ _ _ => none
def mapL {α β : Type} (f : α → β) : List α → List β
  | [] => []
  | x :: xs => f x :: mapL f xs
def Rg.pi (g : Rg) (ks : List Nat) (pre : List Nat) (ds : List (Option Tmp)) (i : Nat) : PI := match getL i g.ops with
  | some o => .mk (cGuard g.ops ds o) (cKeep ks o.dst) (cOp g.P (cOpd ds) o.op) (mapL (g.rk (o.dst :: ds) (i :: pre)) (g.again pre i))
  | none => .mk .no .no .bad []
def Rg.comp (g : Rg) (ks : List Nat) : List Nat → List (Option Tmp) → List Nat → List PI
  | _, _, [] => []
  | pre, ds, i :: is => g.pi ks pre ds i :: g.comp ks (i :: pre) (g.dst i :: ds) is
def keepOf (K : T (List Nat)) (n : FuncId) : List Nat := match T.get (pth n) K with | some l => l | none => []
def ntOf (P : Wd) (n : FuncId) : Nat := match P.fun n with | some fn => fn.ntmps | none => 0
def orderOf (g : Rg) : List Nat := bc g.draw (sched g g.n 0 (upto 0 g.n)) (upto 0 g.n)
/-- how many arguments a function takes, the variables that it closes over with them -/
def npOf (P : Wd) (n : FuncId) : Nat := match P.fun n with | some fn => Nat.add fn.params.size fn.nfree | none => 0
/-- the slots that walks over functions set -/
def rfC : Code → List Tmp
  | .seq a b => rfC a ++ rfC b
  | .cond _ a b => rfC a ++ rfC b
  | .block _ b => rfC b
  | .loop b => rfC b
  | .scope b => rfC b
  | .rangeFunc _ ps a b => ps.toList ++ (rfC a ++ rfC b)
  | _ => []
def rfOf (P : Wd) (n : FuncId) : List Tmp := match P.fun n with
  | some fn => match fn.body with | some c => rfC c | none => []
  | none => []
/-- a slot that is written and not kept is never held -/
def okKeep (ks rf : List Nat) (np : Nat) : List Oper → Bool
  | [] => true
  | o :: os => bc (match o.dst with | none => true | some t => bc (memN t ks) true (bc (Nat.ble np t) (bc (memN t rf) false true) false)) (okKeep ks rf np os) false
def okReg (P : Wd) (ks rf : List Nat) (np nt : Nat) (ops : Array Oper) (draw : Bool) : Bool := match masks 0 [] ops.toList with
  | none => false
  | some ms => match (⟨P, ops.toList, ops.toList.length, ms, draw⟩ : Rg) with
    | g => bc (okKeep ks rf np g.ops) (g.ok nt (orderOf g)) false
/-- all regions of a text -/
def okCode (P : Wd) (ks rf : List Nat) (np nt : Nat) : Code → Bool
  | .region _ ops draw => okReg P ks rf np nt ops draw
  | .seq a b => bc (okCode P ks rf np nt a) (okCode P ks rf np nt b) false
  | .cond _ a b => bc (okCode P ks rf np nt a) (okCode P ks rf np nt b) false
  | .block _ b => okCode P ks rf np nt b
  | .loop b => okCode P ks rf np nt b
  | .scope b => okCode P ks rf np nt b
  | .rangeFunc _ ps a b => bc (ps.toList.all fun t => memN t rf) (bc (okCode P ks rf np nt a) (okCode P ks rf np nt b) false) false
  | _ => true
def okIn (P : Wd) (n : FuncId) (c : Code) : Bool := okCode P (keepOf P.keep n) (rfOf P n) (npOf P n) (ntOf P n) c
/-- a function as a whole -/
def okFn (P : Wd) (n : FuncId) : Bool := match P.fun n with
  | some fn => match fn.body with | some c => bc (Nat.ble (npOf P n) (ntOf P n)) (okIn P n c) false | none => true
  | none => true
def plan (P : Wd) (n : FuncId) (ops : Array Oper) (draw : Bool) : List PI :=
  match masks 0 [] ops.toList with
  | none => [.mk .no .no .bad []]
  | some ms => match (⟨P, ops.toList, ops.toList.length, ms, draw⟩ : Rg) with
    | g => g.comp (keepOf P.keep n) [] [] (orderOf g)
end Go.AM
end
end
