/- Parts of the proof, joined: AmRun AmLaws AmConc AmRel AmMem. -/
import Derived.Test.YtfhfilkicbdboaaGreatAm00
import Derived.Laws.CopyRow
import Derived.Below
import Derived.Orders
section
/- The abstract machine: one step, many steps, and a call whose roads through a map's order are all taken. -/
noncomputable section
namespace Go.AM

mutual
def eqVV : V → V → Bool
  | .bl a, .bl b => eqB a b
  | .int k a, .int j b => bc (eqK k j) (ieq a b) false
  | .p b o, .p b' o' => bc (eqP b b') (Nat.beq o o') false
  | .p0, .p0 => true
  | .sl b o n c, .sl b' o' n' c' => bc (eqP b b') (bc (Nat.beq o o') (bc (Nat.beq n n') (Nat.beq c c') false) false) false
  | .so b o n, .so b' o' n' => bc (eqP b b') (bc (Nat.beq o o') (Nat.beq n n') false) false
  | .sz b a o, .sz b' a' o' => bc (eqP b b') (bc (Nat.beq a a') (Nat.beq o o') false) false
  | .s0, .s0 => true
  | .mp b, .mp b' => eqP b b'
  | .m0, .m0 => true
  | .fn n x y, .fn n' x' y' => bc (Nat.beq n n') (bc (eqVs x x') (eqVs y y') false) false
  | .yl b, .yl b' => eqP b b'
  | .f0, .f0 => true
  | .i0, .i0 => true
  | .ag l, .ag l' => eqVs l l'
  | .tu l, .tu l' => eqVs l l'
  | _, _ => false
def eqVs : List V → List V → Bool
  | [], [] => true
  | x :: xs, y :: ys => bc (eqVV x y) (eqVs xs ys) false
  | _, _ => false
end

inductive It where
  | code (c : Code)
  | blk (id : Nat)
  | lp (body : Code)
  | scp
  | plan (l : List PI) (e : E)
  | inRF (b : Pth)
  | endRF (b : Pth)
  | begR
  | ret
inductive Kd where | normal | deferred
inductive Df where
  | call (d : D)
  | coll (b : Pth)
structure Mt where
  fn : FuncId
  dfs : List Df
  kd : Kd
  rnd : Option Pth
structure Fr where
  f : F
  k : List It
  m : Mt
structure S where
  f : F
  k : List It
  m : Mt
  cs : List Fr
  h : H
  nx : Nat
inductive R where
  | go (s : S)
  | many (l : List S)
  | done (v : V) (h : H) (nx : Nat)
  | bad (n : Nat)
/-- what comes of a call all of whose roads agree: a value, and one new block -/
structure XR where
  v : V
  o : O
/-- what a run goes by: the program, which slots a frame keeps, which calls are taken on all roads, the blocks that may not be written -/
structure Cx where
  P : Wd
  ex : FuncId → Option (List V → H → Nat → Option XR)
  z : H

def oR {α : Type} (x : Option α) (n : Nat) (f : α → R) : R := Option.rec (motive := fun _ => R) (.bad n) f x
/-- may a block be written? -/
def frz (z : H) (b : Pth) : Bool := T.rec (motive := fun _ => Bool) true (fun _ _ _ _ _ => match T.get b z with | none => true | some _ => false) z
def frzO (z : H) (b : Option Pth) : Bool := Option.rec (motive := fun _ => Bool) true (fun b => frz z b) b
def putK (d : Kp) (v : V) (f : F) : F := Kp.rec (motive := fun _ => F) f (fun p => T.put p (some v) f) d
def plK (l : List PI) (e : E) (k : List It) : List It := List.rec (motive := fun _ => List It) k (fun _ _ _ => .plan l e :: k) l
def args2 : Nat → List V → F → F
  | _, [], f => f
  | i, v :: vs, f => args2 (i + 1) vs (T.put (pth i) (some v) f)
def bodyOf (P : Wd) (n : FuncId) : Option Code := match P.fun n with | some fn => fn.body | none => none
def enter (P : Wd) (n : FuncId) (as : List V) (kd : Kd) (cs : List Fr) (h : H) (nx : Nat) : R :=
  oR (bodyOf P n) 5 fun c => bc (Nat.ble as.length (npOf P n)) (.go ⟨args2 0 as .e, [.code c], ⟨n, [], kd, none⟩, cs, h, nx⟩) (.bad 5)
def bindP (nt : Nat) : List Tmp → List V → F → Option F
  | [], [], f => some f
  | t :: ts, v :: vs, f => bc (Nat.blt t nt) (bindP nt ts vs (T.put (pth t) (some v) f)) none
  | _, _, _ => none
def yieldTo (P : Wd) (cs : List Fr) (h : H) (nx : Nat) (b : Pth) (as : List V) : R :=
  match T.get b h with
  | some (.loop _ _ fn tm ps asg bd _) => match bindP (ntOf P fn) ps as tm with
    | some f => .go ⟨f, [.code asg, .begR, .code bd], ⟨fn, [], .normal, some b⟩, cs, h, nx⟩
    | none => .bad 33
  | _ => .bad 34

def wantB (v : V) (w : Bool) : Bool := match v with | .bl b => eqB b w | _ => false
/-- the looks once more -/
def chkRe (e : E) (f : F) (h : H) : List RK → Bool
  | [] => true
  | .mk pos gd g :: rs => bc (match gd with
    | .yes => match g e f h, nth pos e with | some v, some u => eqVV v u | _, _ => false
    | .g q w => match q e f with
      | some x => bc (wantB x w) (match g e f h, nth pos e with | some v, some u => eqVV v u | _, _ => false) true
      | none => false
    | .no => false) (chkRe e f h rs) false
/-- behind a loud operation -/
def after (re : List RK) (d : Kp) (l : List PI) (k : List It) (e : E) (f : F) (m : Mt) (cs : List Fr) (h : H) (nx : Nat) (v : V) : R :=
  List.rec (motive := fun _ => R) (.go ⟨putK d v f, plK l (v :: e) k, m, cs, h, nx⟩)
    (fun _ _ _ => bc (chkRe (v :: e) (putK d v f) h re) (.go ⟨putK d v f, plK l (v :: e) k, m, cs, h, nx⟩) (.bad 40)) re

abbrev Kt := List RK → Kp → List PI → List It → E → F → Mt → List Fr → H → Nat → PI → R
def dQ (g : E → F → Option V) : Kt := fun _ d l k e f m cs h nx _ => oR (g e f) 1 fun v => .go ⟨putK d v f, plK l (v :: e) k, m, cs, h, nx⟩
def dM (g : E → F → H → Option V) : Kt := fun _ d l k e f m cs h nx _ => oR (g e f h) 1 fun v => .go ⟨putK d v f, plK l (v :: e) k, m, cs, h, nx⟩
def dA (g : E → F → Pth → Option AV) : Kt := fun _ d l k e f m cs h nx _ => oR (g e f (pth nx)) 2 fun r =>
  .go ⟨putK d r.v f, plK l (r.v :: e) k, m, cs, T.put (pth nx) (some r.o) h, Nat.succ nx⟩
def dS (c : Cx) (g : E → F → H → Option HV) : Kt := fun re d l k e f m cs h nx _ => oR (g e f h) 3 fun r =>
  bc (frzO c.z r.b) (after re d l k e f m cs r.h nx r.v) (.bad 41)
def dAp (c : Cx) (g : E → F → H → Nat → Option HNV) : Kt := fun re d l k e f m cs h nx _ => oR (g e f h nx) 4 fun r =>
  bc (frzO c.z r.b) (after re d l k e f m cs r.h r.nx r.v) (.bad 41)
def dCall (c : Cx) (g : E → F → Option Tg) : Kt := fun re d l k e f m cs h nx pi => oR (g e f) 6 fun t =>
  Tg.rec (motive := fun _ => R)
    (fun n as => Option.rec (motive := fun _ => R) (enter c.P n as .normal (⟨f, .plan (pi :: l) e :: k, m⟩ :: cs) h nx)
      (fun x => oR (x as h nx) 42 fun r => after re d l k e f m cs (T.put (pth nx) (some r.o) h) (Nat.succ nx) r.v) (c.ex n))
    (fun b as => bc (frz c.z b) (yieldTo c.P (⟨f, .plan (pi :: l) e :: k, m⟩ :: cs) h nx b as) (.bad 41)) t
def dDfr (g : E → F → Option D) : Kt := fun re d l k e f m cs h nx _ => match m.rnd with
  | some _ => .bad 7
  | none => oR (g e f) 7 fun x => after re d l k e f ⟨m.fn, .call x :: m.dfs, m.kd, none⟩ cs h nx undef
def retHead (k : List It) : Bool := match k with | .ret :: _ => true | _ => false
def dRc : Kt := fun re d l k e f m cs h nx _ => match m.rnd with
  | some _ => .bad 8
  | none => match m.kd with
    | .normal => after re d l k e f m cs h nx .i0
    | .deferred => match cs with
      | c :: _ => match retHead c.k with
        | true => after re d l k e f m cs h nx .i0
        | false => .bad 8
      | [] => .bad 9
def dBad : Kt := fun _ _ _ _ _ _ _ _ _ _ _ => .bad 10
/-- the entries that a walk through a map has not met -/
def unseen (seen : List Nat) : List (V × V × Nat) → List (V × V × Nat)
  | [] => []
  | (k, v, i) :: es => bc (memN i seen) (unseen seen es) ((k, v, i) :: unseen seen es)
def snocN (l : List Nat) (n : Nat) : List Nat := match l with
  | [] => [n]
  | x :: xs => x :: snocN xs n
def bornOk (since : Nat) : List (V × V × Nat) → Bool
  | [] => true
  | (_, _, i) :: es => bc (Nat.blt i since) (bornOk since es) false
def nexts (it m : Pth) (since : Nat) (seen : List Nat) (d : Kp) (l : List PI) (k : List It) (e : E) (f : F) (mt : Mt) (cs : List Fr) (h : H) (nx : Nat) : List (V × V × Nat) → List S
  | [] => []
  | (key, v, i) :: es =>
    ⟨putK d (.tu [.bl true, key, v]) f, plK l (.tu [.bl true, key, v] :: e) k, mt, cs, T.put it (some (.mit m since (snocN seen i) since)) h, nx⟩ :: nexts it m since seen d l k e f mt cs h nx es
def dNx (c : Cx) (g : E → F → Option V) : Kt := fun re d l k e f mt cs h nx _ => oR (g e f) 43 fun v => match re, v with
  | [], .p it 0 => match T.get it h with
    | some (.mit m since seen stepped) => match T.get m h with
      | some (.map es clock) => bc (Nat.beq clock since) (bc (Nat.beq stepped since) (bc (bornOk since es) (bc (frz c.z it) (match unseen seen es with
          | [] => .go ⟨putK d (.tu [.bl false]) f, plK l (.tu [.bl false] :: e) k, mt, cs, h, nx⟩
          | x :: xs => match xs, nexts it m since seen d l k e f mt cs h nx (x :: xs) with
            | [], s :: _ => .go s
            | _, ss => .many ss) (.bad 43)) (.bad 43)) (.bad 43)) (.bad 43)
      | _ => .bad 43
    | _ => .bad 43
  | _, _ => .bad 43
def doCO (c : Cx) (op : CO) : Kt := CO.rec (motive := fun _ => Kt) dQ dM dA (dS c) (dAp c) (dCall c) dDfr (dNx c) dRc dBad op

abbrev St := List It → F → Mt → List Fr → H → Nat → R
def stPlan (c : Cx) (l : List PI) : E → St :=
  List.rec (motive := fun _ => E → St)
    (fun _ k f m cs h nx => .go ⟨f, k, m, cs, h, nx⟩)
    (fun pi l _ e k f m cs h nx => PI.rec (motive := fun _ => R)
      (fun gd d op re => Gd.rec (motive := fun _ => R)
        (doCO c op re d l k e f m cs h nx pi)
        (fun q w => oR (q e f) 19 fun v => bc (wantB v w) (doCO c op re d l k e f m cs h nx pi) (.go ⟨putK d undef f, plK l (undef :: e) k, m, cs, h, nx⟩))
        (.bad 19) gd) pi) l

def exitTo (id : Nat) : List It → Option (List It)
  | [] => none
  | i :: k => match i with
    | .blk j => bc (Nat.beq j id) (some k) (exitTo id k)
    | _ => exitTo id k
/-- a caller goes on with a value -/
def finish (c : Fr) (v : V) (cs : List Fr) (h : H) (nx : Nat) : R := match c.k with
  | .plan (.mk _ d _ re :: rest) e :: k => after re d rest k e c.f c.m cs h nx v
  | .inRF b :: k => .go ⟨c.f, .endRF b :: k, c.m, cs, h, nx⟩
  | .begR :: k => .go ⟨c.f, k, c.m, cs, h, nx⟩
  | _ => .bad 11
def back (v : V) (cs : List Fr) (h : H) (nx : Nat) : R := match cs with
  | c :: cs' => finish c v cs' h nx
  | [] => .done v h nx
def leave (z : H) (jump : Option Code) (f : F) (m : Mt) (cs : List Fr) (h : H) (nx : Nat) : R :=
  match m.rnd with
  | none => .go ⟨f, [.ret], m, cs, h, nx⟩
  | some b => bc (frz z b) (match T.get b h, cs with
    | some (.loop _ _ fn tm ps asg bd df), c :: cs' => match jump with
      | none => finish c (.bl true) cs' (T.put b (some (.loop .ready none fn tm ps asg bd df)) h) nx
      | some j => finish c (.bl false) cs' (T.put b (some (.loop .done (some j) fn tm ps asg bd df)) h) nx
    | _, _ => .bad 13) (.bad 41)
def resV (h : H) (P : Wd) (f : F) : List ResultVar → Option (List V)
  | [] => some []
  | .tmp t :: rs => ob (T.get (pth t) f) fun v => ob (resV h P f rs) fun vs => some (v :: vs)
  | .cell a t :: rs => ob (T.get (pth a) f) fun av => onP av fun b off => bc (okT P t) (bc (isAgg P t)
      (ob (rdN h b off (szOf P t)) fun l => ob (resV h P f rs) fun vs => some (.ag l :: vs))
      (ob (rd1 h b off) fun v => ob (resV h P f rs) fun vs => some (v :: vs))) none
def tup (l : List V) : V := match l with
  | [v] => v
  | _ => .tu l
def resOf (P : Wd) (n : FuncId) : Option (List ResultVar) := match P.fun n with | some fn => some fn.results.toList | none => none
def dCalls : List D → List Df → List Df
  | [], r => r
  | d :: ds, r => .call d :: dCalls ds r
def stRet (c : Cx) (f : F) (m : Mt) (cs : List Fr) (h : H) (nx : Nat) : R :=
  match m.rnd with
  | some _ => .bad 19
  | none => match m.dfs with
    | [] => oR (resOf c.P m.fn) 18 fun rs => oR (resV h c.P f rs) 17 fun vs => match m.kd with
      | .normal => back (tup vs) cs h nx
      | .deferred => match cs with
        | r :: cs' => .go ⟨r.f, r.k, r.m, cs', h, nx⟩
        | [] => .bad 16
    | d :: ds => match d with
      | .coll b => match T.get b h with
        | some (.dfr calls) => bc (frz c.z b) (.go ⟨f, [.ret], ⟨m.fn, dCalls calls ds, m.kd, none⟩, cs, T.put b (some .dfr0) h, nx⟩) (.bad 41)
        | _ => .bad 14
      | .call x => enter c.P x.f x.args .deferred (⟨f, [.ret], ⟨m.fn, ds, m.kd, none⟩⟩ :: cs) h nx
def enterRF (c : Cx) (g : Operand) (ps : Array Tmp) (asg bd : Code) (k : List It) (f : F) (m : Mt) (cs : List Fr) (h : H) (nx : Nat) : R :=
  match m.rnd with
  | some _ => .bad 30
  | none => match bx (cOpd [] g) fun q => q [] f with
    | some (.fn n fst cap) => enter c.P n (fst ++ (.yl (pth (nx + 1)) :: cap)) .normal (⟨f, .inRF (pth (nx + 1)) :: k, ⟨m.fn, .coll (pth nx) :: m.dfs, m.kd, none⟩⟩ :: cs)
        (T.put (pth (nx + 1)) (some (.loop .ready none m.fn f ps.toList asg bd (pth nx))) (T.put (pth nx) (some (.dfr [])) h)) (nx + 2)
    | _ => .bad 32
def stExit (z : H) (id : Nat) : St := fun k f m cs h nx => match exitTo id k with
  | some k' => .go ⟨f, k', m, cs, h, nx⟩
  | none => match m.rnd with
    | some _ => leave z (some (.exit id)) f m cs h nx
    | none => .bad 21
def stRetC (z : H) : St := fun _ f m cs h nx => match m.rnd with
  | some _ => leave z (some .ret) f m cs h nx
  | none => .go ⟨f, [.ret], m, cs, h, nx⟩
def stReg (c : Cx) (ops : Array Oper) (draw : Bool) : St := fun k f m cs h nx => Mt.rec (motive := fun _ => R)
  (fun fn dfs kd rnd => .go ⟨f, .plan (plan c.P fn ops draw) [] :: k, ⟨fn, dfs, kd, rnd⟩, cs, h, nx⟩) m
def stCond (v : V) (a b : R) : R := match v with | .bl t => bc t a b | _ => .bad 20
def stCode (c : Cx) (x : Code) : St :=
  Code.rec (motive := fun _ => St)
    (fun k f m cs h nx => .go ⟨f, k, m, cs, h, nx⟩)
    (fun _ ops draw => stReg c ops draw)
    (fun _ b iha _ k => iha (.code b :: k))
    (fun x _ _ iha ihb k f m cs h nx => oR (bx (cOpd [] x) fun q => q [] f) 20 fun v => stCond v (iha k f m cs h nx) (ihb k f m cs h nx))
    (fun id _ ih k => ih (.blk id :: k))
    (fun b ih k => ih (.lp b :: k))
    (fun g ps asg bd _ _ => enterRF c g ps asg bd)
    (stExit c.z)
    (fun _ ih k => ih (.scp :: k))
    (fun _ k f m cs h nx => .go ⟨f, k, m, cs, h, nx⟩)
    (fun _ _ _ _ _ _ _ => .bad 22)
    (stRetC c.z)
    (fun _ _ _ _ _ _ _ => .bad 23) x
def begRound (z : H) : St := fun k f m cs h nx => match m.rnd with
  | some b => match T.get b h with
    | some (.loop .ready pd fn tm ps asg bd df) => bc (frz z b) (.go ⟨f, k, m, cs, T.put b (some (.loop .busy pd fn tm ps asg bd df)) h, nx⟩) (.bad 41)
    | _ => .bad 35
  | none => .bad 36
def endLoop (z : H) (b : Pth) : St := fun k f m cs h nx => match T.get b h with
  | some (.loop st pd fn tm ps asg bd df) => match st with
    | .busy => .bad 37
    | _ => bc (frz z b) (.go ⟨f, (match pd with | some c => .code c :: k | none => k), m, cs, T.put b (some (.loop .exhausted pd fn tm ps asg bd df)) h, nx⟩) (.bad 41)
  | _ => .bad 38
def stPop : St := fun k f m cs h nx => .go ⟨f, k, m, cs, h, nx⟩
def stIt (c : Cx) (i : It) : St :=
  It.rec (motive := fun _ => St) (stCode c) (fun _ => stPop) (fun b k => stCode c b (.lp b :: k)) stPop
    (stPlan c) (fun _ _ _ _ _ _ _ => .bad 24) (endLoop c.z) (begRound c.z) (fun _ => stRet c) i
def step (c : Cx) (s : S) : R :=
  S.rec (motive := fun _ => R) (fun f k m cs h nx => List.rec (motive := fun _ => R) (leave c.z none f m cs h nx) (fun i k _ => stIt c i k f m cs h nx) k) s
/-- 2^n steps -/
def run2 (c : Cx) (n : Nat) : S → R :=
  Nat.rec (motive := fun _ => S → R) (step c) (fun _ g s => R.rec (motive := fun _ => R) g .many (fun v h nx => .done v h nx) .bad (g s)) n

/-! all roads -/
def oldV (z : H) (v : V) : Bool := match v with
  | .bl _ | .int _ _ | .p0 | .s0 | .m0 | .f0 | .i0 => true
  | .p b _ | .sl b _ _ _ | .so b _ _ | .sz b _ _ | .mp b => match T.get b z with | some _ => true | none => false
  | _ => false
def canon (z : H) (nx0 : Nat) (v : V) (h : H) : Option XR := match v with
  | .so b 0 n => match T.get b z, T.get b h with
    | none, some (.opn e c) => bc (c.all (oldV z)) (some ⟨.so (pth nx0) 0 n, .opn e c⟩) none
    | _, _ => none
  | .sl b 0 n k => match T.get b z, T.get b h with
    | none, some (.cells c) => bc (c.all (oldV z)) (some ⟨.sl (pth nx0) 0 n k, .cells c⟩) none
    | _, _ => none
  | .tu [.sl b 0 n k, .int kd i] => match T.get b z, T.get b h with
    | none, some (.cells c) => bc (c.all (oldV z)) (some ⟨.tu [.sl (pth nx0) 0 n k, .int kd i], .cells c⟩) none
    | _, _ => none
  | _ => none
def eqXR (x y : XR) : Bool := bc (eqVV x.v y.v) (match x.o, y.o with
  | .cells a, .cells b => eqVs a b
  | .opn e a, .opn e' b => bc (Nat.beq e e') (eqVs a b) false
  | _, _ => false) false
def exAll (c : Cx) (nx0 : Nat) : Nat → R → Option XR
  | 0, _ => none
  | k + 1, r => match r with
    | .done v h _ => canon c.z nx0 v h
    | .many l => match l with
      | [] => none
      | s :: ss => ob (exAll c nx0 k (run2 c 13 s)) fun x => bc (ss.all fun s' => match exAll c nx0 k (run2 c 13 s') with | some y => eqXR x y | none => false) (some x) none
    | _ => none
def noEx : FuncId → Option (List V → H → Nat → Option XR) := fun _ => none
/-- a call on all roads, in a memory that holds at least one block -/
def explore (P : Wd) (n : FuncId) (as : List V) (h : H) (nx : Nat) : Option XR :=
  match h with
  | .e => none
  | .n .. => match enter P n as .normal [] h nx with
    | .go s => exAll ⟨P, noEx, h⟩ nx 12 (run2 ⟨P, noEx, h⟩ 13 s)
    | _ => none
def exOf (P : Wd) (X : List Nat) (n : FuncId) : Option (List V → H → Nat → Option XR) := bc (memN n X) (some (explore P n)) none
def cx (P : Wd) (X : List Nat) : Cx := ⟨P, exOf P X, .e⟩
end Go.AM
end
section
/- Plain laws of the machine's data: trees, lists, whole numbers. -/
namespace Go.AM

theorem ob_some {α β : Type} (a : α) (f : α → Option β) : ob (some a) f = f a := rfl
theorem ob_none {α β : Type} (f : α → Option β) : ob none f = none := rfl
theorem ob_eq {α β : Type} {x : Option α} {f : α → Option β} {b : β} (h : ob x f = some b) : ∃ a, x = some a ∧ f a = some b := by
  cases x with
  | none => cases h
  | some a => exact ⟨a, rfl, h⟩
theorem bc_true {α : Type} (x y : α) : bc true x y = x := rfl
theorem bc_false {α : Type} (x y : α) : bc false x y = y := rfl
theorem bc_some {α : Type} {b : Bool} {x : Option α} {v : α} (h : bc b x none = some v) : b = true ∧ x = some v := by
  cases b with
  | false => cases h
  | true => exact ⟨rfl, h⟩
theorem bc_and {a b : Bool} (h : bc a b false = true) : a = true ∧ b = true := by
  cases a with
  | false => cases h
  | true => exact ⟨rfl, h⟩

/-! paths -/
def natOf : Pth → Nat
  | .z => 0
  | .l p => 2 * natOf p + 1
  | .r p => 2 * natOf p + 2
theorem pthF_succ (k m : Nat) : pthF (k + 1) (m + 1) = bc (Nat.beq (Nat.mod m 2) 0) (.l (pthF k (Nat.div m 2))) (.r (pthF k (Nat.div m 2))) := rfl
theorem natOf_pthF : ∀ (k n : Nat), n < k → natOf (pthF k n) = n
  | 0, n, h => by omega
  | k + 1, 0, _ => rfl
  | k + 1, m + 1, h => by
    have h2 : m / 2 < k := by omega
    have ih := natOf_pthF k (m / 2) h2
    have hd : Nat.div m 2 = m / 2 := rfl
    have hm : Nat.mod m 2 = m % 2 := rfl
    rw [pthF_succ, hd, hm]
    cases hb : Nat.beq (m % 2) 0 with
    | true =>
      have := Nat.eq_of_beq_eq_true hb
      show 2 * natOf (pthF k (m / 2)) + 1 = m + 1
      rw [ih]; omega
    | false =>
      have := Nat.ne_of_beq_eq_false hb
      show 2 * natOf (pthF k (m / 2)) + 2 = m + 1
      rw [ih]; omega
theorem natOf_pth (n : Nat) : natOf (pth n) = n := natOf_pthF _ _ (Nat.lt_succ_self n)
theorem pth_inj {m n : Nat} (h : pth m = pth n) : m = n := by rw [← natOf_pth m, ← natOf_pth n, h]
theorem eqP_eq : ∀ {p q : Pth}, eqP p q = true → p = q
  | .z, .z, _ => rfl
  | .l p, .l q, h => by rw [eqP_eq (p := p) (q := q) h]
  | .r p, .r q, h => by rw [eqP_eq (p := p) (q := q) h]
  | .z, .l _, h => by cases h
  | .z, .r _, h => by cases h
  | .l _, .z, h => by cases h
  | .l _, .r _, h => by cases h
  | .r _, .z, h => by cases h
  | .r _, .l _, h => by cases h

/-! trees -/
namespace T
variable {α : Type}
theorem get_e : ∀ p : Pth, get p (.e : T α) = none
  | .z => rfl
  | .l p => get_e p
  | .r p => get_e p
theorem get_l (p : Pth) (t : T α) : get (.l p) t = get p t.lt := rfl
theorem get_r (p : Pth) (t : T α) : get (.r p) t = get p t.rt := rfl
theorem get_z (t : T α) : get .z t = t.val := rfl
theorem get_put_same : ∀ (p : Pth) (v : Option α) (t : T α), get p (put p v t) = v
  | .z, v, t => by cases t <;> rfl
  | .l p, v, t => by cases t <;> exact get_put_same p v _
  | .r p, v, t => by cases t <;> exact get_put_same p v _
theorem get_put_ne : ∀ {p q : Pth} (v : Option α) (t : T α), p ≠ q → get q (put p v t) = get q t
  | .z, .z, v, t, h => absurd rfl h
  | .z, .l q, v, t, _ => by cases t <;> first | rfl | exact (get_e q)
  | .z, .r q, v, t, _ => by cases t <;> first | rfl | exact (get_e q)
  | .l p, .z, v, t, _ => by cases t <;> rfl
  | .r p, .z, v, t, _ => by cases t <;> rfl
  | .l p, .r q, v, t, _ => by cases t <;> rfl
  | .r p, .l q, v, t, _ => by cases t <;> rfl
  | .l p, .l q, v, t, h => by
    have hn : p ≠ q := fun e => h (by rw [e])
    cases t <;> exact get_put_ne (p := p) (q := q) v _ hn
  | .r p, .r q, v, t, h => by
    have hn : p ≠ q := fun e => h (by rw [e])
    cases t <;> exact get_put_ne (p := p) (q := q) v _ hn
theorem get_put (p q : Pth) (v : Option α) (t : T α) [Decidable (p = q)] : get q (put p v t) = if p = q then v else get q t := by
  split
  · rename_i h; rw [← h]; exact get_put_same p v t
  · rename_i h; exact get_put_ne v t h
theorem get_keep {β : Type} : ∀ (p : Pth) (m : T β) (t : T α), get p (keep m t) = if (get p m).isSome then get p t else none
  | p, .e, t => by
    have h1 : keep (.e : T β) t = .e := rfl
    rw [h1, get_e, get_e]; rfl
  | .z, .n v l r, t => by cases v <;> rfl
  | .l p, .n v l r, t => get_keep p l t.lt
  | .r p, .n v l r, t => get_keep p r t.rt
end T

/-! lists -/
theorem nth_eq : ∀ (i : Nat) (l : List V), nth i l = l[i]?
  | 0, [] => rfl
  | 0, _ :: _ => rfl
  | _ + 1, [] => rfl
  | i + 1, _ :: xs => by rw [List.getElem?_cons_succ]; exact nth_eq i xs
theorem ldrop_eq : ∀ (n : Nat) (l : List V), ldrop n l = l.drop n
  | 0, _ => rfl
  | _ + 1, [] => rfl
  | n + 1, _ :: xs => ldrop_eq n xs
theorem ltake_some : ∀ (n : Nat) (l r : List V), ltake n l = some r → n ≤ l.length ∧ r = l.take n
  | 0, l, r, h => by cases h; exact ⟨Nat.zero_le _, by simp⟩
  | n + 1, [], r, h => by cases h
  | n + 1, x :: xs, r, h => by
    obtain ⟨a, ha, hb⟩ := ob_eq (show ob (ltake n xs) (fun r => some (x :: r)) = some r from h)
    cases hb
    obtain ⟨h1, h2⟩ := ltake_some n xs a ha
    exact ⟨by simp; omega, by simp [h2]⟩
theorem lover_some : ∀ (vs cs r : List V), lover vs cs = some r → vs.length ≤ cs.length ∧ r = vs ++ cs.drop vs.length
  | [], cs, r, h => by cases h; simp
  | x :: vs, [], r, h => by cases h
  | x :: vs, c :: cs, r, h => by
    obtain ⟨a, ha, hb⟩ := ob_eq (show ob (lover vs cs) (fun r => some (x :: r)) = some r from h)
    cases hb
    obtain ⟨h1, h2⟩ := lover_some vs cs a ha
    exact ⟨by simp; omega, by simp [h2]⟩
theorem lput_some : ∀ (n : Nat) (vs cs r : List V), lput n vs cs = some r → n + vs.length ≤ cs.length ∧ r = cs.take n ++ vs ++ cs.drop (n + vs.length)
  | 0, vs, cs, r, h => by
    obtain ⟨h1, h2⟩ := lover_some vs cs r h
    exact ⟨by omega, by simp [h2]⟩
  | n + 1, vs, [], r, h => by cases h
  | n + 1, vs, c :: cs, r, h => by
    obtain ⟨a, ha, hb⟩ := ob_eq (show ob (lput n vs cs) (fun r => some (c :: r)) = some r from h)
    cases hb
    obtain ⟨h1, h2⟩ := lput_some n vs cs a ha
    refine ⟨by simp; omega, ?_⟩
    have e : n + 1 + vs.length = (n + vs.length) + 1 := by omega
    rw [h2, e]; simp

/-! whole numbers -/
theorem ile_eq : ∀ a b : Int, ile a b = decide (a ≤ b)
  | .ofNat m, .ofNat n => by
    show Nat.ble m n = _
    by_cases h : m ≤ n
    · rw [Nat.ble_eq_true_of_le h]; simp; omega
    · have : Nat.ble m n = false := by cases hb : Nat.ble m n; rfl; exact absurd (Nat.le_of_ble_eq_true hb) h
      rw [this]; simp; omega
  | .ofNat m, .negSucc n => by show false = _; simp; omega
  | .negSucc m, .ofNat n => by show true = _; simp; omega
  | .negSucc m, .negSucc n => by
    show Nat.ble n m = _
    by_cases h : n ≤ m
    · rw [Nat.ble_eq_true_of_le h]; simp; omega
    · have : Nat.ble n m = false := by cases hb : Nat.ble n m; rfl; exact absurd (Nat.le_of_ble_eq_true hb) h
      rw [this]; simp; omega
theorem ieq_eq : ∀ a b : Int, ieq a b = (a == b)
  | .ofNat m, .ofNat n => by
    show Nat.beq m n = _
    by_cases h : m = n
    · subst h; simp
    · have : Nat.beq m n = false := by cases hb : Nat.beq m n; rfl; exact absurd (Nat.eq_of_beq_eq_true hb) h
      rw [this]; symm; simp; omega
  | .ofNat m, .negSucc n => by show false = _; symm; simp
  | .negSucc m, .ofNat n => by show false = _; symm; simp
  | .negSucc m, .negSucc n => by
    show Nat.beq m n = _
    by_cases h : m = n
    · subst h; simp
    · have : Nat.beq m n = false := by cases hb : Nat.beq m n; rfl; exact absurd (Nat.eq_of_beq_eq_true hb) h
      rw [this]; symm; simp; omega
theorem nsub_eq (m n : Nat) : nsub m n = (m : Int) - n := by
  unfold nsub
  cases hb : Nat.ble n m with
  | true =>
    have := Nat.le_of_ble_eq_true hb
    show Int.ofNat (m - n) = _
    simp; omega
  | false =>
    have : ¬ n ≤ m := fun h => by rw [Nat.ble_eq_true_of_le h] at hb; cases hb
    show Int.negSucc (n - m - 1) = _
    omega
theorem iadd_eq : ∀ a b : Int, iadd a b = a + b
  | .ofNat m, .ofNat n => by show Int.ofNat (m + n) = _; simp
  | .ofNat m, .negSucc n => by show nsub m (n + 1) = _; rw [nsub_eq]; simp; omega
  | .negSucc m, .ofNat n => by show nsub n (m + 1) = _; rw [nsub_eq]; simp; omega
  | .negSucc m, .negSucc n => by show Int.negSucc (m + n + 1) = _; omega
theorem ineg_eq : ∀ a : Int, ineg a = - a
  | .ofNat m => by show nsub 0 m = _; rw [nsub_eq]; simp
  | .negSucc m => by show Int.ofNat (m + 1) = _; simp
theorem imul_eq : ∀ a b : Int, imul a b = a * b
  | .ofNat m, .ofNat n => by show Int.ofNat (m * n) = _; simp
  | .ofNat m, .negSucc n => by
    show nsub 0 (m * (n + 1)) = _
    rw [nsub_eq, Int.negSucc_eq]; simp [Int.mul_neg]
  | .negSucc m, .ofNat n => by
    show nsub 0 ((m + 1) * n) = _
    rw [nsub_eq, Int.negSucc_eq]; simp [Int.neg_mul]
  | .negSucc m, .negSucc n => by
    show Int.ofNat ((m + 1) * (n + 1)) = _
    rw [Int.negSucc_eq, Int.negSucc_eq]; simp [Int.neg_mul, Int.mul_neg]
end Go.AM
end
section
/- How the machine's values and blocks stand for those of the model. -/
namespace Go.AM

/-- a block of the model: its number, its cells, the cells of an element, where the known ones begin -/
structure Ent where
  cb : Nat
  csz : Nat
  esz : Nat
  lo : Nat
/-- a place in a block -/
def Ent.ad (x : Ent) (off : Nat) : Addr := ⟨x.cb, x.lo + off, none⟩
abbrev Env := Pth → Option Ent

/-- a slice with open room -/
def soC (x : Ent) (off n : Nat) : Option Value := if 0 < x.esz ∧ off + n * x.esz ≤ x.csz then some (.slice (some (x.ad off)) n ((x.csz - off) / x.esz)) else none
/-- an empty slice behind the elements of one with open room -/
def szC (x : Ent) (alt off : Nat) : Value :=
  .slice (some (x.ad (if (x.csz - alt) / x.esz = (off - alt) / x.esz then alt else off))) 0 ((x.csz - alt) / x.esz - (off - alt) / x.esz)
mutual
def conc (ε : Env) : V → Option Value
  | .bl b => some (.bool b)
  | .int k n => some (.int k n)
  | .str s => some (.string s)
  | .p b off => (ε b).map fun x => .pointer (some (x.ad off))
  | .p0 => some (.pointer none)
  | .sl b off n c => (ε b).map fun x => .slice (some (x.ad off)) n c
  | .so b off n => (ε b).bind fun x => soC x off n
  | .sz b alt off => (ε b).map fun x => szC x alt off
  | .s0 => some (.slice none 0 0)
  | .mp b => (ε b).map fun x => .map (some x.cb)
  | .m0 => some (.map none)
  | .fn f fst cap => match concL ε fst, concL ε cap with
    | some a, some b => some (.func (.func f) a.toArray b.toArray)
    | _, _ => none
  | .yl b => (ε b).map fun x => .func (.yield x.cb) #[] #[]
  | .f0 => some .nilFunc
  | .ifc t v => match conc ε v with
    | some x => some (.iface t x)
    | none => none
  | .i0 => some .nilIface
  | .ag l => match concL ε l with
    | some a => some (.agg a.toArray)
    | none => none
  | .tu l => match concL ε l with
    | some a => some (.tuple a.toArray)
    | none => none
def concL (ε : Env) : List V → Option (List Value)
  | [] => some []
  | v :: vs => match conc ε v, concL ε vs with
    | some x, some xs => some (x :: xs)
    | _, _ => none
end

/-- an environment that knows more -/
def Ext (ε ε' : Env) : Prop := ∀ b x, ε b = some x → ε' b = some x
theorem Ext.refl (ε : Env) : Ext ε ε := fun _ _ h => h
theorem Ext.trans {a b c : Env} (h : Ext a b) (k : Ext b c) : Ext a c := fun p x hx => k p x (h p x hx)
theorem opt_map_mono {α : Type} {ε ε' : Env} (h : Ext ε ε') (b : Pth) (g : Ent → α) {x : α} (hx : (ε b).map g = some x) : (ε' b).map g = some x := by
  cases hb : ε b with
  | none => rw [hb] at hx; cases hx
  | some y => rw [h b y hb]; rw [hb] at hx; exact hx
theorem opt_bind_mono {α : Type} {ε ε' : Env} (h : Ext ε ε') (b : Pth) (g : Ent → Option α) {x : α} (hx : (ε b).bind g = some x) : (ε' b).bind g = some x := by
  cases hb : ε b with
  | none => rw [hb] at hx; cases hx
  | some y => rw [h b y hb]; rw [hb] at hx; exact hx
mutual
theorem conc_mono {ε ε' : Env} (h : Ext ε ε') : ∀ (v : V) (x : Value), conc ε v = some x → conc ε' v = some x
  | .bl _, _, hx => hx
  | .int _ _, _, hx => hx
  | .str _, _, hx => hx
  | .p b _, _, hx => opt_map_mono h b _ hx
  | .p0, _, hx => hx
  | .sl b _ _ _, _, hx => opt_map_mono h b _ hx
  | .so b _ _, _, hx => opt_bind_mono h b _ hx
  | .sz b _ _, _, hx => opt_map_mono h b _ hx
  | .s0, _, hx => hx
  | .mp b, _, hx => opt_map_mono h b _ hx
  | .m0, _, hx => hx
  | .fn f a b, x, hx => by
    rw [conc] at hx ⊢
    cases ha : concL ε a with
    | none => rw [ha] at hx; cases hx
    | some a' => cases hb : concL ε b with
      | none => rw [ha, hb] at hx; cases hx
      | some b' => rw [concL_mono h a a' ha, concL_mono h b b' hb]; rw [ha, hb] at hx; exact hx
  | .yl b, _, hx => opt_map_mono h b _ hx
  | .f0, _, hx => hx
  | .ifc t v, x, hx => by
    rw [conc] at hx ⊢
    cases ha : conc ε v with
    | none => rw [ha] at hx; cases hx
    | some a' => rw [conc_mono h v a' ha]; rw [ha] at hx; exact hx
  | .i0, _, hx => hx
  | .ag l, x, hx => by
    rw [conc] at hx ⊢
    cases ha : concL ε l with
    | none => rw [ha] at hx; cases hx
    | some a' => rw [concL_mono h l a' ha]; rw [ha] at hx; exact hx
  | .tu l, x, hx => by
    rw [conc] at hx ⊢
    cases ha : concL ε l with
    | none => rw [ha] at hx; cases hx
    | some a' => rw [concL_mono h l a' ha]; rw [ha] at hx; exact hx
theorem concL_mono {ε ε' : Env} (h : Ext ε ε') : ∀ (l : List V) (x : List Value), concL ε l = some x → concL ε' l = some x
  | [], _, hx => hx
  | v :: vs, x, hx => by
    rw [concL] at hx ⊢
    cases ha : conc ε v with
    | none => rw [ha] at hx; cases hx
    | some a' => cases hb : concL ε vs with
      | none => rw [ha, hb] at hx; cases hx
      | some b' => rw [conc_mono h v a' ha, concL_mono h vs b' hb]; rw [ha, hb] at hx; exact hx
end

/-! lists of values -/
theorem concL_cons {ε : Env} {v : V} {vs : List V} {x : List Value} (h : concL ε (v :: vs) = some x) : ∃ a as, conc ε v = some a ∧ concL ε vs = some as ∧ x = a :: as := by
  rw [concL] at h
  cases ha : conc ε v with
  | none => rw [ha] at h; cases h
  | some a => cases hb : concL ε vs with
    | none => rw [ha, hb] at h; cases h
    | some as => rw [ha, hb] at h; cases h; exact ⟨a, as, rfl, rfl, rfl⟩
theorem concL_mk {ε : Env} {v : V} {vs : List V} {a : Value} {as : List Value} (h : conc ε v = some a) (k : concL ε vs = some as) : concL ε (v :: vs) = some (a :: as) := by
  rw [concL, h, k]
theorem concL_length {ε : Env} : ∀ {l : List V} {x : List Value}, concL ε l = some x → x.length = l.length
  | [], x, h => by cases h; rfl
  | v :: vs, x, h => by
    obtain ⟨a, as, _, hb, rfl⟩ := concL_cons h
    simp [concL_length hb]
theorem concL_append {ε : Env} : ∀ {l m : List V} {x y : List Value}, concL ε l = some x → concL ε m = some y → concL ε (l ++ m) = some (x ++ y)
  | [], m, x, y, h, k => by cases h; exact k
  | v :: vs, m, x, y, h, k => by
    obtain ⟨a, as, ha, hb, rfl⟩ := concL_cons h
    exact concL_mk ha (concL_append hb k)
theorem concL_take {ε : Env} : ∀ {l : List V} {x : List Value} (n : Nat), concL ε l = some x → concL ε (l.take n) = some (x.take n)
  | _, _, 0, _ => by simp [concL]
  | [], x, n + 1, h => by cases h; rfl
  | v :: vs, x, n + 1, h => by
    obtain ⟨a, as, ha, hb, rfl⟩ := concL_cons h
    exact concL_mk ha (concL_take n hb)
theorem concL_drop {ε : Env} : ∀ {l : List V} {x : List Value} (n : Nat), concL ε l = some x → concL ε (l.drop n) = some (x.drop n)
  | _, _, 0, h => h
  | [], x, n + 1, h => by cases h; rfl
  | v :: vs, x, n + 1, h => by
    obtain ⟨a, as, ha, hb, rfl⟩ := concL_cons h
    exact concL_drop n hb
theorem concL_get {ε : Env} : ∀ {l : List V} {x : List Value} (n : Nat) {v : V}, concL ε l = some x → l[n]? = some v → ∃ a, conc ε v = some a ∧ x[n]? = some a
  | [], _, n, v, _, k => by simp at k
  | v :: vs, x, 0, u, h, k => by
    obtain ⟨a, as, ha, hb, rfl⟩ := concL_cons h
    simp at k; subst k
    exact ⟨a, ha, by simp⟩
  | v :: vs, x, n + 1, u, h, k => by
    obtain ⟨a, as, ha, hb, rfl⟩ := concL_cons h
    obtain ⟨c, hc, hd⟩ := concL_get (v := u) n hb (by simpa using k)
    exact ⟨c, hc, by simpa using hd⟩

/-! the model's tables -/
/-- the trees hold nothing but what the program's tables hold -/
structure Fits (W : Wd) (P : Program) : Prop where
  types : ∀ t i, W.inf t = some i → P.info? t = some i
  funcs : ∀ n f, W.fun n = some f → P.funcs[n]? = some f
theorem Fits.und {W : Wd} {P : Program} (h : Fits W P) {t : TypeId} {d : TypeDesc} (hd : W.und t = some d) : P.underlying t = some d := by
  unfold Wd.und at hd
  unfold Program.underlying
  cases hi : W.inf t with
  | none => rw [hi] at hd; cases hd
  | some i =>
    rw [hi] at hd; rw [h.types t i hi]
    obtain ⟨desc, str, size, bytes, hp, al, fa, zero, cmp, ms⟩ := i
    cases desc <;> simp only [] at hd ⊢ <;> try (exact hd)
    rename_i nm u
    cases hu : W.inf u with
    | none => rw [hu] at hd; cases hd
    | some j => rw [hu] at hd; rw [h.types u j hu]; simpa using hd
end Go.AM
end
section
/- The machine's memory against the model's: what a block stands for; reading, writing, making. -/
namespace Go.AM
open Go.RowKit (Below)

/-- a frame's slots: what the machine holds is there -/
structure FRel (ε : Env) (nt : Nat) (f : F) (tm : Array Value) : Prop where
  size : nt ≤ tm.size
  get : ∀ t v, T.get (pth t) f = some v → ∃ x, conc ε v = some x ∧ tm[t]? = some x
theorem FRel.mono {ε ε' : Env} {nt : Nat} {f : F} {tm : Array Value} (h : FRel ε nt f tm) (k : Ext ε ε') : FRel ε' nt f tm :=
  ⟨h.size, fun t v hv => let ⟨x, hx, hy⟩ := h.get t v hv; ⟨x, conc_mono k v x hx, hy⟩⟩
theorem FRel.put {ε : Env} {nt : Nat} {f : F} {tm : Array Value} (h : FRel ε nt f tm) {t : Tmp} {v : V} {x : Value} (ht : t < nt) (hx : conc ε v = some x) : FRel ε nt (T.put (pth t) (some v) f) (tm.setIfInBounds t x) := by
  refine ⟨by rw [Array.size_setIfInBounds]; exact h.size, fun u w hw => ?_⟩
  by_cases e : t = u
  · subst e
    rw [T.get_put_same] at hw
    cases hw
    exact ⟨x, hx, Array.getElem?_setIfInBounds_self_of_lt (Nat.lt_of_lt_of_le ht h.size)⟩
  · rw [T.get_put_ne _ _ (fun k => e (pth_inj k))] at hw
    obtain ⟨y, hy, hz⟩ := h.get u w hw
    exact ⟨y, hy, by rw [Array.getElem?_setIfInBounds_ne e]; exact hz⟩

/-- slots that a frame may hold -/
def Dm (W : Wd) (fn : FuncId) (t : Tmp) : Prop := memN t (keepOf W.keep fn) = true ∨ t < npOf W fn ∨ memN t (rfOf W fn) = true
def Doms (W : Wd) (fn : FuncId) (f : F) : Prop := ∀ t v, T.get (pth t) f = some v → Dm W fn t
/-- what a walk over a function holds by itself -/
structure LS (W : Wd) (fn : FuncId) (tm : F) (ps : List Tmp) (asg bd : Code) (pd : Option Code) : Prop where
  dom : Doms W fn tm
  ps : (ps.all fun t => memN t (rfOf W fn)) = true
  asg : okIn W fn asg = true
  bd : okIn W fn bd = true
  pd : ∀ c, pd = some c → c = .ret ∨ ∃ id, c = .exit id
  has : ∃ x, W.fun fn = some x
/-- a deferred call -/
def DR (ε : Env) (d : D) (x : Deferred) : Prop := ∃ as cap, concL ε d.args = some (as ++ cap) ∧ x = { target := .fn (.func d.f) cap.toArray, args := as.toArray }
def DsR (ε : Env) : List D → List Deferred → Prop
  | [], xs => xs = []
  | d :: ds, xs => ∃ y ys, xs = y :: ys ∧ DR ε d y ∧ DsR ε ds ys
/-- a map's entries -/
def ER (ε : Env) : List (V × V × Nat) → List MapEntry → Prop
  | [], xs => xs = []
  | (k, v, n) :: es, xs => ∃ y ys, xs = y :: ys ∧ conc ε k = some y.key ∧ conc ε v = some y.val ∧ y.born = n ∧ ER ε es ys
/-- a block -/
def OR (W : Wd) (ε : Env) (x : Ent) : O → Obj → Prop
  | .cells c, b => ∃ l el, concL ε c = some l ∧ b = .cells l.toArray el (0, 0)
  | .opn e c, b => ∃ l r el, concL ε c = some l ∧ b = .cells (l ++ r).toArray el (0, 0) ∧ x.csz = (l ++ r).length ∧ x.esz = e ∧ 0 < e
  | .win c, b => ∃ p l r el, concL ε c = some l ∧ ∃ fz, b = .cells (p ++ (l ++ r)).toArray el fz ∧ p.length = x.lo
  | .map es ck, b => ∃ xs, ER ε es xs ∧ b = .map xs.toArray ck
  | .mit m since seen st, b => ∃ y, ε m = some y ∧ b = .mapIter (some y.cb) since seen.toArray st
  | .loop st pd fn tm ps asg bd df, b => LS W fn tm ps asg bd pd ∧ ∃ tmps y, FRel ε (ntOf W fn) tm tmps ∧ ε df = some y ∧
      b = .loop { state := st, pending := pd, fn := fn, tmps := tmps, params := ps.toArray, assign := asg, body := bd, defers := y.cb }
  | .dfr cs, b => ∃ xs, DsR ε cs xs ∧ b = .deferred (some xs)
  | .dfr0, b => b = .deferred none
theorem DR.mono {ε ε' : Env} (k : Ext ε ε') {d : D} {x : Deferred} (h : DR ε d x) : DR ε' d x := by
  obtain ⟨as, cap, h1, h2⟩ := h; exact ⟨as, cap, concL_mono k _ _ h1, h2⟩
theorem DsR.mono {ε ε' : Env} (k : Ext ε ε') : ∀ {ds : List D} {xs : List Deferred}, DsR ε ds xs → DsR ε' ds xs
  | [], _, h => h
  | _ :: _, _, h => by obtain ⟨y, ys, rfl, h1, h2⟩ := h; exact ⟨y, ys, rfl, h1.mono k, DsR.mono k h2⟩
theorem ER.mono {ε ε' : Env} (k : Ext ε ε') : ∀ {es : List (V × V × Nat)} {xs : List MapEntry}, ER ε es xs → ER ε' es xs
  | [], _, h => h
  | (_, _, _) :: _, _, h => by obtain ⟨y, ys, rfl, h1, h2, h3, h4⟩ := h; exact ⟨y, ys, rfl, conc_mono k _ _ h1, conc_mono k _ _ h2, h3, ER.mono k h4⟩
theorem OR.mono {W : Wd} {ε ε' : Env} (k : Ext ε ε') {x : Ent} : ∀ {o : O} {b : Obj}, OR W ε x o b → OR W ε' x o b
  | .cells _, _, h => by obtain ⟨l, el, h1, h2⟩ := h; exact ⟨l, el, concL_mono k _ _ h1, h2⟩
  | .opn _ _, _, h => by obtain ⟨l, r, el, h1, h2⟩ := h; exact ⟨l, r, el, concL_mono k _ _ h1, h2⟩
  | .win _, _, h => by obtain ⟨p, l, r, el, h1, h2⟩ := h; exact ⟨p, l, r, el, concL_mono k _ _ h1, h2⟩
  | .map _ _, _, h => by obtain ⟨xs, h1, h2⟩ := h; exact ⟨xs, h1.mono k, h2⟩
  | .mit _ _ _ _, _, h => by obtain ⟨y, h1, h2⟩ := h; exact ⟨y, k _ _ h1, h2⟩
  | .loop .., _, h => by obtain ⟨h0, tm, y, h1, h2, h3⟩ := h; exact ⟨h0, tm, y, h1.mono k, k _ _ h2, h3⟩
  | .dfr _, _, h => by obtain ⟨xs, h1, h2⟩ := h; exact ⟨xs, h1.mono k, h2⟩
  | .dfr0, _, h => h

/-- but for windows, what is known of a block begins at its first cell -/
def LoOk (x : Ent) (o : O) : Prop := match o with
  | .win _ => True
  | _ => x.lo = 0
theorem LoOk.zero {x : Ent} (h : x.lo = 0) (o : O) : LoOk x o := by cases o <;> first | exact h | trivial
/-- the whole memory: blocks from B on, and those that may not be written (the ones that zf holds) -/
structure WR (W : Wd) (B : Nat) (zf : H) (ε : Env) (h : H) (nx : Nat) (w : World) : Prop where
  blk : ∀ b x o, ε b = some x → T.get b h = some o → ∃ k, w.heap[x.cb]? = some k ∧ OR W ε x o k ∧ (T.get b zf = none → B ≤ x.cb) ∧ LoOk x o
  inj : ∀ b b' x x', ε b = some x → ε b' = some x' → (T.get b h).isSome = true → (T.get b' h).isSome = true → T.get b zf = none → x.cb = x'.cb → b = b'
  fresh : ∀ n, nx ≤ n → ε (pth n) = none ∧ T.get (pth n) h = none
  base : B ≤ w.heap.size

theorem add_none (b o n : Nat) : (⟨b, o, none⟩ : Addr).add n = ⟨b, o + n, none⟩ := by
  unfold Addr.add; split <;> simp_all
theorem Ent.ad_add (x : Ent) (o n : Nat) : (x.ad o).add n = x.ad (o + n) := by
  unfold Ent.ad; rw [add_none, Nat.add_assoc]
theorem Ent.ad_at {x : Ent} (h : x.lo = 0) (n : Nat) : x.ad n = ⟨x.cb, n, none⟩ := by
  unfold Ent.ad; rw [h, Nat.zero_add]
theorem cell_of {w : World} {g : Nat} {l : List Value} {el : TypeId} {fz : Nat × Nat} (h : w.heap[g]? = some (.cells l.toArray el fz)) (i : Nat) : w.cell? ⟨g, i, none⟩ = l[i]? := by
  simp [World.cell?, h]

theorem cell_ad {w : World} {x : Ent} {p l : List Value} {el : TypeId} {fz : Nat × Nat} (h : w.heap[x.cb]? = some (.cells (p ++ l).toArray el fz)) (hp : p.length = x.lo) (i : Nat) : w.cell? (x.ad i) = l[i]? := by
  rw [Ent.ad, cell_of h, List.getElem?_append_right (by omega), hp, Nat.add_sub_cancel_left]
/-- the cells of a block, what lies before them and behind them -/
theorem WR.cells {W : Wd} {B : Nat} {zf : H} {ε : Env} {h : H} {nx : Nat} {w : World} (hw : WR W B zf ε h nx w) {b : Pth} {x : Ent} {o : O} {c : List V}
    (hx : ε b = some x) (ho : T.get b h = some o) (hc : cellsOf o = some c) :
    ∃ p l r el fz, concL ε c = some l ∧ w.heap[x.cb]? = some (.cells (p ++ (l ++ r)).toArray el fz) ∧ p.length = x.lo ∧ (T.get b zf = none → B ≤ x.cb) := by
  obtain ⟨k, h1, h2, h3, h0⟩ := hw.blk b x o hx ho
  cases o with
  | cells d =>
    cases hc
    obtain ⟨l, el, h4, rfl⟩ := h2
    exact ⟨[], l, [], el, _, h4, by simpa using h1, Eq.symm h0, h3⟩
  | opn e d =>
    cases hc
    obtain ⟨l, r, el, h4, rfl, h5, h6, h7⟩ := h2
    exact ⟨[], l, r, el, _, h4, h1, Eq.symm h0, h3⟩
  | win d =>
    cases hc
    obtain ⟨p, l, r, el, h4, fz, rfl, h5⟩ := h2
    exact ⟨p, l, r, el, fz, h4, h1, h5, h3⟩
  | _ => cases hc
/-- of a block that may be written -/
theorem WR.cellsW {W : Wd} {B : Nat} {zf : H} {ε : Env} {h : H} {nx : Nat} {w : World} (hw : WR W B zf ε h nx w) {b : Pth} {x : Ent} {o : O} {c : List V}
    (hx : ε b = some x) (ho : T.get b h = some o) (hc : AM.cellsW o = some c) :
    ∃ l r el, concL ε c = some l ∧ w.heap[x.cb]? = some (.cells (l ++ r).toArray el (0, 0)) ∧ x.lo = 0 ∧ (T.get b zf = none → B ≤ x.cb) ∧
      (∀ c' l', concL ε c' = some l' → c'.length = c.length → OR W ε x (setCells o c') (.cells (l' ++ r).toArray el (0, 0)) ∧ LoOk x (setCells o c')) := by
  obtain ⟨k, h1, h2, h3, h0⟩ := hw.blk b x o hx ho
  cases o with
  | cells d =>
    cases hc
    obtain ⟨l, el, h4, rfl⟩ := h2
    exact ⟨l, [], el, h4, by simpa using h1, h0, h3, fun c' l' hl _ => ⟨⟨l', el, hl, by simp⟩, h0⟩⟩
  | opn e d =>
    cases hc
    obtain ⟨l, r, el, h4, rfl, h5, h6, h7⟩ := h2
    refine ⟨l, r, el, h4, h1, h0, h3, fun c' l' hl hn => ⟨⟨l', r, el, hl, rfl, ?_, h6, h7⟩, h0⟩⟩
    rw [h5, List.length_append, List.length_append, concL_length h4, concL_length hl, hn]
  | _ => cases hc

theorem rd1_run {W : Wd} {P : Program} {B : Nat} {zf : H} {ε : Env} {h : H} {nx : Nat} {w : World} (hw : WR W B zf ε h nx w) {b : Pth} {x : Ent} {off : Nat} {v : V}
    (hx : ε b = some x) (hr : rd1 h b off = some v) : ∃ u, conc ε v = some u ∧ (load (x.ad off)).run P w = .ok u w := by
  obtain ⟨o, ho, h2⟩ := ob_eq hr
  obtain ⟨c, hc, h3⟩ := ob_eq h2
  rw [nth_eq] at h3
  obtain ⟨p, l, r, el, fz, h4, h5, hp, _⟩ := hw.cells hx ho hc
  obtain ⟨u, h6, h7⟩ := concL_get off h4 h3
  refine ⟨u, h6, ?_⟩
  have h8 : w.cell? (x.ad off) = some u := by
    rw [cell_ad h5 hp, List.getElem?_append_left (by rw [List.getElem?_eq_some_iff] at h7; exact h7.1)]; exact h7
  simp [run_load, h8]
theorem rdN_run {W : Wd} {P : Program} {B : Nat} {zf : H} {ε : Env} {h : H} {nx : Nat} {w : World} (hw : WR W B zf ε h nx w) {b : Pth} {x : Ent} {off n : Nat} {vs : List V}
    (hx : ε b = some x) (hr : rdN h b off n = some vs) : ∃ us, concL ε vs = some us ∧ us.length = n ∧ (loadCells (x.ad off) n).run P w = .ok us.toArray w := by
  obtain ⟨o, ho, h2⟩ := ob_eq hr
  obtain ⟨c, hc, h3⟩ := ob_eq h2
  rw [ldrop_eq] at h3
  obtain ⟨h6, rfl⟩ := ltake_some _ _ _ h3
  obtain ⟨p, l, r, el, fz, h4, h5, hp, _⟩ := hw.cells hx ho hc
  have hl := concL_length h4
  have h7 := concL_take n (concL_drop off h4)
  have hn : ((l.drop off).take n).length = n := by simp at h6 ⊢; omega
  refine ⟨_, h7, hn, ?_⟩
  have := run_loadCells_list (P := P) w (x.ad off) ((l.drop off).take n) (fun j v hj => by
    rw [Ent.ad_add, cell_ad h5 hp]
    rw [List.getElem?_take] at hj
    split at hj
    · rw [List.getElem?_drop] at hj
      rw [List.getElem?_append_left (by rw [List.getElem?_eq_some_iff] at hj; exact hj.1)]; exact hj
    · cases hj)
  rw [hn] at this
  exact this

/-- a value of one cell -/
theorem scalar_one {ε : Env} {v : V} {x : Value} (h : scalar v = true) (hx : conc ε v = some x) : x.oneCell' = true := by
  cases v <;> simp only [scalar] at h <;> simp only [conc] at hx
  all_goals first
    | (cases h; done)
    | (cases hx; rfl)
    | skip
  · rename_i b off
    cases hb : ε b with
    | none => rw [hb] at hx; cases hx
    | some y => rw [hb] at hx; cases hx; rfl
  · rename_i b _ _ _
    cases hb : ε b with
    | none => rw [hb] at hx; cases hx
    | some y => rw [hb] at hx; cases hx; rfl
  · rename_i b _ _
    cases hb : ε b with
    | none => rw [hb] at hx; cases hx
    | some y =>
      rw [hb] at hx; simp only [Option.bind_some, soC] at hx
      split at hx
      · cases hx; rfl
      · cases hx
  · rename_i b _ _
    cases hb : ε b with
    | none => rw [hb] at hx; cases hx
    | some y => rw [hb] at hx; cases hx; rfl
  · rename_i b
    cases hb : ε b with
    | none => rw [hb] at hx; cases hx
    | some y => rw [hb] at hx; cases hx; rfl
  · split at hx
    · cases hx; rfl
    · cases hx
  · rename_i b
    cases hb : ε b with
    | none => rw [hb] at hx; cases hx
    | some y => rw [hb] at hx; cases hx; rfl
  · split at hx
    · cases hx; rfl
    · cases hx
theorem scalar_all {ε : Env} : ∀ {l : List V} {x : List Value}, l.all scalar = true → concL ε l = some x → ∀ u ∈ x, u.oneCell' = true
  | [], x, _, h => by cases h; simp
  | v :: vs, x, hs, h => by
    obtain ⟨a, as, ha, hb, rfl⟩ := concL_cons h
    simp only [List.all_cons, Bool.and_eq_true] at hs
    intro u hu
    simp only [List.mem_cons] at hu
    rcases hu with rfl | hu
    · exact scalar_one hs.1 ha
    · exact scalar_all hs.2 hb u hu

/-! what a step does to the environment and the memory -/
/-- from one memory to the next: the environment grows; what it does not know stays -/
structure Ev (ε : Env) (h : H) (nx : Nat) (ε' : Env) (h' : H) (nx' : Nat) : Prop where
  ext : Ext ε ε'
  le : nx ≤ nx'
  pend : ∀ n, n < nx → ε (pth n) = none → ε' (pth n) = none ∧ T.get (pth n) h' = T.get (pth n) h
theorem Ev.refl (ε : Env) (h : H) (nx : Nat) : Ev ε h nx ε h nx := ⟨Ext.refl ε, Nat.le_refl _, fun _ _ k => ⟨k, rfl⟩⟩
theorem Ev.trans {a b c : Env} {h i j : H} {l m n : Nat} (x : Ev a h l b i m) (y : Ev b i m c j n) : Ev a h l c j n :=
  ⟨x.ext.trans y.ext, Nat.le_trans x.le y.le, fun k hk hn => by
    obtain ⟨h1, h2⟩ := x.pend k hk hn
    obtain ⟨h3, h4⟩ := y.pend k (Nat.lt_of_lt_of_le hk x.le) h1
    exact ⟨h3, h4.trans h2⟩⟩
/-- blocks of a frozen memory stay -/
def Frz (z h h' : H) : Prop := ∀ b, (T.get b z).isSome = true → T.get b h' = T.get b h
theorem Frz.refl (z h : H) : Frz z h h := fun _ _ => rfl
theorem Frz.trans {z a b c : H} (x : Frz z a b) (y : Frz z b c) : Frz z a c := fun p hp => (y p hp).trans (x p hp)
theorem frz_none {z : H} {b : Pth} (hz : frz z b = true) : T.get b z = none := by
  unfold frz at hz
  cases z with
  | e => exact T.get_e b
  | n u l r =>
    simp only [] at hz
    cases hg : T.get b (T.n u l r) with
    | none => rfl
    | some o => rw [hg] at hz; cases hz
theorem frz_put {z : H} {b : Pth} (h : H) (v : Option O) (hz : frz z b = true) : Frz z h (T.put b v h) := by
  intro p hp
  refine T.get_put_ne v h (fun e => ?_)
  subst e
  unfold frz at hz
  cases z with
  | e => rw [T.get_e] at hp; cases hp
  | n u l r =>
    simp only [] at hz
    cases hg : T.get b (T.n u l r) with
    | none => rw [hg] at hp; cases hp
    | some o => rw [hg] at hz; cases hz
end Go.AM
end
section
/- Writing to a block, turning a block, making a block. -/
namespace Go.AM
open Go.RowKit (Below)

open Classical in
noncomputable def Env.upd (ε : Env) (b : Pth) (x : Ent) : Env := fun p => if p = b then some x else ε p
theorem Env.upd_same (ε : Env) (b : Pth) (x : Ent) : ε.upd b x b = some x := by simp [Env.upd]
theorem Env.upd_ne (ε : Env) {b p : Pth} (x : Ent) (h : p ≠ b) : ε.upd b x p = ε p := by simp [Env.upd, h]
theorem Env.upd_ext {ε : Env} {b : Pth} (x : Ent) (h : ε b = none) : Ext ε (ε.upd b x) := fun p y hp => by
  by_cases e : p = b
  · subst e; rw [h] at hp; cases hp
  · rw [Env.upd_ne _ _ e]; exact hp

/-- one block is turned: the rest stays -/
theorem WR.turn {W : Wd} {B : Nat} {zf : H} {ε : Env} {h : H} {nx : Nat} {w w' : World} (hw : WR W B zf ε h nx w) {b : Pth} {x : Ent} {o o' : O} {k : Obj}
    (hx : ε b = some x) (ho : T.get b h = some o) (hzb : T.get b zf = none) (hs : w'.heap.size = w.heap.size) (hk : w'.heap[x.cb]? = some k) (hr : OR W ε x o' k) (hlo : LoOk x o')
    (hq : ∀ i, i ≠ x.cb → w'.heap[i]? = w.heap[i]?) : WR W B zf ε (T.put b (some o') h) nx w' := by
  refine ⟨fun p y q hy hp => ?_, fun p p' y y' hy hy' hp hp' hzp e => ?_, fun n hn => ?_, by rw [hs]; exact hw.base⟩
  · by_cases e : p = b
    · subst e
      rw [T.get_put_same] at hp; cases hp
      rw [hx] at hy; cases hy
      exact ⟨k, hk, hr, fun _ => by obtain ⟨_, _, _, h3, _⟩ := hw.blk p x o hx ho; exact h3 hzb, hlo⟩
    · rw [T.get_put_ne _ _ (fun z => e z.symm)] at hp
      obtain ⟨k', h1, h2, h3⟩ := hw.blk p y q hy hp
      refine ⟨k', ?_, h2, h3⟩
      rw [hq]
      · exact h1
      · intro z
        exact e (hw.inj b p x y hx hy (by rw [ho]; rfl) (by rw [hp]; rfl) hzb z.symm).symm
  · have g : ∀ q, (T.get q (T.put b (some o') h)).isSome = true → (T.get q h).isSome = true := fun q hq' => by
      by_cases e : q = b
      · subst e; rw [ho]; rfl
      · rwa [T.get_put_ne _ _ (fun z => e z.symm)] at hq'
    exact hw.inj p p' y y' hy hy' (g p hp) (g p' hp') hzp e
  · obtain ⟨h1, h2⟩ := hw.fresh n hn
    refine ⟨h1, ?_⟩
    have : b ≠ pth n := fun e => by subst e; rw [h1] at hx; cases hx
    rw [T.get_put_ne _ _ this]; exact h2

theorem Below.of_turn {B : Nat} {w w' : World} {g : Nat} (hB : B ≤ g) (ht : w'.tape = w.tape) (ho : w'.os = w.os) (hp : w'.output = w.output) (hs : w'.heap.size = w.heap.size)
    (hq : ∀ i, i ≠ g → w'.heap[i]? = w.heap[i]?) : Below B w w' :=
  ⟨ho, ht, hp, by omega, fun k hk => hq k (by omega)⟩

theorem setRow_other (w : World) (g : Nat) (cs : Array Value) (i : Nat) (h : i ≠ g) : (w.setRow g cs).heap[i]? = w.heap[i]? := by
  simp only [World.setRow, Array.getElem?_modify]
  rw [if_neg (by omega)]
theorem setRow_size (w : World) (g : Nat) (cs : Array Value) : (w.setRow g cs).heap.size = w.heap.size := by simp [World.setRow]

/-- writing -/
theorem wr_run {W : Wd} {P : Program} {B : Nat} {zf : H} {ε : Env} {h h' : H} {nx : Nat} {w : World} (hw : WR W B zf ε h nx w) {b : Pth} {x : Ent} {off : Nat} {vs : List V} {us : List Value}
    (hx : ε b = some x) (hzb : T.get b zf = none) (hr : wr h b off vs = some h') (hu : concL ε vs = some us) :
    ∃ w', (storeCells (x.ad off) us).run P w = .ok () w' ∧ WR W B zf ε h' nx w' ∧ Below B w w' ∧ ∃ o', h' = T.put b (some o') h ∧ (T.get b h).isSome = true := by
  obtain ⟨hsc, h2⟩ := bc_some hr
  obtain ⟨o, ho, h3⟩ := ob_eq h2
  obtain ⟨c, hc, h4⟩ := ob_eq h3
  obtain ⟨c', hp, h5⟩ := ob_eq h4
  cases h5
  obtain ⟨hlen, rfl⟩ := lput_some _ _ _ _ hp
  obtain ⟨l, r, el, h6, h7, hlo, h8, h9⟩ := hw.cellsW hx ho hc
  have hl := concL_length h6
  have hul := concL_length hu
  rw [Ent.ad_at hlo]
  have hst := run_storeCells_at P x.cb off el us 0 (l ++ r).toArray w h7 (by simp; omega) (scalar_all hsc hu)
  have e1 : ((l ++ r).toArray.toList.take (off + 0) ++ us ++ (l ++ r).toArray.toList.drop (off + 0 + us.length)) = (l.take off ++ us ++ l.drop (off + vs.length)) ++ r := by
    simp only [Nat.add_zero, List.append_assoc]
    rw [List.take_append_of_le_length (by omega), List.drop_append_of_le_length (by omega), hul]
  rw [e1] at hst
  have hc' : concL ε (c.take off ++ vs ++ c.drop (off + vs.length)) = some (l.take off ++ us ++ l.drop (off + vs.length)) :=
    concL_append (concL_append (concL_take off h6) hu) (concL_drop _ h6)
  refine ⟨_, hst, ?_, ?_, setCells o _, rfl, by rw [ho]; rfl⟩
  · refine hw.turn hx ho hzb (setRow_size _ _ _) (setRow_heap w x.cb _ _ el (0, 0) h7) (h9 _ _ hc' ?_).1 (h9 _ _ hc' ?_).2 (setRow_other w x.cb _) <;> (simp; omega)
  · exact Below.of_turn (h8 hzb) rfl rfl rfl (setRow_size _ _ _) (setRow_other w x.cb _)

/-- making -/
theorem WR.make {W : Wd} {B : Nat} {zf : H} {ε : Env} {h : H} {nx : Nat} {w : World} (hw : WR W B zf ε h nx w) (csz esz : Nat) {o : O} {k : Obj}
    (hr : OR W (ε.upd (pth nx) ⟨w.heap.size, csz, esz, 0⟩) ⟨w.heap.size, csz, esz, 0⟩ o k) :
    WR W B zf (ε.upd (pth nx) ⟨w.heap.size, csz, esz, 0⟩) (T.put (pth nx) (some o) h) (nx + 1) (w.alloc k) ∧ Below B w (w.alloc k) ∧
      Ev ε h nx (ε.upd (pth nx) ⟨w.heap.size, csz, esz, 0⟩) (T.put (pth nx) (some o) h) (nx + 1) := by
  obtain ⟨f1, f2⟩ := hw.fresh nx (Nat.le_refl _)
  have hext := Env.upd_ext (ε := ε) (b := pth nx) ⟨w.heap.size, csz, esz, 0⟩ f1
  have hold : ∀ p y q, ε p = some y → T.get p h = some q → y.cb < w.heap.size := fun p y q hy hp => by
    obtain ⟨k', h1, _, _⟩ := hw.blk p y q hy hp
    exact (Array.getElem?_eq_some_iff.1 h1).1
  refine ⟨⟨fun p y q hy hp => ?_, fun p p' y y' hy hy' hp hp' hzp e => ?_, fun n hn => ?_, by have := hw.base; simp; omega⟩, (Below.refl B w).alloc hw.base k, ⟨hext, Nat.le_succ _, fun n hn hnone => ?_⟩⟩
  · by_cases e : p = pth nx
    · subst e
      rw [T.get_put_same] at hp; cases hp
      rw [Env.upd_same] at hy; cases hy
      exact ⟨k, by show (w.heap.push k)[w.heap.size]? = some k; simp, hr, fun _ => hw.base, LoOk.zero rfl o⟩
    · rw [T.get_put_ne _ _ (fun z => e z.symm)] at hp
      rw [Env.upd_ne _ _ e] at hy
      obtain ⟨k', h1, h2, h3⟩ := hw.blk p y q hy hp
      exact ⟨k', by rw [Below.heap_alloc _ _ _ (hold p y q hy hp)]; exact h1, h2.mono hext, h3⟩
  · by_cases e1 : p = pth nx
    · by_cases e2 : p' = pth nx
      · rw [e1, e2]
      · subst e1
        rw [Env.upd_same] at hy; cases hy
        rw [Env.upd_ne _ _ e2] at hy'
        rw [T.get_put_ne _ _ (fun z => e2 z.symm)] at hp'
        obtain ⟨q, hq⟩ := Option.isSome_iff_exists.1 hp'
        have := hold p' y' q hy' hq
        simp at e; omega
    · rw [Env.upd_ne _ _ e1] at hy
      rw [T.get_put_ne _ _ (fun z => e1 z.symm)] at hp
      by_cases e2 : p' = pth nx
      · subst e2
        rw [Env.upd_same] at hy'; cases hy'
        obtain ⟨q, hq⟩ := Option.isSome_iff_exists.1 hp
        have := hold p y q hy hq
        simp at e; omega
      · rw [Env.upd_ne _ _ e2] at hy'
        rw [T.get_put_ne _ _ (fun z => e2 z.symm)] at hp'
        exact hw.inj p p' y y' hy hy' hp hp' hzp e
  · have : pth n ≠ pth nx := fun e => by have := pth_inj e; omega
    rw [Env.upd_ne _ _ this, T.get_put_ne _ _ (fun z => this z.symm)]
    exact hw.fresh n (by omega)
  · have : pth n ≠ pth nx := fun e => by have := pth_inj e; omega
    rw [Env.upd_ne _ _ this, T.get_put_ne _ _ (fun z => this z.symm)]
    exact ⟨hnone, rfl⟩
theorem WR.drew {W : Wd} {B : Nat} {zf : H} {ε : Env} {h : H} {nx : Nat} {w : World} (hw : WR W B zf ε h nx w) : WR W B zf ε h nx w.drew := ⟨hw.blk, hw.inj, hw.fresh, hw.base⟩
end Go.AM
end
