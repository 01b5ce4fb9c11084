/- Parts of the proof, joined: AmCtC AmPoly AmPoly2 AmCtD AmCtE AmPoly3 AmPoly4 AmPoly5 AmMade1. -/
import Derived.Test.YtfhfilkicbdboaaGreatAmCtB
import Derived.KernelRfl
section
/- The run of the sum of two short polynomials. -/
noncomputable section
namespace Go.AM
open Go.Proofs
open Go.RowKit (Below)

def tm (s : Bool) (p q : Nat) (x : Nat → Int) : List V := [.bl s, .so (pth p) 0 1, .bl false, .so (pth q) 0 1, .int .i64 (x 0), .int .i64 (x 1), .int .i64 (x 2), .int .i64 (x 3), .int .i64 (x 4), .int .i64 (x 5), .int .i64 (x 6), .int .i64 (x 7)]
/-- what a sum of polynomials is given: up to two terms and up to one -/
structure PD where
  s : Nat → Bool
  a : Nat → Nat
  x : Nat → Nat → Int
def outT (d : PD) (np : Nat) : List V := match np with
  | 0 => []
  | 1 => tm (d.s 0) 0 1 (d.x 0)
  | _ => tm (d.s 0) 0 1 (d.x 0) ++ tm (d.s 1) 2 3 (d.x 1)
def tT (d : PD) (nq : Nat) : List V := match nq with
  | 0 => []
  | _ => tm (d.s 2) 4 5 (d.x 2)
def putIf (c : Bool) (p : Nat) (o : O) (h : H) : H := bc c (T.put (pth p) (some o) h) h
def hPoly (d : PD) (np nq : Nat) (b c : Bool) : H :=
  putIf c 7 (.win (tT d nq)) (putIf b 6 (.win (outT d np)) (putIf (Nat.ble 1 nq) 5 (wb 1) (putIf (Nat.ble 1 nq) 4 (wb (d.a 2)) (putIf (Nat.ble 2 np) 3 (wb 1) (putIf (Nat.ble 2 np) 2 (wb (d.a 1))
    (putIf (Nat.ble 1 np) 1 (wb 1) (putIf (Nat.ble 1 np) 0 (wb (d.a 0)) .e)))))))
def isSo (v : V) (i : Nat) : Bool := match v with | .so p 0 1 => eqP p (pth i) | _ => false
def is8 (l : List V) : Bool := match l with
  | [.int .i64 _, .int .i64 _, .int .i64 _, .int .i64 _, .int .i64 _, .int .i64 _, .int .i64 _, .int .i64 _] => true
  | _ => false
def sumAn (h : H) (nx : Nat) (s : Bool) (m : Nat) : An := ⟨.ag [.bl s, .sl (pth nx) 0 1 1, .bl false, .sl (pth (nx + 1)) 0 1 1], T.put (pth (nx + 1)) (some (wb 1)) (T.put (pth nx) (some (wb m)) h), nx + 2⟩
def sums (h : H) (nx : Nat) (N : Nat) : List An := Nat.rec (motive := fun _ => List An) [⟨.ag [.bl false, .s0, .bl false, .sl (pth nx) 0 1 1], T.put (pth nx) (some (wb 1)) h, nx + 1⟩]
  (fun k l => sumAn h nx false (k + 1) :: sumAn h nx true (k + 1) :: l) N
def orb (a b : Bool) : Bool := bc a true b
def andb (a b : Bool) : Bool := bc a b false
def ansP (N np nq : Nat) (f : FuncId) (vs : List V) (h : H) (nx : Nat) : Option (List An) :=
  bc (Nat.beq f 34) (match vs with
    | [.ag l, .ag l'] => bc (andb (is8 l) (is8 l')) (some [⟨.int .i64 (.negSucc 0), h, nx⟩, ⟨.int .i64 (.ofNat 0), h, nx⟩, ⟨.int .i64 (.ofNat 1), h, nx⟩]) none
    | _ => none)
  (bc (Nat.beq f 35) (match vs with
    | [.ag [.bl _, x, .bl false, y], .ag [.bl _, x', .bl false, y']] => bc (andb (orb (andb (Nat.ble 1 np) (andb (isSo x 0) (isSo y 1))) (andb (Nat.ble 2 np) (andb (isSo x 2) (isSo y 3)))) (andb (Nat.ble 1 nq) (andb (isSo x' 4) (isSo y' 5)))) (some (sums h nx N)) none
    | _ => none) none)
def pHold : Hold := ⟨[34, 35], [], fun _ => false⟩
/-- a slice of one word: one of those given, or one that can be read -/
def numB (np nq : Nat) (h : H) (N : Nat) (v : V) : Bool := match v with
  | .so p 0 1 => orb (andb (Nat.ble 1 np) (eqP p (pth 0))) (orb (andb (Nat.ble 2 np) (eqP p (pth 2))) (andb (Nat.ble 1 nq) (eqP p (pth 4))))
  | .sl p 0 1 1 => andb (Nat.ble 1 (wordAt h p)) (Nat.ble (wordAt h p) N)
  | _ => false
def denB (h : H) (v : V) : Bool := match v with
  | .so p 0 1 => Nat.beq (wordAt h p) 1
  | .sl p 0 1 1 => Nat.beq (wordAt h p) 1
  | _ => false
def termStep (np nq : Nat) (h : H) (N : Nat) (ih : List V → Bool) (l : List V) : Bool := match l with
  | .bl _ :: x :: .bl false :: y :: .int .i64 _ :: .int .i64 _ :: .int .i64 _ :: .int .i64 _ :: .int .i64 _ :: .int .i64 _ :: .int .i64 _ :: .int .i64 _ :: r => andb (numB np nq h N x) (andb (denB h y) (ih r))
  | _ => false
def termsB (np nq : Nat) (h : H) (N : Nat) (n : Nat) : List V → Bool := Nat.rec (motive := fun _ => List V → Bool) (fun _ => true) (fun _ ih => termStep np nq h N ih) n
def polyB (np nq : Nat) (h : H) (N M : Nat) (v : V) : Bool := match v with
  | .s0 => true
  | .sl p 0 n c => andb (andb (Nat.ble n M) (Nat.ble n c)) (match T.get p h with | some o => (match cellsOf o with | some l => termsB np nq h N n l | none => false) | none => false)
  | .so p 0 n => andb (Nat.ble n M) (match T.get p h with | some o => (match cellsOf o with | some l => termsB np nq h N n l | none => false) | none => false)
  | _ => false
/-- a slice of n terms, or none -/
def outV (np : Nat) (b : Bool) : V := bc b (.so (pth 6) 0 np) .s0
def tV (nq : Nat) (c : Bool) : V := bc c (.so (pth 7) 0 nq) .s0
def sumRun (d : PD) (N np nq : Nat) (b c : Bool) : Bool := runC W0 18 [outV np b, tV nq c] (hPoly d np nq b c) 8 pHold (ansP N np nq) (fun v h _ => polyB np nq h N (np + 1) v) 12 16
theorem sum_run00 (d : PD) : bools (fun b => bools fun c => sumRun d 9 0 0 b c) = true := by kernel_rfl
theorem sum_run00' (d : PD) : bools (fun b => bools fun c => sumRun d 6 0 0 b c) = true := by kernel_rfl
theorem sum_run01 (d : PD) : bools (fun b => sumRun d 9 0 1 b true) = true := by kernel_rfl
theorem sum_run01' (d : PD) : bools (fun b => sumRun d 6 0 1 b true) = true := by kernel_rfl
theorem sum_run10 (d : PD) : bools (fun c => sumRun d 9 1 0 true c) = true := by kernel_rfl
theorem sum_run10' (d : PD) : bools (fun c => sumRun d 6 1 0 true c) = true := by kernel_rfl
theorem sum_run20 (d : PD) : bools (fun c => sumRun d 9 2 0 true c) = true := by kernel_rfl
theorem sum_run00'' (d : PD) : bools (fun b => bools fun c => sumRun d 3 0 0 b c) = true := by kernel_rfl
theorem sum_run01'' (d : PD) : bools (fun b => sumRun d 3 0 1 b true) = true := by kernel_rfl
end Go.AM
end
end
section
/- Small whole rationals and short polynomials in the model's memory. -/
noncomputable section
namespace Go.AM
open Go.Proofs
open Go.RowKit (Below)

/-- a slice of one word between lo and hi -/
def NumAt (w : World) (v : Value) (lo hi : Nat) : Prop :=
  ∃ (cb off cap : Nat) (pre : List Value) (a : Nat) (r : List Value) (el : TypeId) (fz : Nat × Nat), v = .slice (some ⟨cb, off, none⟩) 1 cap ∧ 1 ≤ cap ∧ w.heap[cb]? = some (.cells (pre ++ (.int .u32 (.ofNat a) :: r)).toArray el fz) ∧ pre.length = off ∧ lo ≤ a ∧ a ≤ hi
def ints (x : Nat → Int) : List Value := [.int .i64 (x 0), .int .i64 (x 1), .int .i64 (x 2), .int .i64 (x 3), .int .i64 (x 4), .int .i64 (x 5), .int .i64 (x 6), .int .i64 (x 7)]
def TermAt (w : World) (N : Nat) (l : List Value) : Prop := ∃ s X Y x, l = .bool s :: X :: .bool false :: Y :: ints x ∧ NumAt w X 1 N ∧ NumAt w Y 1 1
/-- a slice of n terms -/
def PolyAt (w : World) (N n : Nat) (v : Value) : Prop :=
  (v = .slice none 0 0 ∧ n = 0) ∨ ∃ (cb off cap : Nat) (pre : List Value) (ts : List (List Value)) (r : List Value) (el : TypeId) (fz : Nat × Nat), v = .slice (some ⟨cb, off, none⟩) n cap ∧ n ≤ cap ∧ w.heap[cb]? = some (.cells (pre ++ (ts.flatten ++ r)).toArray el fz) ∧ pre.length = off ∧ ts.length = n ∧ ∀ t ∈ ts, TermAt w N t
theorem NumAt.below {w w' : World} {v : Value} {lo hi : Nat} (h : NumAt w v lo hi) (b : Below w.heap.size w w') : NumAt w' v lo hi := by
  obtain ⟨cb, off, cap, pre, a, r, el, fz, h1, h2, h3, h4⟩ := h
  exact ⟨cb, off, cap, pre, a, r, el, fz, h1, h2, by rw [b.block _ (Array.getElem?_eq_some_iff.1 h3).1]; exact h3, h4⟩
theorem TermAt.below {w w' : World} {N : Nat} {l : List Value} (h : TermAt w N l) (b : Below w.heap.size w w') : TermAt w' N l := by
  obtain ⟨s, X, Y, x, h1, h2, h3⟩ := h
  exact ⟨s, X, Y, x, h1, h2.below b, h3.below b⟩
theorem PolyAt.below {w w' : World} {N n : Nat} {v : Value} (h : PolyAt w N n v) (b : Below w.heap.size w w') : PolyAt w' N n v := by
  rcases h with h | ⟨cb, off, cap, pre, ts, r, el, fz, h1, h2, h3, h4, h5, h6⟩
  · exact .inl h
  · exact .inr ⟨cb, off, cap, pre, ts, r, el, fz, h1, h2, by rw [b.block _ (Array.getElem?_eq_some_iff.1 h3).1]; exact h3, h4, h5, fun t ht => (h6 t ht).below b⟩
theorem NumAt.mono {w : World} {v : Value} {lo hi hi' : Nat} (h : NumAt w v lo hi) (k : hi ≤ hi') : NumAt w v lo hi' := by
  obtain ⟨cb, off, cap, pre, a, r, el, fz, h1, h2, h3, h4, h5, h6⟩ := h
  exact ⟨cb, off, cap, pre, a, r, el, fz, h1, h2, h3, h4, h5, by omega⟩
theorem TermAt.mono {w : World} {N M : Nat} {l : List Value} (h : TermAt w N l) (k : N ≤ M) : TermAt w M l := by
  obtain ⟨s, X, Y, x, h1, h2, h3⟩ := h
  exact ⟨s, X, Y, x, h1, h2.mono k, h3⟩
theorem PolyAt.mono {w : World} {N M n : Nat} {v : Value} (h : PolyAt w N n v) (k : N ≤ M) : PolyAt w M n v := by
  rcases h with h | ⟨cb, off, cap, pre, ts, r, el, fz, h1, h2, h3, h4, h5, h6⟩
  · exact .inl h
  · exact .inr ⟨cb, off, cap, pre, ts, r, el, fz, h1, h2, h3, h4, h5, fun t ht => (h6 t ht).mono k⟩

section
variable {W : Wd} {B : Nat} {z : H} {w : World} {ε : Env} {h : H} {nx : Nat}
theorem WR.skip (hw : WR W B z ε h nx w) : WR W B z ε h (nx + 1) w := ⟨hw.blk, hw.inj, fun n hn => hw.fresh n (by omega), hw.base⟩
/-- a word that is given -/
theorem WR.givenNum (hw : WR W B h ε h nx w) {X : Value} {lo hi : Nat} (hX : NumAt w X lo hi) :
    ∃ a ε', lo ≤ a ∧ a ≤ hi ∧ WR W B (T.put (pth nx) (some (wb a)) h) ε' (T.put (pth nx) (some (wb a)) h) (nx + 1) w ∧ Ext ε ε' ∧ conc ε' (.so (pth nx) 0 1) = some X := by
  obtain ⟨cb, off, cap, pre, a, r, el, fz, h1, h2, h3, h4, h5, h6⟩ := hX
  refine ⟨a, ε.upd (pth nx) ⟨cb, cap, 1, off⟩, h5, h6, hw.given (x := ⟨cb, cap, 1, off⟩) (o := wb a) h3 ⟨pre, [.int .u32 (.ofNat a)], r, el, rfl, fz, by simp, h4⟩ trivial, Env.upd_ext _ (hw.fresh nx (Nat.le_refl _)).1, ?_⟩
  have := conc_so_mk (ε := ε.upd (pth nx) ⟨cb, cap, 1, off⟩) (b := pth nx) (off := 0) (n := 1) (Env.upd_same _ _ _) (Nat.succ_pos 0) (by simpa using h2)
  rw [this, h1]
  simp [Ent.ad]
theorem WR.givenNum1 (hw : WR W B h ε h nx w) {X : Value} (hX : NumAt w X 1 1) :
    ∃ ε', WR W B (T.put (pth nx) (some (wb 1)) h) ε' (T.put (pth nx) (some (wb 1)) h) (nx + 1) w ∧ Ext ε ε' ∧ conc ε' (.so (pth nx) 0 1) = some X := by
  obtain ⟨a, ε', h1, h2, h3, h4, h5⟩ := hw.givenNum hX
  have : a = 1 := by omega
  subst this
  exact ⟨ε', h3, h4, h5⟩
theorem concL_ints (ε : Env) (x : Nat → Int) : concL ε (eight x) = some (ints x) := rfl
/-- a term that is given -/
theorem WR.givenTerm (hw : WR W B h ε h nx w) {N : Nat} {l : List Value} (hl : TermAt w N l) :
    ∃ s a x ε', 1 ≤ a ∧ a ≤ N ∧ WR W B (T.put (pth (nx + 1)) (some (wb 1)) (T.put (pth nx) (some (wb a)) h)) ε' (T.put (pth (nx + 1)) (some (wb 1)) (T.put (pth nx) (some (wb a)) h)) (nx + 2) w ∧ Ext ε ε' ∧ concL ε' (tm s nx (nx + 1) x) = some l := by
  obtain ⟨s, X, Y, x, rfl, hX, hY⟩ := hl
  obtain ⟨a, ε1, h1, h2, h3, h4, h5⟩ := hw.givenNum hX
  obtain ⟨ε2, k1, k2, k3⟩ := h3.givenNum1 hY
  refine ⟨s, a, x, ε2, h1, h2, k1, h4.trans k2, ?_⟩
  exact concL_mk rfl (concL_mk (conc_mono k2 _ _ h5) (concL_mk rfl (concL_mk k3 (concL_ints ε2 x))))
/-- terms in a row that are given -/
theorem WR.givenRow (hw : WR W B h ε h nx w) {cb off cap n : Nat} {pre l r : List Value} {el : TypeId} {fz : Nat × Nat} {c : List V} (hc : concL ε c = some l) (hk : w.heap[cb]? = some (.cells (pre ++ (l ++ r)).toArray el fz)) (hp : pre.length = off) (hn : n ≤ cap) :
    ∃ ε', WR W B (T.put (pth nx) (some (.win c)) h) ε' (T.put (pth nx) (some (.win c)) h) (nx + 1) w ∧ Ext ε ε' ∧ conc ε' (.so (pth nx) 0 n) = some (.slice (some ⟨cb, off, none⟩) n cap) := by
  have hext := Env.upd_ext (ε := ε) (b := pth nx) ⟨cb, 12 * cap, 12, off⟩ (hw.fresh nx (Nat.le_refl _)).1
  refine ⟨ε.upd (pth nx) ⟨cb, 12 * cap, 12, off⟩, hw.given (x := ⟨cb, 12 * cap, 12, off⟩) (o := .win c) hk ⟨pre, l, r, el, concL_mono hext _ _ hc, fz, rfl, hp⟩ trivial, hext, ?_⟩
  have := conc_so_mk (ε := ε.upd (pth nx) ⟨cb, 12 * cap, 12, off⟩) (b := pth nx) (off := 0) (n := n) (Env.upd_same _ _ _) (Nat.succ_pos 11) (by simp; omega)
  rw [this]
  simp [Ent.ad]
/-- the first word of a block that is known -/
theorem WR.numAt (hw : WR W B z ε h nx w) {p : Pth} {x : Ent} {o : O} {a : Nat} {c : List V} (hx : ε p = some x) (ho : T.get p h = some o) (hc : cellsOf o = some (.int .u32 (.ofNat a) :: c)) :
    ∃ pre r el fz, w.heap[x.cb]? = some (.cells (pre ++ (.int .u32 (.ofNat a) :: r)).toArray el fz) ∧ pre.length = x.lo := by
  obtain ⟨pre, l, r, el, fz, h1, h2, h3, _⟩ := hw.cells hx ho hc
  obtain ⟨u, us, k1, k2, rfl⟩ := concL_cons h1
  cases k1
  exact ⟨pre, us ++ r, el, fz, by simpa using h2, h3⟩
theorem wordAt_cells {p : Pth} (hp : 1 ≤ wordAt h p) : ∃ o c, T.get p h = some o ∧ cellsOf o = some (.int .u32 (.ofNat (wordAt h p)) :: c) := by
  unfold wordAt at hp ⊢
  cases ho : T.get p h with
  | none => rw [ho] at hp; cases hp
  | some o =>
    rw [ho] at hp
    simp only at hp ⊢
    refine ⟨o, ?_⟩
    cases hc : cellsOf o with
    | none => rw [hc] at hp; cases hp
    | some l =>
      rw [hc] at hp
      simp only at hp ⊢
      cases l with
      | nil => cases hp
      | cons v l =>
        simp only at hp ⊢
        cases v with
        | int k n =>
          cases k with
          | u32 => cases n with
            | ofNat a => exact ⟨l, trivial, rfl⟩
            | negSucc a => cases hp
          | _ => cases hp
        | _ => cases hp
end
end Go.AM
end
end
section
/- The contracts of Cmp and of the sum of two rationals. -/
noncomputable section
namespace Go.AM
open Go.Proofs
open Go.RowKit (Below)

theorem eqP_refl : ∀ p : Pth, eqP p p = true
  | .z => rfl
  | .l p => eqP_refl p
  | .r p => eqP_refl p
theorem isInt_eq {k : IntKind} {m : Int} {v : V} (h : isInt k m v = true) : v = .int k m := by
  unfold isInt at h
  split at h
  · rename_i j x
    obtain ⟨h1, h2⟩ := bc_and h
    rw [ieq_eq, beq_iff_eq] at h2
    have : j = k := by
      cases j <;> cases k <;> first | rfl | (cases h1; done)
    rw [this, h2]
  · cases h
theorem int_all {k : IntKind} {m : Int} : ∀ (ε1 ε2 : Env) (x : Value), conc ε1 (.int k m) = some x → conc ε2 (.int k m) = some x := fun _ _ _ h => h
theorem allF_below {φ : Nat → Bool} : ∀ {n : Nat}, allF φ (below n) = true → ∀ i, i < n → φ i = true
  | 0, _, i, hi => by omega
  | n + 1, h, i, hi => by
    obtain ⟨h1, h2⟩ := bc_and (show bc (φ n) (allF φ (below n)) false = true from h)
    by_cases e : i = n
    · rw [e]; exact h1
    · exact allF_below h2 i (by omega)
theorem bools_all {φ : Bool → Bool} (h : bools φ = true) (b : Bool) : φ b = true := by
  obtain ⟨h1, h2⟩ := bc_and (show bc (φ false) (φ true) false = true from h)
  cases b <;> assumption
theorem has_body {n : FuncId} {args : List V} {h : H} {nx : Nat} {p : Hold} {ans : FuncId → List V → H → Nat → Option (List An)} {fin : V → H → Nat → Bool} {d k : Nat} (ht : runC W0 n args h nx p ans fin d k = true) : ∃ b, bodyOf W0 n = some b := by
  unfold runC enter at ht
  cases hb : bodyOf W0 n with
  | none => rw [hb] at ht; cases ht
  | some b => exact ⟨b, rfl⟩
section
variable {B : Nat} {z : H} {w : World} {ε : Env} {h : H} {nx : Nat}
theorem cmp_con (hw : WR W0 B z ε h nx w) (f g : Nat → Int) (cs : List Frame) :
    ∃ m, (m = .negSucc 0 ∨ m = .ofNat 0 ∨ m = .ofNat 1) ∧ Sound W0 Tryz.prog B z 34 ε h nx w #[.agg (ints f).toArray, .agg (ints g).toArray] cs (.int .i64 m) h nx := by
  obtain ⟨v, h', nx', hf, hc⟩ := call_plain good0 (cmp_run f g) (WR.void W0 w) (args := [.agg (ints f).toArray, .agg (ints g).toArray]) rfl cs
  have hv : v = .int .i64 (.negSucc 0) ∨ v = .int .i64 (.ofNat 0) ∨ v = .int .i64 (.ofNat 1) := by
    have hf : bc (isInt .i64 (.negSucc 0) v) true (bc (isInt .i64 (.ofNat 0) v) true (isInt .i64 (.ofNat 1) v)) = true := hf
    cases h1 : isInt .i64 (.negSucc 0) v with
    | true => exact .inl (isInt_eq h1)
    | false =>
      rw [h1, bc_false] at hf
      cases h2 : isInt .i64 (.ofNat 0) v with
      | true => exact .inr (.inl (isInt_eq h2))
      | false => rw [h2, bc_false] at hf; exact .inr (.inr (isInt_eq hf))
  rcases hv with rfl | rfl | rfl
  · exact ⟨_, .inl rfl, hc.val hw int_all⟩
  · exact ⟨_, .inr (.inl rfl), hc.val hw int_all⟩
  · exact ⟨_, .inr (.inr rfl), hc.val hw int_all⟩
theorem abs_con (hw : WR W0 B z ε h nx w) (n : Int) (h1 : -128 ≤ n) (h2 : n ≤ 127) (cs : List Frame) :
    ∃ a, a ≤ 128 ∧ Sound W0 Tryz.prog B z 17 ε h nx w #[.int .i8 n] cs (.int .i64 (.ofNat a)) h nx := by
  have e : i8 (n + 128).toNat = n := by
    unfold i8; rw [iadd_eq]
    have : (Int.ofNat (n + 128).toNat) = n + 128 := Int.toNat_of_nonneg (by omega)
    rw [this]
    show n + 128 + (-128) = n
    omega
  have hr := allF_below abs_run (n + 128).toNat (by omega)
  rw [e] at hr
  obtain ⟨v, h', nx', hf, hc⟩ := call_plain good0 hr (WR.void W0 w) (args := [.int .i8 n]) rfl cs
  have := isInt_eq hf
  subst this
  refine ⟨natAbs n, ?_, hc.val hw int_all⟩
  cases n with
  | ofNat a => show a ≤ 128; simp at h2; omega
  | negSucc a => show Nat.succ a ≤ 128; omega
/-- a new word of a call is taken over -/
theorem WR.adoptNum {ε' : Env} {h' zc : H} {nc : Nat} {w' : World} (hw : WR W0 B z ε h nx w') (hc : WR W0 w.heap.size zc ε' h' nc w') {p : Pth} {x : Ent} {a : Nat} (hx : ε' p = some x) (ha : 1 ≤ wordAt h' p) (hn : newB zc p = true) (hwa : wordAt h' p = a)
    (hb : B ≤ w.heap.size) (hne : ∀ p y q, ε p = some y → T.get p h = some q → y.cb ≠ x.cb) :
    WR W0 B z (ε.upd (pth nx) x) (T.put (pth nx) (some (wb a)) h) (nx + 1) w' ∧ EvB nx ε h (ε.upd (pth nx) x) (T.put (pth nx) (some (wb a)) h) ∧ w.heap.size ≤ x.cb := by
  obtain ⟨o, c, h1, h2⟩ := wordAt_cells ha
  rw [hwa] at h2
  obtain ⟨pre, r, el, fz, h3, h4⟩ := hc.numAt hx h1 h2
  have hz : T.get p zc = none := by
    unfold newB at hn
    cases hg : T.get p zc with
    | none => rfl
    | some o => rw [hg] at hn; cases hn
  obtain ⟨k, _, _, h5, _⟩ := hc.blk p x o hx h1
  have h5 := h5 hz
  obtain ⟨g1, g2⟩ := hw.adopt (x := x) (o := wb a) h3 (Nat.le_trans hb h5) ⟨pre, [.int .u32 (.ofNat a)], r, el, rfl, fz, by simp, h4⟩ trivial hne
  exact ⟨g1, g2, h5⟩
/-- an answer is among the answers -/
theorem sums_mem {h : H} {nx : Nat} : ∀ {N m : Nat} (s : Bool), 1 ≤ m → m ≤ N → sumAn h nx s m ∈ sums h nx N
  | 0, m, s, h1, h2 => by omega
  | N + 1, m, s, h1, h2 => by
    show sumAn h nx s m ∈ sumAn h nx false (N + 1) :: sumAn h nx true (N + 1) :: sums h nx N
    by_cases e : m = N + 1
    · subst e; cases s <;> simp
    · exact List.mem_cons_of_mem _ (List.mem_cons_of_mem _ (sums_mem s h1 (by omega)))
theorem sums_zero {h : H} {nx : Nat} : ∀ N, (⟨.ag [.bl false, .s0, .bl false, .sl (pth nx) 0 1 1], T.put (pth nx) (some (wb 1)) h, nx + 1⟩ : An) ∈ sums h nx N
  | 0 => List.mem_singleton.2 rfl
  | N + 1 => List.mem_cons_of_mem _ (List.mem_cons_of_mem _ (sums_zero N))
theorem sum_con (hw : WR W0 B z ε h nx w) (hz : Keeps z h) {s t : Bool} {X Y X' Y' : Value} {N M K : Nat} (hN : N ≤ 6) (hM : M ≤ 3) (hK : N + M ≤ K) (hX : NumAt w X 1 N) (hY : NumAt w Y 1 1) (hX' : NumAt w X' 1 M) (hY' : NumAt w Y' 1 1) (cs : List Frame) :
    ∃ a ∈ sums h nx K, nx ≤ a.nx ∧ Frz z h a.h ∧ Sound W0 Tryz.prog B z 35 ε h nx w #[.agg #[.bool s, X, .bool false, Y], .agg #[.bool t, X', .bool false, Y']] cs a.v a.h a.nx := by
  obtain ⟨a, ε1, a1, a2, a3, a4, a5⟩ := (WR.void W0 w).givenNum hX
  obtain ⟨ε2, b3, b4, b5⟩ := a3.givenNum1 hY
  obtain ⟨b, ε3, c1, c2, c3, c4, c5⟩ := b3.givenNum hX'
  obtain ⟨ε4, d3, d4, d5⟩ := c3.givenNum1 hY'
  have hr := bools_all (bools_all (allF_below (allF_below add_run (a - 1) (by omega)) (b - 1) (by omega)) s) t
  have ea : a - 1 + 1 = a := by omega
  have eb : b - 1 + 1 = b := by omega
  have es : a - 1 + (b - 1) + 2 = a + b := by omega
  rw [ea, eb, es] at hr
  have hargs : concL ε4 [rat s 0 1, rat t 2 3] = some [.agg #[.bool s, X, .bool false, Y], .agg #[.bool t, X', .bool false, Y']] := by
    have e34 := c4.trans d4
    have e24 := b4.trans e34
    have h1 : concL ε4 [.bl s, .so (pth 0) 0 1, .bl false, .so (pth 1) 0 1] = some [.bool s, X, .bool false, Y] :=
      concL_mk rfl (concL_mk (conc_mono e24 _ _ a5) (concL_mk rfl (concL_mk (conc_mono e34 _ _ b5) rfl)))
    have h2 : concL ε4 [.bl t, .so (pth 2) 0 1, .bl false, .so (pth 3) 0 1] = some [.bool t, X', .bool false, Y'] :=
      concL_mk rfl (concL_mk (conc_mono d4 _ _ c5) (concL_mk rfl (concL_mk d5 rfl)))
    exact concL_mk (by rw [rat, conc, h1]) (concL_mk (by rw [rat, conc, h2]) rfl)
  obtain ⟨v, h', nx', hf, ε', w', fr, x, g1, g2, g3, g4, g5, g6, g7, g8⟩ := call_plain good0 hr d3 hargs cs
  have hw' := hw.below g8
  have hB : Below B w w' := ⟨g8.os, g8.tape, g8.output, g8.size, fun k hk => g8.block k (Nat.lt_of_lt_of_le hk hw.base)⟩
  have old : ∀ p y q, ε p = some y → T.get p h = some q → y.cb < w.heap.size := fun p y q hy hq => hw.lt hy hq
  unfold sumOk at hf
  split at hf
  · rename_i s' x' q'
    obtain ⟨f1, f2⟩ := bc_and hf
    obtain ⟨f3, f4⟩ := bc_and f2
    have f3 := Nat.eq_of_beq_eq_true f3
    obtain ⟨l, hl, rfl⟩ := conc_ag g3
    obtain ⟨u0, us, _, hl1, rfl⟩ := concL_cons hl
    obtain ⟨u1, us, hu1, hl2, rfl⟩ := concL_cons hl1
    obtain ⟨u2, us, _, hl3, rfl⟩ := concL_cons hl2
    obtain ⟨u3, us, hu3, hl4, rfl⟩ := concL_cons hl3
    cases hl4
    rename_i k0 k2
    cases k0; cases k2
    obtain ⟨yq, hq, rfl⟩ := conc_sl hu3
    split at f4
    · -- nothing
      have : s' = false := by cases s' with | false => rfl | true => cases f4
      subst this
      cases hu1
      obtain ⟨j1, j2, j3⟩ := hw'.adoptNum (w := w) g4 (a := 1) hq (by omega) f1 f3 hw.base (fun p y q hy hq' e => by
        obtain ⟨o, c, k1, _⟩ := wordAt_cells (h := h') (p := q') (by omega)
        obtain ⟨k, _, _, k3, _⟩ := g4.blk _ _ _ hq k1
        have hz : T.get q' (hRat a b) = none := by
          unfold newB at f1
          cases hg : T.get q' (hRat a b) with
          | none => rfl
          | some o => rw [hg] at f1; cases f1
        have := k3 hz
        have := old p y q hy hq'
        omega)
      refine ⟨_, sums_zero K, Nat.le_succ nx, frz_fresh hw' hz _, ?_⟩
      refine ⟨_, w', fr, _, g1, g2, j1, hB, ?_, j2⟩
      have := conc_sl_mk (ε := ε.upd (pth nx) yq) (b := pth nx) 0 1 1 (Env.upd_same _ _ _)
      rw [conc, concL_mk rfl (concL_mk rfl (concL_mk rfl (concL_mk this rfl)))]
    · rename_i p'
      obtain ⟨m1, m2⟩ := bc_and f4
      obtain ⟨m3, m4⟩ := bc_and m2
      obtain ⟨m5, m6⟩ := bc_and m4
      have m3 := Nat.le_of_ble_eq_true m3
      have m5 := Nat.le_of_ble_eq_true m5
      obtain ⟨yp, hp, rfl⟩ := conc_sl hu1
      have znone : ∀ {q : Pth}, newB (hRat a b) q = true → T.get q (hRat a b) = none := fun {q} hn => by
        unfold newB at hn
        cases hg : T.get q (hRat a b) with
        | none => rfl
        | some o => rw [hg] at hn; cases hn
      have big : ∀ {q : Pth} {x : Ent}, newB (hRat a b) q = true → ε' q = some x → 1 ≤ wordAt h' q → w.heap.size ≤ x.cb := fun {q x} hn hx hwd => by
        obtain ⟨o, c, k1, _⟩ := wordAt_cells hwd
        obtain ⟨k, _, _, k3, _⟩ := g4.blk _ _ _ hx k1
        exact k3 (znone hn)
      have hdis : yp.cb ≠ yq.cb := fun e => by
        obtain ⟨o, c, k1, _⟩ := wordAt_cells m3
        obtain ⟨o', c', k1', _⟩ := wordAt_cells (h := h') (p := q') (by omega)
        have := g4.inj p' q' yp yq hp hq (by rw [k1]; rfl) (by rw [k1']; rfl) (znone m1) e
        subst this
        have : eqP p' p' = true := eqP_refl p'
        rw [this] at m6; cases m6
      obtain ⟨i1, i2, i3⟩ := hw'.adoptNum (w := w) g4 (a := wordAt h' p') hp m3 m1 rfl hw.base (fun p y q hy hq' e => by
        have := big m1 hp m3
        have := old p y q hy hq'
        omega)
      obtain ⟨j1, j2, j3⟩ := i1.adoptNum (w := w) g4 (a := 1) hq (by omega) f1 f3 hw.base (fun p y q hy hq' e => by
        by_cases ep : p = pth nx
        · subst ep
          rw [Env.upd_same] at hy; cases hy
          exact hdis e
        · rw [Env.upd_ne _ _ ep] at hy
          rw [T.get_put_ne _ _ fun z => ep z.symm] at hq'
          have := big f1 hq (by omega)
          have := old p y q hy hq'
          omega)
      have hin : sumAn h nx s' (wordAt h' p') ∈ sums h nx K := sums_mem s' m3 (by omega)
      refine ⟨_, hin, by show nx ≤ nx + 2; omega, ?_, ?_⟩
      · show Frz z h (T.put (pth (nx + 1)) (some (wb 1)) (T.put (pth nx) (some (wb (wordAt h' p'))) h))
        exact (frz_fresh hw' hz _).trans (frz_fresh i1 (hz.frz (frz_fresh hw' hz _)) _)
      · refine ⟨_, w', fr, _, g1, g2, j1, hB, ?_, i2.trans (j2.le (Nat.le_succ nx))⟩
        have e1 := conc_sl_mk (ε := (ε.upd (pth nx) yp).upd (pth (nx + 1)) yq) (b := pth (nx + 1)) 0 1 1 (Env.upd_same _ _ _)
        have e2 := conc_mono j2.ext _ _ (conc_sl_mk (ε := ε.upd (pth nx) yp) (b := pth nx) 0 1 1 (Env.upd_same _ _ _))
        show conc _ (.ag [.bl s', .sl (pth nx) 0 1 1, .bl false, .sl (pth (nx + 1)) 0 1 1]) = _
        rw [conc, concL_mk rfl (concL_mk e2 (concL_mk rfl (concL_mk e1 rfl)))]
    · cases f4
  · cases hf
end
end Go.AM
end
end
section
/- The run of the sum of a polynomial of one term and one of one term. -/
noncomputable section
namespace Go.AM
theorem sum_run11 (d : PD) : sumRun d 9 1 1 true true = true := by kernel_rfl
theorem sum_run11' (d : PD) : sumRun d 6 1 1 true true = true := by kernel_rfl
end Go.AM
end
end
section
/- The run of the sum of a polynomial of two terms and one of one term. -/
noncomputable section
namespace Go.AM
theorem sum_run21 (d : PD) : sumRun d 9 2 1 true true = true := by kernel_rfl
end Go.AM
end
end
section
/- The contract of the sum of polynomials. -/
noncomputable section
namespace Go.AM
open Go.Proofs
open Go.RowKit (Below)

theorem andb_eq {a b : Bool} (h : andb a b = true) : a = true ∧ b = true := bc_and h
theorem orb_eq {a b : Bool} (h : orb a b = true) : a = true ∨ b = true := by
  cases a with
  | true => exact .inl rfl
  | false => exact .inr h
theorem isSo_eq {v : V} {i : Nat} (h : isSo v i = true) : v = .so (pth i) 0 1 := by
  unfold isSo at h
  split at h
  · rw [eqP_eq h]
  · cases h
theorem concL_bl {ε : Env} {s : Bool} {l : List V} {L : List Value} (h : concL ε (.bl s :: l) = some L) : ∃ L', concL ε l = some L' ∧ L = .bool s :: L' := by
  obtain ⟨a, as', e, hl, rfl⟩ := concL_cons h
  cases e
  exact ⟨as', hl, rfl⟩
theorem concL_int {ε : Env} {k : IntKind} {m : Int} {l : List V} {L : List Value} (h : concL ε (.int k m :: l) = some L) : ∃ L', concL ε l = some L' ∧ L = .int k m :: L' := by
  obtain ⟨a, as', e, hl, rfl⟩ := concL_cons h
  cases e
  exact ⟨as', hl, rfl⟩
theorem is8_eq {l : List V} (h : is8 l = true) : ∃ f, l = eight f := by
  unfold is8 at h
  split at h
  · rename_i a0 a1 a2 a3 a4 a5 a6 a7
    exact ⟨fun i => match i with | 0 => a0 | 1 => a1 | 2 => a2 | 3 => a3 | 4 => a4 | 5 => a5 | 6 => a6 | _ => a7, rfl⟩
  · cases h
section
variable {W : Wd} {B : Nat} {z : H} {w : World} {ε : Env} {h : H} {nx : Nat}
theorem WR.soNum (hw : WR W B z ε h nx w) {p : Pth} {a : Nat} (ho : T.get p h = some (wb a)) {X : Value} (hX : conc ε (.so p 0 1) = some X) : NumAt w X a a := by
  obtain ⟨y, hy, h0, hle, rfl⟩ := conc_so hX
  obtain ⟨pre, r, el, fz, h1, h2⟩ := hw.numAt hy ho rfl
  exact ⟨y.cb, y.lo + 0, _, pre, a, r, el, fz, rfl, by rw [Nat.le_div_iff_mul_le h0]; omega, h1, h2, Nat.le_refl _, Nat.le_refl _⟩
theorem WR.soWord (hw : WR W B z ε h nx w) {p : Pth} {a : Nat} (ha : 1 ≤ a) (hwd : wordAt h p = a) {X : Value} (hX : conc ε (.so p 0 1) = some X) : NumAt w X a a := by
  subst hwd
  obtain ⟨o, c, ho, hc⟩ := wordAt_cells ha
  obtain ⟨y, hy, h0, hle, rfl⟩ := conc_so hX
  obtain ⟨pre, r, el, fz, h1, h2⟩ := hw.numAt hy ho hc
  exact ⟨y.cb, y.lo + 0, _, pre, _, r, el, fz, rfl, by rw [Nat.le_div_iff_mul_le h0]; omega, h1, h2, Nat.le_refl _, Nat.le_refl _⟩
theorem WR.slWord (hw : WR W B z ε h nx w) {p : Pth} {a : Nat} (ha : 1 ≤ a) (hwd : wordAt h p = a) {X : Value} (hX : conc ε (.sl p 0 1 1) = some X) : NumAt w X a a := by
  subst hwd
  obtain ⟨o, c, ho, hc⟩ := wordAt_cells ha
  obtain ⟨y, hy, rfl⟩ := conc_sl hX
  obtain ⟨pre, r, el, fz, h1, h2⟩ := hw.numAt hy ho hc
  exact ⟨y.cb, y.lo + 0, _, pre, _, r, el, fz, rfl, Nat.le_refl _, h1, h2, Nat.le_refl _, Nat.le_refl _⟩
/-- what is known of the words that are given -/
def Knows (z : H) (np nq N : Nat) : Prop :=
  (1 ≤ np → (∃ a, 1 ≤ a ∧ a ≤ N ∧ T.get (pth 0) z = some (wb a)) ∧ T.get (pth 1) z = some (wb 1)) ∧ (2 ≤ np → (∃ a, 1 ≤ a ∧ a ≤ N ∧ T.get (pth 2) z = some (wb a)) ∧ T.get (pth 3) z = some (wb 1)) ∧
    (1 ≤ nq → (∃ a, 1 ≤ a ∧ a ≤ 3 ∧ T.get (pth 4) z = some (wb a)) ∧ T.get (pth 5) z = some (wb 1))
theorem NumAt.wide {v : Value} {a lo hi : Nat} (h : NumAt w v a a) (h1 : lo ≤ a) (h2 : a ≤ hi) : NumAt w v lo hi := by
  obtain ⟨cb, off, cap, pre, b, r, el, fz, k1, k2, k3, k4, k5, k6⟩ := h
  exact ⟨cb, off, cap, pre, b, r, el, fz, k1, k2, k3, k4, by omega, by omega⟩
theorem numB_at (hw : WR W B z ε h nx w) (hz : Keeps z h) {np nq N N0 : Nat} (hk : Knows z np nq N0) (h0 : N0 ≤ N) (h3 : 3 ≤ N) {v : V} (hb : numB np nq h N v = true) {X : Value} (hX : conc ε v = some X) : NumAt w X 1 N := by
  unfold numB at hb
  split at hb
  · rename_i p
    obtain ⟨k1, k2, k3⟩ := hk
    have key : ∀ {q : Pth} {K : Nat}, K ≤ N → (∃ a, 1 ≤ a ∧ a ≤ K ∧ T.get q z = some (wb a)) → eqP p q = true → NumAt w X 1 N := by
      intro q K hK ha e
      obtain ⟨a, a1, a2, a3⟩ := ha
      have := eqP_eq e
      subst this
      exact (hw.soNum (hz _ _ a3) hX).wide a1 (by omega)
    rcases orb_eq hb with e | e
    · obtain ⟨e1, e2⟩ := andb_eq e
      exact key h0 (k1 (Nat.le_of_ble_eq_true e1)).1 e2
    · rcases orb_eq e with e | e
      · obtain ⟨e1, e2⟩ := andb_eq e
        exact key h0 (k2 (Nat.le_of_ble_eq_true e1)).1 e2
      · obtain ⟨e1, e2⟩ := andb_eq e
        exact key h3 (k3 (Nat.le_of_ble_eq_true e1)).1 e2
  · obtain ⟨e1, e2⟩ := andb_eq hb
    have e1 := Nat.le_of_ble_eq_true e1
    have e2 := Nat.le_of_ble_eq_true e2
    exact (hw.slWord e1 rfl hX).wide e1 e2
  · cases hb
theorem denB_at (hw : WR W B z ε h nx w) {v : V} (hb : denB h v = true) {X : Value} (hX : conc ε v = some X) : NumAt w X 1 1 := by
  unfold denB at hb
  split at hb
  · exact hw.soWord (Nat.le_refl _) (Nat.eq_of_beq_eq_true hb) hX
  · exact hw.slWord (Nat.le_refl _) (Nat.eq_of_beq_eq_true hb) hX
  · cases hb
theorem termsB_at (hw : WR W B z ε h nx w) (hz : Keeps z h) {np nq N N0 : Nat} (hk : Knows z np nq N0) (h0 : N0 ≤ N) (h3 : 3 ≤ N) : ∀ {n : Nat} {l : List V} {L : List Value}, termsB np nq h N n l = true → concL ε l = some L →
    ∃ (ts : List (List Value)) (r : List Value), L = ts.flatten ++ r ∧ ts.length = n ∧ ∀ t ∈ ts, TermAt w N t
  | 0, l, L, _, _ => ⟨[], L, rfl, rfl, fun t ht => by cases ht⟩
  | n + 1, l, L, hb, hl => by
    have hb : termStep np nq h N (termsB np nq h N n) l = true := hb
    unfold termStep at hb
    split at hb
    · rename_i s x y m0 m1 m2 m3 m4 m5 m6 m7 r hh
      obtain ⟨b1, b2⟩ := andb_eq hb
      obtain ⟨b3, b4⟩ := andb_eq b2
      obtain ⟨L1, g1, rfl⟩ := concL_bl hl
      obtain ⟨X, L2, hX, g2, rfl⟩ := concL_cons g1
      obtain ⟨L3, g3, rfl⟩ := concL_bl g2
      obtain ⟨Y, L4, hY, g4, rfl⟩ := concL_cons g3
      obtain ⟨L5, g5, rfl⟩ := concL_int g4
      obtain ⟨L6, g6, rfl⟩ := concL_int g5
      obtain ⟨L7, g7, rfl⟩ := concL_int g6
      obtain ⟨L8, g8, rfl⟩ := concL_int g7
      obtain ⟨L9, g9, rfl⟩ := concL_int g8
      obtain ⟨L10, g10, rfl⟩ := concL_int g9
      obtain ⟨L11, g11, rfl⟩ := concL_int g10
      obtain ⟨L', g12, rfl⟩ := concL_int g11
      obtain ⟨ts, r', h1, h2, h4⟩ := termsB_at hw hz hk h0 h3 b4 g12
      refine ⟨[.bool _, X, .bool false, Y, .int .i64 m0, .int .i64 m1, .int .i64 m2, .int .i64 m3, .int .i64 m4, .int .i64 m5, .int .i64 m6, .int .i64 m7] :: ts, r', by rw [h1]; rfl, by rw [List.length_cons, h2], fun t ht => ?_⟩
      rcases List.mem_cons.1 ht with rfl | ht
      · exact ⟨_, X, Y, fun i => match i with | 0 => m0 | 1 => m1 | 2 => m2 | 3 => m3 | 4 => m4 | 5 => m5 | 6 => m6 | _ => m7, rfl, numB_at hw hz hk h0 h3 b1 hX, denB_at hw b3 hY⟩
      · exact h4 t ht
    · cases hb
theorem polyB_at (hw : WR W B z ε h nx w) (hz : Keeps z h) {np nq N N0 M : Nat} (hk : Knows z np nq N0) (h0 : N0 ≤ N) (h3 : 3 ≤ N) {v : V} (hb : polyB np nq h N M v = true) {x : Value} (hx : conc ε v = some x) : ∃ n, n ≤ M ∧ PolyAt w N n x := by
  have key : ∀ {p : Pth} {y : Ent} {n cap : Nat}, ε p = some y → n ≤ cap → (match T.get p h with | some o => (match cellsOf o with | some l => termsB np nq h N n l | none => false) | none => false) = true → PolyAt w N n (.slice (some (y.ad 0)) n cap) := by
    intro p y n cap hy hn ht
    cases ho : T.get p h with
    | none => rw [ho] at ht; cases ht
    | some o =>
      rw [ho] at ht
      simp only at ht
      cases hc : cellsOf o with
      | none => rw [hc] at ht; cases ht
      | some l =>
        rw [hc] at ht
        simp only at ht
        obtain ⟨pre, L, r, el, fz, h1, h2, h4, _⟩ := hw.cells hy ho hc
        obtain ⟨ts, r', e, e2, e3⟩ := termsB_at hw hz hk h0 h3 ht h1
        subst e
        exact .inr ⟨y.cb, y.lo + 0, cap, pre, ts, r' ++ r, el, fz, rfl, hn, by rw [h2, List.append_assoc], h4, e2, e3⟩
  unfold polyB at hb
  split at hb
  · cases hx; exact ⟨0, Nat.zero_le _, .inl ⟨rfl, rfl⟩⟩
  · rename_i p n c
    obtain ⟨b1, b2⟩ := andb_eq hb
    obtain ⟨b3, b4⟩ := andb_eq b1
    obtain ⟨y, hy, rfl⟩ := conc_sl hx
    exact ⟨n, Nat.le_of_ble_eq_true b3, key hy (Nat.le_of_ble_eq_true b4) b2⟩
  · rename_i p n
    obtain ⟨b1, b2⟩ := andb_eq hb
    obtain ⟨y, hy, g0, hle, rfl⟩ := conc_so hx
    exact ⟨n, Nat.le_of_ble_eq_true b1, key hy (by rw [Nat.le_div_iff_mul_le g0]; omega) b2⟩
  · cases hb
end
end Go.AM
end
end
section
/- The contract of the sum of polynomials: what is given, the answers, what comes of it. -/
noncomputable section
namespace Go.AM
open Go.Proofs
open Go.RowKit (Below)

theorem body34 : ∃ b, bodyOf W0 34 = some b := has_body (cmp_run (fun _ => 0) (fun _ => 0))
theorem body35 : ∃ b, bodyOf W0 35 = some b := has_body (bools_all (bools_all (allF_below (allF_below add_run 0 (by omega)) 0 (by omega)) false) false)
section
variable {B : Nat} {z : H} {w : World} {ε : Env} {h : H} {nx : Nat}
theorem rat_args {ε : Env} {s : Bool} {x y : V} {A : Value} (hA : conc ε (.ag [.bl s, x, .bl false, y]) = some A) : ∃ X Y, conc ε x = some X ∧ conc ε y = some Y ∧ A = .agg #[.bool s, X, .bool false, Y] := by
  obtain ⟨L, hL, rfl⟩ := conc_ag hA
  obtain ⟨L1, g1, rfl⟩ := concL_bl hL
  obtain ⟨X, L2, hX, g2, rfl⟩ := concL_cons g1
  obtain ⟨L3, g3, rfl⟩ := concL_bl g2
  obtain ⟨Y, L4, hY, g4, rfl⟩ := concL_cons g3
  cases g4
  exact ⟨X, Y, hX, hY, rfl⟩
theorem ansP_ok {np nq K N : Nat} (hN : N ≤ 6) (hK : N + 3 ≤ K) (hk : Knows z np nq N) : ∀ f vs h1 nx1 l, ansP K np nq f vs h1 nx1 = some l → (∃ b, bodyOf W0 f = some b) ∧ ∀ ε w1 args, WR W0 B z ε h1 nx1 w1 → Keeps z h1 → concL ε vs = some args →
      ∀ cs, ∃ a ∈ l, nx1 ≤ a.nx ∧ Frz z h1 a.h ∧ Sound W0 Tryz.prog B z f ε h1 nx1 w1 args.toArray cs a.v a.h a.nx := by
  intro f vs h1 nx1 l ha
  unfold ansP at ha
  cases h34 : Nat.beq f 34 with
  | true =>
    have := Nat.eq_of_beq_eq_true h34
    subst this
    rw [h34, bc_true] at ha
    refine ⟨body34, fun ε w1 args hw hz hargs cs => ?_⟩
    split at ha
    · rename_i l1 l2
      obtain ⟨h8, e⟩ := bc_some ha
      cases e
      obtain ⟨e1, e2⟩ := andb_eq h8
      obtain ⟨f1, rfl⟩ := is8_eq e1
      obtain ⟨f2, rfl⟩ := is8_eq e2
      obtain ⟨A, L, hA, hL, rfl⟩ := concL_cons hargs
      obtain ⟨A', L', hA', hL', rfl⟩ := concL_cons hL
      cases hL'
      cases hA
      cases hA'
      obtain ⟨m, hm, hs⟩ := cmp_con hw f1 f2 cs
      rcases hm with rfl | rfl | rfl
      · exact ⟨⟨.int .i64 (.negSucc 0), h1, nx1⟩, by simp, Nat.le_refl _, Frz.refl _ _, hs⟩
      · exact ⟨⟨.int .i64 (.ofNat 0), h1, nx1⟩, by simp, Nat.le_refl _, Frz.refl _ _, hs⟩
      · exact ⟨⟨.int .i64 (.ofNat 1), h1, nx1⟩, by simp, Nat.le_refl _, Frz.refl _ _, hs⟩
    · cases ha
  | false =>
    rw [h34, bc_false] at ha
    obtain ⟨h35, ha⟩ := bc_some ha
    have := Nat.eq_of_beq_eq_true h35
    subst this
    refine ⟨body35, fun ε w1 args hw hz hargs cs => ?_⟩
    split at ha
    · rename_i s x y t x' y'
      obtain ⟨h8, e⟩ := bc_some (x := some (sums h1 nx1 K)) ha
      cases e
      obtain ⟨e1, e2⟩ := andb_eq h8
      obtain ⟨k1, k2, k3⟩ := hk
      obtain ⟨A, L, hA, hL, rfl⟩ := concL_cons hargs
      obtain ⟨A', L', hA', hL', rfl⟩ := concL_cons hL
      cases hL'
      obtain ⟨X, Y, hX, hY, rfl⟩ := rat_args hA
      obtain ⟨X', Y', hX', hY', rfl⟩ := rat_args hA'
      have hone : NumAt w1 X 1 N ∧ NumAt w1 Y 1 1 := by
        rcases orb_eq e1 with e | e
        · obtain ⟨i1, i2⟩ := andb_eq e
          obtain ⟨i3, i4⟩ := andb_eq i2
          rw [isSo_eq i3] at hX
          rw [isSo_eq i4] at hY
          obtain ⟨⟨a, a1, a2, a3⟩, a4⟩ := k1 (Nat.le_of_ble_eq_true i1)
          exact ⟨(hw.soNum (hz _ _ a3) hX).wide a1 a2, hw.soNum (hz _ _ a4) hY⟩
        · obtain ⟨i1, i2⟩ := andb_eq e
          obtain ⟨i3, i4⟩ := andb_eq i2
          rw [isSo_eq i3] at hX
          rw [isSo_eq i4] at hY
          obtain ⟨⟨a, a1, a2, a3⟩, a4⟩ := k2 (Nat.le_of_ble_eq_true i1)
          exact ⟨(hw.soNum (hz _ _ a3) hX).wide a1 a2, hw.soNum (hz _ _ a4) hY⟩
      have htwo : NumAt w1 X' 1 3 ∧ NumAt w1 Y' 1 1 := by
        obtain ⟨i1, i2⟩ := andb_eq e2
        obtain ⟨i3, i4⟩ := andb_eq i2
        rw [isSo_eq i3] at hX'
        rw [isSo_eq i4] at hY'
        obtain ⟨⟨a, a1, a2, a3⟩, a4⟩ := k3 (Nat.le_of_ble_eq_true i1)
        exact ⟨(hw.soNum (hz _ _ a3) hX').wide a1 a2, hw.soNum (hz _ _ a4) hY'⟩
      exact sum_con hw hz hN (Nat.le_refl 3) hK hone.1 hone.2 htwo.1 htwo.2 cs
    · cases ha
/-- up to two terms are given -/
theorem given_out {w : World} {N np : Nat} (hnp : np ≤ 2) {ts : List (List Value)} (hl : ts.length = np) (ht : ∀ t ∈ ts, TermAt w N t) :
    ∃ d : PD, ∃ ε1, (1 ≤ np → 1 ≤ d.a 0 ∧ d.a 0 ≤ N) ∧ (2 ≤ np → 1 ≤ d.a 1 ∧ d.a 1 ≤ N) ∧
      WR W0 w.heap.size (putIf (Nat.ble 2 np) 3 (wb 1) (putIf (Nat.ble 2 np) 2 (wb (d.a 1)) (putIf (Nat.ble 1 np) 1 (wb 1) (putIf (Nat.ble 1 np) 0 (wb (d.a 0)) .e)))) ε1
        (putIf (Nat.ble 2 np) 3 (wb 1) (putIf (Nat.ble 2 np) 2 (wb (d.a 1)) (putIf (Nat.ble 1 np) 1 (wb 1) (putIf (Nat.ble 1 np) 0 (wb (d.a 0)) .e)))) 4 w ∧ concL ε1 (outT d np) = some ts.flatten := by
  match np, ts, hl with
  | 0, [], _ => exact ⟨⟨fun _ => false, fun _ => 0, fun _ _ => 0⟩, _, fun h => absurd h (by omega), fun h => absurd h (by omega), (WR.void W0 w).skip.skip.skip.skip, rfl⟩
  | 1, [t0], _ =>
    obtain ⟨s, a, x, ε1, h1, h2, h3, h4, h5⟩ := (WR.void W0 w).givenTerm (ht t0 (by simp))
    exact ⟨⟨fun _ => s, fun _ => a, fun _ => x⟩, ε1, fun _ => ⟨h1, h2⟩, fun h => absurd h (by omega), h3.skip.skip, by show concL ε1 (tm s 0 1 x) = _; rw [h5]; simp⟩
  | 2, [t0, t1], _ =>
    obtain ⟨s, a, x, ε1, h1, h2, h3, h4, h5⟩ := (WR.void W0 w).givenTerm (ht t0 (by simp))
    obtain ⟨s', a', x', ε2, k1, k2, k3, k4, k5⟩ := h3.givenTerm (ht t1 (by simp))
    refine ⟨⟨fun i => match i with | 0 => s | _ => s', fun i => match i with | 0 => a | _ => a', fun i => match i with | 0 => x | _ => x'⟩, ε2, fun _ => ⟨h1, h2⟩, fun _ => ⟨k1, k2⟩, k3, ?_⟩
    show concL ε2 (tm s 0 1 x ++ tm s' 2 3 x') = _
    rw [concL_append (concL_mono k4 _ _ h5) k5]
    simp
  | n + 3, _, _ => omega
end
end Go.AM
end
end
section
/- The contract of the sum of polynomials. -/
noncomputable section
namespace Go.AM
open Go.Proofs
open Go.RowKit (Below)

theorem sum_runs (d : PD) {np nq K : Nat} {b c : Bool} (hnp : np ≤ 2) (hnq : nq ≤ 1) (hb : b = false → np = 0) (hc : c = false → nq = 0) (hK : K = 9 ∨ K = 6 ∧ np ≤ 1 ∨ K = 3 ∧ np = 0) : sumRun d K np nq b c = true := by
  match np, nq, hnp, hnq with
  | 0, 0, _, _ =>
    rcases hK with rfl | ⟨rfl, _⟩ | ⟨rfl, _⟩
    · exact bools_all (bools_all (sum_run00 d) b) c
    · exact bools_all (bools_all (sum_run00' d) b) c
    · exact bools_all (bools_all (sum_run00'' d) b) c
  | 0, 1, _, _ =>
    have : c = true := by cases c with | true => rfl | false => exact absurd (hc rfl) (by omega)
    subst this
    rcases hK with rfl | ⟨rfl, _⟩ | ⟨rfl, _⟩
    · exact bools_all (sum_run01 d) b
    · exact bools_all (sum_run01' d) b
    · exact bools_all (sum_run01'' d) b
  | 1, 0, _, _ =>
    have : b = true := by cases b with | true => rfl | false => exact absurd (hb rfl) (by omega)
    subst this
    rcases hK with rfl | ⟨rfl, _⟩ | ⟨rfl, h⟩
    · exact bools_all (sum_run10 d) c
    · exact bools_all (sum_run10' d) c
    · omega
  | 1, 1, _, _ =>
    have : b = true := by cases b with | true => rfl | false => exact absurd (hb rfl) (by omega)
    subst this
    have : c = true := by cases c with | true => rfl | false => exact absurd (hc rfl) (by omega)
    subst this
    rcases hK with rfl | ⟨rfl, _⟩ | ⟨rfl, h⟩
    · exact sum_run11 d
    · exact sum_run11' d
    · omega
  | 2, 0, _, _ =>
    have : b = true := by cases b with | true => rfl | false => exact absurd (hb rfl) (by omega)
    subst this
    rcases hK with rfl | ⟨rfl, h⟩ | ⟨rfl, h⟩
    · exact bools_all (sum_run20 d) c
    · omega
    · omega
  | 2, 1, _, _ =>
    have : b = true := by cases b with | true => rfl | false => exact absurd (hb rfl) (by omega)
    subst this
    have : c = true := by cases c with | true => rfl | false => exact absurd (hc rfl) (by omega)
    subst this
    rcases hK with rfl | ⟨rfl, h⟩ | ⟨rfl, h⟩
    · exact sum_run21 d
    · omega
    · omega
  | np + 3, _, h, _ => omega
  | _, nq + 2, _, h => omega
theorem body18 : ∃ b, bodyOf W0 18 = some b := has_body (sum_run11 ⟨fun _ => false, fun _ => 1, fun _ _ => 0⟩)
section
variable {B : Nat} {z : H} {w : World} {ε : Env} {h : H} {nx : Nat}
theorem given_one (hw : WR W0 B h ε h 4 w) {N nq : Nat} (hnq : nq ≤ 1) {ts : List (List Value)} (hl : ts.length = nq) (ht : ∀ t ∈ ts, TermAt w N t) :
    ∃ s a x ε2, (1 ≤ nq → 1 ≤ a ∧ a ≤ N) ∧ WR W0 B (putIf (Nat.ble 1 nq) 5 (wb 1) (putIf (Nat.ble 1 nq) 4 (wb a) h)) ε2 (putIf (Nat.ble 1 nq) 5 (wb 1) (putIf (Nat.ble 1 nq) 4 (wb a) h)) 6 w ∧ Ext ε ε2 ∧
      concL ε2 (tT ⟨fun _ => s, fun _ => a, fun _ => x⟩ nq) = some ts.flatten := by
  match nq, ts, hl with
  | 0, [], _ => exact ⟨false, 0, fun _ => 0, ε, fun h => absurd h (by omega), hw.skip.skip, Ext.refl ε, rfl⟩
  | 1, [t0], _ =>
    obtain ⟨s, a, x, ε1, h1, h2, h3, h4, h5⟩ := hw.givenTerm (ht t0 (by simp))
    exact ⟨s, a, x, ε1, fun _ => ⟨h1, h2⟩, h3, h4, by show concL ε1 (tm s 4 5 x) = _; rw [h5]; simp⟩
  | n + 2, _, _ => omega
/-- the terms of a polynomial, and where they lie -/
def Lies (w : World) (X : Value) (n : Nat) (ts : List (List Value)) (b : Bool) : Prop :=
  (b = false ∧ X = .slice none 0 0 ∧ n = 0) ∨ b = true ∧ ∃ (cb off cap : Nat) (pre r : List Value) (el : TypeId) (fz : Nat × Nat), X = .slice (some ⟨cb, off, none⟩) n cap ∧ n ≤ cap ∧ w.heap[cb]? = some (.cells (pre ++ (ts.flatten ++ r)).toArray el fz) ∧ pre.length = off
theorem PolyAt.lies {N n : Nat} {X : Value} (hX : PolyAt w N n X) : ∃ ts b, ts.length = n ∧ (∀ t ∈ ts, TermAt w N t) ∧ Lies w X n ts b := by
  rcases hX with ⟨rfl, rfl⟩ | ⟨cb, off, cap, pre, ts, r, el, fz, h1, h2, h3, h4, h5, h6⟩
  · exact ⟨[], false, rfl, fun t ht => (by cases ht), .inl ⟨rfl, rfl, rfl⟩⟩
  · exact ⟨ts, true, h5, h6, .inr ⟨rfl, cb, off, cap, pre, r, el, fz, h1, h2, h3, h4⟩⟩
theorem Lies.given {X : Value} {n i : Nat} {ts : List (List Value)} {b : Bool} (hl : Lies w X n ts b) {h : H} {ε : Env} {c : List V} (hw : WR W0 B h ε h i w) (hc : concL ε c = some ts.flatten) :
    ∃ ε', WR W0 B (putIf b i (.win c) h) ε' (putIf b i (.win c) h) (i + 1) w ∧ Ext ε ε' ∧ conc ε' (bc b (.so (pth i) 0 n) .s0) = some X := by
  rcases hl with ⟨rfl, rfl, rfl⟩ | ⟨rfl, cb, off, cap, pre, r, el, fz, rfl, h2, h3, h4⟩
  · exact ⟨ε, hw.skip, Ext.refl ε, rfl⟩
  · exact hw.givenRow hc h3 h4 h2
theorem Lies.flag {X : Value} {n : Nat} {ts : List (List Value)} {b : Bool} (hl : Lies w X n ts b) : b = false → n = 0 := by
  rcases hl with ⟨_, _, h⟩ | ⟨h, _⟩
  · exact fun _ => h
  · exact fun e => by rw [h] at e; cases e
theorem knows_poly {d : PD} {np nq N : Nat} {b c : Bool} (hnp : np ≤ 2) (hnq : nq ≤ 1) (h0 : 1 ≤ np → 1 ≤ d.a 0 ∧ d.a 0 ≤ N) (h1 : 2 ≤ np → 1 ≤ d.a 1 ∧ d.a 1 ≤ N) (h2 : 1 ≤ nq → 1 ≤ d.a 2 ∧ d.a 2 ≤ 3) : Knows (hPoly d np nq b c) np nq N := by
  match np, nq, hnp, hnq with
  | 0, 0, _, _ => exact ⟨fun h => absurd h (by omega), fun h => absurd h (by omega), fun h => absurd h (by omega)⟩
  | 0, 1, _, _ => exact ⟨fun h => absurd h (by omega), fun h => absurd h (by omega), fun h => ⟨⟨d.a 2, (h2 h).1, (h2 h).2, by cases b <;> cases c <;> rfl⟩, by cases b <;> cases c <;> rfl⟩⟩
  | 1, 0, _, _ => exact ⟨fun h => ⟨⟨d.a 0, (h0 h).1, (h0 h).2, by cases b <;> cases c <;> rfl⟩, by cases b <;> cases c <;> rfl⟩, fun h => absurd h (by omega), fun h => absurd h (by omega)⟩
  | 1, 1, _, _ => exact ⟨fun h => ⟨⟨d.a 0, (h0 h).1, (h0 h).2, by cases b <;> cases c <;> rfl⟩, by cases b <;> cases c <;> rfl⟩, fun h => absurd h (by omega), fun h => ⟨⟨d.a 2, (h2 h).1, (h2 h).2, by cases b <;> cases c <;> rfl⟩, by cases b <;> cases c <;> rfl⟩⟩
  | 2, 0, _, _ => exact ⟨fun h => ⟨⟨d.a 0, (h0 (by omega)).1, (h0 (by omega)).2, by cases b <;> cases c <;> rfl⟩, by cases b <;> cases c <;> rfl⟩, fun h => ⟨⟨d.a 1, (h1 h).1, (h1 h).2, by cases b <;> cases c <;> rfl⟩, by cases b <;> cases c <;> rfl⟩, fun h => absurd h (by omega)⟩
  | 2, 1, _, _ => exact ⟨fun h => ⟨⟨d.a 0, (h0 (by omega)).1, (h0 (by omega)).2, by cases b <;> cases c <;> rfl⟩, by cases b <;> cases c <;> rfl⟩, fun h => ⟨⟨d.a 1, (h1 h).1, (h1 h).2, by cases b <;> cases c <;> rfl⟩, by cases b <;> cases c <;> rfl⟩, fun h => ⟨⟨d.a 2, (h2 h).1, (h2 h).2, by cases b <;> cases c <;> rfl⟩, by cases b <;> cases c <;> rfl⟩⟩
  | np + 3, _, h, _ => omega
  | _, nq + 2, _, h => omega
theorem poly_con {N np nq K : Nat} {X Y : Value} (hnp : np ≤ 2) (hnq : nq ≤ 1) (hN : N ≤ 6) (hNK : N + 3 ≤ K) (hK : K = 9 ∨ K = 6 ∧ np ≤ 1 ∨ K = 3 ∧ np = 0) (hX : PolyAt w N np X) (hY : PolyAt w 3 nq Y) (cs : List Frame) :
    ∃ w' fr x n, Steps Tryz.prog (lone (Frame.enter Tryz.prog 18 #[X, Y] .normal) cs w) (lone fr cs w') ∧ fr.leaving Tryz.prog w' (.returned x) ∧ Below w.heap.size w w' ∧ n ≤ np + 1 ∧ PolyAt w' K n x := by
  obtain ⟨ts, b, hl, ht, hX⟩ := hX.lies
  obtain ⟨us, c, ul, ut, hY⟩ := hY.lies
  obtain ⟨d0, ε1, k0, k1, hw1, hc1⟩ := given_out hnp hl ht
  obtain ⟨s2, a2, x2, ε2, k2, hw2, e2, hc2⟩ := given_one hw1 hnq ul ut
  have hd : ∃ d : PD, d.a 0 = d0.a 0 ∧ d.a 1 = d0.a 1 ∧ d.a 2 = a2 ∧ outT d np = outT d0 np ∧ tT d nq = tT ⟨fun _ => s2, fun _ => a2, fun _ => x2⟩ nq := by
    refine ⟨⟨fun i => match i with | 2 => s2 | i => d0.s i, fun i => match i with | 2 => a2 | i => d0.a i, fun i => match i with | 2 => x2 | i => d0.x i⟩, rfl, rfl, rfl, ?_, ?_⟩
    · match np, hnp with
      | 0, _ => rfl
      | 1, _ => rfl
      | 2, _ => rfl
      | n + 3, h => omega
    · match nq, hnq with
      | 0, _ => rfl
      | 1, _ => rfl
      | n + 2, h => omega
  obtain ⟨d, d0a, d1a, d2a, dO, dT⟩ := hd
  rw [← d0a] at k0
  rw [← d1a] at k1
  rw [← d2a] at k2
  rw [← d0a, ← d1a] at hw2
  rw [← d2a] at hw2
  rw [← dO] at hc1
  rw [← dT] at hc2
  obtain ⟨ε3, hw3, e3, hx3⟩ := hX.given hw2 (concL_mono e2 _ _ hc1)
  obtain ⟨ε4, hw4, e4, hx4⟩ := hY.given hw3 (concL_mono e3 _ _ hc2)
  have hargs : concL ε4 [outV np b, tV nq c] = some [X, Y] := concL_mk (conc_mono e4 _ _ hx3) (concL_mk hx4 rfl)
  have hkn : Knows (hPoly d np nq b c) np nq N := knows_poly hnp hnq k0 k1 k2
  obtain ⟨v, h', nx', hf, ε', w', fr, x, g1, g2, g3, g4, g5, g6, g7, g8⟩ := call_all (h := hPoly d np nq b c) good0 (ansP_ok hN hNK hkn) (sum_runs d hnp hnq hX.flag hY.flag hK) hw4 hargs cs
  have hkeep : Keeps (hPoly d np nq b c) h' := fun p o ho => by rw [g6 p (by rw [ho]; rfl)]; exact ho
  obtain ⟨n, hn, hp⟩ := polyB_at g4 hkeep hkn (by omega) (by omega) hf g3
  exact ⟨w', fr, x, n, g1, g2, g8, hn, hp⟩
end
end Go.AM
end
end
section
/- The rounds of Made, as the machine does them: definitions. -/
noncomputable section
namespace Go.AM
open Go.Proofs

def noS : S := ⟨.e, [], ⟨0, [], .normal, none⟩, [], .e, 0⟩
def gS (r : R) : S := match r with | .go s => s | _ => noS
def stepsN (c : Cx) (n : Nat) (s : S) : S := Nat.rec (motive := fun _ => S) s (fun _ s => gS (step c s)) n
/-- before the loop -/
def sI : S := stepsN ⟨W0, noEx, .e⟩ 8 (gS (enter W0 6 [.ag [.s0], .int .i64 2, .int .i64 2, .int .i64 3] .normal [] .e 0))
def loopOf (k : List It) : List It := match k with
  | .code x :: r => match x with
    | .block i y => match y with
      | .loop b => .lp b :: .blk i :: r
      | _ => []
    | _ => []
  | _ => []
def K0 : List It := sI.k
def K6 : List It := loopOf K0
def KH (k : Nat) : List It := match k with | 0 => K0 | _ => K6
/-- the cells of the rows that a round looks at -/
def cellL (c : Nat → Int) (n : Nat) : List V := Nat.rec (motive := fun _ => Nat → List V) (fun _ => []) (fun _ ih i => .int .i8 (c i) :: ih (i + 1)) n 0
def hHD (box : V) (c : Nat → Int) (n : Nat) : H := T.put (pth 1) (some (.cells [box])) (T.put (pth 0) (some (.win (cellL c n))) .e)
def fHD (k : Nat) (v9 : V) : F := T.put (pth 10) (some (.int .i64 (.ofNat k))) (T.put (pth 9) (some v9) (T.put (pth 8) (some .s0) (T.put (pth 4) (some (.p (pth 1) 0))
  (T.put (pth 3) (some (.int .i64 (.ofNat 3))) (T.put (pth 2) (some (.int .i64 (.ofNat 2))) (T.put (pth 1) (some (.int .i64 (.ofNat 2))) .e))))))
/-- before a round of the loop -/
def HD (k : Nat) (v9 box : V) (c : Nat → Int) (n : Nat) : S := ⟨fHD k v9, KH k, ⟨6, [], .normal, none⟩, [], hHD box c n, 3⟩
/-- rows: m more than the round's number -/
def boxV (k m : Nat) : V := .so (pth 0) 0 (m + (k + 1))
def rHold : Hold := ⟨[17, 20], [], fun _ => false⟩
def rc (k m : Nat) (c : Nat → Int) : Cx := ⟨W0, noEx, hHD (boxV k m) c (5 * (k + 1))⟩
/-- at the first call of abs -/
def stA (k m : Nat) (v9 : V) (c : Nat → Int) : S := gS (runTo (rc k m c) rHold 8 (HD k v9 (boxV k m) c (5 * (k + 1))))
def goAbs (k m : Nat) (c : Nat → Int) (s : S) (a : Nat) : R := match callWith s (.int .i64 (.ofNat a)) s.h s.nx with
  | .go s' => runTo (rc k m c) rHold 8 s'
  | r => r
def stB (k m : Nat) (v9 : V) (c : Nat → Int) (x : Nat) : S := gS (goAbs k m c (stA k m v9 c) x)
def stC (k m : Nat) (v9 : V) (c : Nat → Int) (x y : Nat) : S := gS (goAbs k m c (stB k m v9 c x) y)
def argOf (s : S) : V := match nextCall s with
  | some (_, v :: _) => v
  | _ => undef
/-- the argument of Whole -/
def qA (n : Int) : V := argOf (stC 0 0 .s0 (fun _ => n) 0 0)
def setE0 (v : V) (s : S) : S := match s.k with
  | .plan l (u :: _ :: e) :: k => ⟨s.f, .plan l (u :: v :: e) :: k, s.m, s.cs, s.h, s.nx⟩
  | _ => s
def dHold : Hold := ⟨[18], [], fun _ => false⟩
/-- at the call of Add -/
def stD (k m : Nat) (v9 : V) (c : Nat → Int) (x y : Nat) (q : Int) : S := gS (runTo (rc k m c) dHold 12 (setE0 (.int .i64 q) (stC k m v9 c x y)))
/-- the second argument of Add -/
def tvOf (s : S) : V := match nextCall s with
  | some (_, _ :: v :: _) => v
  | _ => undef
def lHold : Hold := ⟨[], [], fun s => bc (Nat.beq s.m.fn 6) (Nat.ble s.k.length 4) false⟩
/-- before the next round -/
def stH (v' : V) (s : S) : S := match callWith s v' s.h (s.nx + 1) with
  | .go s' => gS (runTo ⟨W0, noEx, s.h⟩ lHold 8 s')
  | _ => noS
def goH (v' : V) (s : S) : R := match callWith s v' s.h (s.nx + 1) with
  | .go s' => runTo ⟨W0, noEx, s.h⟩ lHold 8 s'
  | r => r
def slotsOf (f : F) : List (Option V) := [T.get (pth 1) f, T.get (pth 2) f, T.get (pth 3) f, T.get (pth 4) f, T.get (pth 8) f, T.get (pth 9) f, T.get (pth 10) f]
def slotsR (k : Nat) (v' : V) : List (Option V) := [some (.int .i64 (.ofNat 2)), some (.int .i64 (.ofNat 2)), some (.int .i64 (.ofNat 3)), some (.p (pth 1) 0), some .s0, some v', some (.int .i64 (.ofNat k))]
/-- all that is asked of a round from the call of Whole on -/
def leafL (k m : Nat) (v9 : V) (c : Nat → Int) (x y : Nat) (v' : V) (q : Int) : R × Option (FuncId × List V) × Bool × R × List It × Mt × List Fr × List (Option V) :=
  let d := stD k m v9 c x y q
  (runTo (rc k m c) dHold 12 (setE0 (.int .i64 q) (stC k m v9 c x y)), nextCall d, polyB 0 0 d.h 3 1 (tvOf d), goH v' d, (stH v' d).k, (stH v' d).m, (stH v' d).cs, slotsOf (stH v' d).f)
def leafR (k m : Nat) (v9 : V) (c : Nat → Int) (x y : Nat) (v' : V) (q : Int) : R × Option (FuncId × List V) × Bool × R × List It × Mt × List Fr × List (Option V) :=
  let d := stD k m v9 c x y q
  (.go d, some (18, [v9, tvOf d]), true, .go (stH v' d), K6, ⟨6, [], .normal, none⟩, [], slotsR (k + 1) v')
def qs : List Int := [.negSucc 2, .negSucc 1, .negSucc 0, .ofNat 0, .ofNat 1, .ofNat 2, .ofNat 3]
end Go.AM
end
end
