/- Contracts out of runs in a memory of their own. -/
import Derived.Test.YtfhfilkicbdboaaGreatAm10
section
noncomputable section
namespace Go.AM
open Go.RowKit (Below)

section
variable {W : Wd} {P : Program} {B : Nat} {z : H} {w w' : World} {ε : Env} {h : H} {nx : Nat}
/-- what is there stays -/
theorem WR.below (hw : WR W B z ε h nx w) (hb : Below w.heap.size w w') : WR W B z ε h nx w' :=
  ⟨fun b x o hx ho => (by
    obtain ⟨k, h1, h2, h3⟩ := hw.blk b x o hx ho
    exact ⟨k, by rw [hb.block _ (Array.getElem?_eq_some_iff.1 h1).1]; exact h1, h2, h3⟩), hw.inj, hw.fresh, Nat.le_trans hw.base hb.size⟩
/-- a block that is not among those that are known -/
theorem WR.adopt (hw : WR W B z ε h nx w) {x : Ent} {o : O} {k : Obj} (hk : w.heap[x.cb]? = some k) (hB : B ≤ x.cb) (hr : OR W (ε.upd (pth nx) x) x o k) (hlo : LoOk x o)
    (hne : ∀ p y q, ε p = some y → T.get p h = some q → y.cb ≠ x.cb) :
    WR W B z (ε.upd (pth nx) x) (T.put (pth nx) (some o) h) (nx + 1) w ∧ EvB nx ε h (ε.upd (pth nx) x) (T.put (pth nx) (some o) h) := by
  obtain ⟨f1, f2⟩ := hw.fresh nx (Nat.le_refl _)
  have hext := Env.upd_ext (ε := ε) (b := pth nx) x f1
  refine ⟨⟨fun p y q hy hq => ?_, fun p p' y y' hy hy' hp hp' hz e => ?_, fun n hn => ?_, hw.base⟩, hext, fun n hn hnone => ?_⟩
  · by_cases e : p = pth nx
    · subst e
      rw [T.get_put_same] at hq; cases hq
      rw [Env.upd_same] at hy; cases hy
      exact ⟨k, hk, hr, fun _ => hB, hlo⟩
    · rw [Env.upd_ne _ _ e] at hy
      rw [T.get_put_ne _ _ fun z => e z.symm] at hq
      obtain ⟨k', h1, h2, h3⟩ := hw.blk p y q hy hq
      exact ⟨k', h1, h2.mono hext, h3⟩
  · by_cases e1 : p = pth nx
    · by_cases e2 : p' = pth nx
      · rw [e1, e2]
      · subst e1
        rw [Env.upd_same] at hy; cases hy
        rw [Env.upd_ne _ _ e2] at hy'
        rw [T.get_put_ne _ _ fun z => e2 z.symm] at hp'
        obtain ⟨q, hq⟩ := Option.isSome_iff_exists.1 hp'
        exact absurd e.symm (hne p' y' q hy' hq)
    · rw [Env.upd_ne _ _ e1] at hy
      rw [T.get_put_ne _ _ fun z => e1 z.symm] at hp
      obtain ⟨q, hq⟩ := Option.isSome_iff_exists.1 hp
      by_cases e2 : p' = pth nx
      · subst e2
        rw [Env.upd_same] at hy'; cases hy'
        exact absurd e (hne p y q hy hq)
      · rw [Env.upd_ne _ _ e2] at hy'
        rw [T.get_put_ne _ _ fun z => e2 z.symm] at hp'
        exact hw.inj p p' y y' hy hy' (by rw [hq]; rfl) hp' hz e
  · have : pth n ≠ pth nx := fun e => by have := pth_inj e; omega
    rw [Env.upd_ne _ _ this, T.get_put_ne _ _ fun z => this z.symm]
    exact hw.fresh n (by omega)
  · have : pth n ≠ pth nx := fun e => by have := pth_inj e; omega
    rw [Env.upd_ne _ _ this, T.get_put_ne _ _ fun z => this z.symm]
    exact ⟨hnone, rfl⟩
theorem WR.lt (hw : WR W B z ε h nx w) {p : Pth} {y : Ent} {q : O} (hy : ε p = some y) (hq : T.get p h = some q) : y.cb < w.heap.size := by
  obtain ⟨k, h1, _⟩ := hw.blk p y q hy hq
  exact (Array.getElem?_eq_some_iff.1 h1).1
theorem frz_fresh (hw : WR W B z ε h nx w) (hz : Keeps z h) (v : Option O) : Frz z h (T.put (pth nx) v h) := fun b hb => by
  refine T.get_put_ne _ _ fun e => ?_
  subst e
  obtain ⟨o, ho⟩ := Option.isSome_iff_exists.1 hb
  have := hz _ _ ho
  rw [(hw.fresh nx (Nat.le_refl _)).2] at this; cases this
end

theorem enter_same {W : Wd} {n : FuncId} {as : List V} {kd : Kd} {cs : List Fr} {h : H} {nx : Nat} {s : S} (he : enter W n as kd cs h nx = .go s) : s.h = h ∧ s.nx = nx := by
  unfold enter at he
  cases hb : bodyOf W n with
  | none => rw [hb] at he; cases he
  | some c =>
    rw [hb] at he
    have he : bc (Nat.ble as.length (npOf W n)) (.go ⟨args2 0 as .e, [.code c], ⟨n, [], kd, none⟩, cs, h, nx⟩) (.bad 5) = R.go s := he
    cases hl : Nat.ble as.length (npOf W n) with
    | true => rw [hl] at he; cases he; exact ⟨rfl, rfl⟩
    | false => rw [hl] at he; cases he
/-- what a call comes to in a memory of its own -/
def Came (W : Wd) (P : Program) (n : FuncId) (ε : Env) (h : H) (nx : Nat) (w : World) (args : Array Value) (cs : List Frame) (v : V) (h' : H) (nx' : Nat) : Prop :=
  ∃ ε' w' fr x, Steps P (lone (Frame.enter P n args .normal) cs w) (lone fr cs w') ∧ fr.leaving P w' (.returned x) ∧ conc ε' v = some x ∧ WR W w.heap.size h ε' h' nx' w' ∧ EvB nx ε h ε' h' ∧ Frz h h h' ∧ nx ≤ nx' ∧ Below w.heap.size w w'
section
variable {W : Wd} {P : Program} {B : Nat} {z : H} {w : World} {ε : Env} {h : H} {nx : Nat}
theorem call_tree (G : Good W P) {n : FuncId} {as : List V} {s : S} (he : enter W n as .normal [] h nx = .go s) {p : Hold} {ans : FuncId → List V → H → Nat → Option (List An)} {fin : V → H → Nat → Bool} {d k : Nat}
    (hans : ∀ f as h1 nx1 l, ans f as h1 nx1 = some l → (∃ b, bodyOf W f = some b) ∧ ∀ ε w1 args, WR W w.heap.size h ε h1 nx1 w1 → Keeps h h1 → concL ε as = some args →
      ∀ cs, ∃ a ∈ l, nx1 ≤ a.nx ∧ Frz h h1 a.h ∧ Sound W P w.heap.size h f ε h1 nx1 w1 args.toArray cs a.v a.h a.nx)
    (ht : tree ⟨W, noEx, h⟩ p ans fin (fun _ => false) d k s = true) (hsh : s.h = h) (hw : WR W B z ε h nx w) {args : List Value} (ha : concL ε as = some args) (cs : List Frame) :
    ∃ v h' nx', fin v h' nx' = true ∧ Came W P n ε h nx w args.toArray cs v h' nx' := by
  have hw1 : WR W w.heap.size h ε h nx w := by
    have h1 := hw.freeze
    exact ⟨fun b x o hx ho => (by
      obtain ⟨k, g1, g2, _, g3⟩ := h1.blk b x o hx ho
      exact ⟨k, g1, g2, fun hn => (by rw [ho] at hn; cases hn), g3⟩), h1.inj, h1.fresh, Nat.le_refl _⟩
  have hpost := enter_post (P := P) (f0 := n) (cs0 := cs) (bB := nx) (z := h) (kd := .normal) (cs := []) (frs := cs) G ha hw1 ⟨rfl, rfl, Nat.le_refl _⟩
  rw [he] at hpost
  have hno : ∀ n ef, (⟨W, noEx, h⟩ : Cx).ex n = some ef → ExOk W P ef n := fun n ef e => (by cases e)
  have hz : ZOk (⟨W, noEx, h⟩ : Cx).z s.nx := fun m hm => (hw1.fresh m (by rw [(enter_same he).2] at hm; exact hm)).2
  have hp2 : TreeP W P w.heap.size n cs nx h fin (fun _ => false) (Frame.enter P n args.toArray (kdOf .normal)) cs w ε h nx :=
    TreeP.from hpost fun hs => tree_sound (c := ⟨W, noEx, h⟩) G rfl hno hans k ht (by rw [hsh]; exact fun _ _ q => q) hz hs
  rcases hp2 with ⟨v, h', nx', hf, ε', fr', w', x, g1, g2, g3, g4, g5, g6, g7, g8, g9⟩ | ⟨s', hh, _⟩
  · exact ⟨v, h', nx', hf, ε', w', fr', x, g1, g3, g4, g5, g6, g8, g9, g7⟩
  · cases hh
/-- all ways of a call -/
def runC (W : Wd) (n : FuncId) (as : List V) (h : H) (nx : Nat) (p : Hold) (ans : FuncId → List V → H → Nat → Option (List An)) (fin : V → H → Nat → Bool) (d k : Nat) : Bool :=
  match enter W n as .normal [] h nx with
  | .go s => tree ⟨W, noEx, h⟩ p ans fin (fun _ => false) d k s
  | _ => false
theorem call_all (G : Good W P) {n : FuncId} {as : List V} {p : Hold} {ans : FuncId → List V → H → Nat → Option (List An)} {fin : V → H → Nat → Bool} {d k : Nat}
    (hans : ∀ f as h1 nx1 l, ans f as h1 nx1 = some l → (∃ b, bodyOf W f = some b) ∧ ∀ ε w1 args, WR W w.heap.size h ε h1 nx1 w1 → Keeps h h1 → concL ε as = some args →
      ∀ cs, ∃ a ∈ l, nx1 ≤ a.nx ∧ Frz h h1 a.h ∧ Sound W P w.heap.size h f ε h1 nx1 w1 args.toArray cs a.v a.h a.nx)
    (ht : runC W n as h nx p ans fin d k = true) (hw : WR W B z ε h nx w) {args : List Value} (ha : concL ε as = some args) (cs : List Frame) :
    ∃ v h' nx', fin v h' nx' = true ∧ Came W P n ε h nx w args.toArray cs v h' nx' := by
  unfold runC at ht
  split at ht
  · rename_i s he
    exact call_tree G he hans ht (enter_same he).1 hw ha cs
  · cases ht
/-- no calls by contract -/
def noAns : FuncId → List V → H → Nat → Option (List An) := fun _ _ _ _ => none
def noHold : Hold := ⟨[], [], fun _ => false⟩
theorem call_plain (G : Good W P) {n : FuncId} {as : List V} {p : Hold} {fin : V → H → Nat → Bool} {d k : Nat}
    (ht : runC W n as h nx p noAns fin d k = true) (hw : WR W B z ε h nx w) {args : List Value} (ha : concL ε as = some args) (cs : List Frame) :
    ∃ v h' nx', fin v h' nx' = true ∧ Came W P n ε h nx w args.toArray cs v h' nx' :=
  call_all G (fun _ _ _ _ _ e => by cases e) ht hw ha cs
/-- a value without places: the caller's memory is as it was -/
theorem Came.val {h0 : H} {ε0 : Env} {nx0 nx' : Nat} {n : FuncId} {args : Array Value} {cs : List Frame} {v : V} {h' : H} (hc : Came W P n ε0 h0 nx0 w args cs v h' nx') (hw : WR W B z ε h nx w) (hv : ∀ ε1 ε2 x, conc ε1 v = some x → conc ε2 v = some x) :
    Sound W P B z n ε h nx w args cs v h nx := by
  obtain ⟨ε', w', fr, x, g1, g2, g3, g4, g5, g6, g7, g8⟩ := hc
  refine ⟨ε, w', fr, x, g1, g2, hw.below g8, ?_, hv _ _ _ g3, EvB.refl _ _ _⟩
  exact ⟨g8.os, g8.tape, g8.output, g8.size, fun k hk => g8.block k (Nat.lt_of_lt_of_le hk hw.base)⟩
end
end Go.AM
end
end
