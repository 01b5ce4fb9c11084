/- One round of Made, in the model. -/
import Derived.Test.YtfhfilkicbdboaaGreatAm17
import Derived.KernelRfl
section
noncomputable section
namespace Go.AM
open Go.Proofs
open Go.RowKit (Below)

def isQ (v : V) : Bool := orb (isInt .i64 (.negSucc 2) v) (orb (isInt .i64 (.negSucc 1) v) (orb (isInt .i64 (.negSucc 0) v) (orb (isInt .i64 (.ofNat 0) v) (orb (isInt .i64 (.ofNat 1) v) (orb (isInt .i64 (.ofNat 2) v) (isInt .i64 (.ofNat 3) v))))))
theorem qA_run : allF (fun i => isQ (qA (i8 i))) (below 256) = true := by kernel_rfl
theorem qA_in (n : Int) (h1 : -128 ≤ n) (h2 : n ≤ 127) : ∃ q ∈ qs, qA n = .int .i64 q := by
  have e : i8 (n + 128).toNat = n := by
    unfold i8; rw [iadd_eq]
    have : (Int.ofNat (n + 128).toNat) = n + 128 := Int.toNat_of_nonneg (by omega)
    rw [this]
    show n + 128 + (-128) = n
    omega
  have hr := allF_below qA_run (n + 128).toNat (by omega)
  rw [e] at hr
  unfold isQ at hr
  rcases orb_eq hr with h | hr
  · exact ⟨_, by simp [qs], isInt_eq h⟩
  rcases orb_eq hr with h | hr
  · exact ⟨_, by simp [qs], isInt_eq h⟩
  rcases orb_eq hr with h | hr
  · exact ⟨_, by simp [qs], isInt_eq h⟩
  rcases orb_eq hr with h | hr
  · exact ⟨.ofNat 0, by simp [qs], isInt_eq h⟩
  rcases orb_eq hr with h | hr
  · exact ⟨.ofNat 1, by simp [qs], isInt_eq h⟩
  rcases orb_eq hr with h | hr
  · exact ⟨.ofNat 2, by simp [qs], isInt_eq h⟩
  · exact ⟨.ofNat 3, by simp [qs], isInt_eq hr⟩
theorem cellL_conc (ε : Env) (c : Nat → Int) : ∀ (n i : Nat), concL ε (Nat.rec (motive := fun _ => Nat → List V) (fun _ => []) (fun _ ih i => .int .i8 (c i) :: ih (i + 1)) n i) = some ((List.range' i n).map fun j => Value.int .i8 (c j))
  | 0, i => rfl
  | n + 1, i => by
    rw [List.range'_succ, List.map_cons]
    exact concL_mk rfl (cellL_conc ε c n (i + 1))
section
variable {cs0 : List Frame} {k : Nat} {fr : Frame} {frs : List Frame} {w : World} {Y X : Value} {B : Nat} {ε : Env} {h : H} {nx : Nat}
/-- rows that are given -/
theorem WR.givenRows {len m : Nat} (hw : WR W0 B h ε h nx w) (hr : RowsAt w Y len) (hl : len = m + (k + 1)) :
    ∃ c ε', (∀ i, -128 ≤ c i ∧ c i ≤ 127) ∧ WR W0 B (T.put (pth nx) (some (.win (cellL c (5 * (k + 1))))) h) ε' (T.put (pth nx) (some (.win (cellL c (5 * (k + 1))))) h) (nx + 1) w ∧ Ext ε ε' ∧ conc ε' (.so (pth nx) 0 (m + (k + 1))) = some Y := by
  rcases hr with ⟨_, e⟩ | ⟨cb, off, cap, rfl, h2, h6⟩
  · omega
  obtain ⟨pre, r, c, el, fz, h3, h4, h5⟩ := h6 (by omega)
  subst hl
  have hext := Env.upd_ext (ε := ε) (b := pth nx) ⟨cb, 5 * cap, 5, off⟩ (hw.fresh nx (Nat.le_refl _)).1
  refine ⟨c, ε.upd (pth nx) ⟨cb, 5 * cap, 5, off⟩, h5, hw.given (x := ⟨cb, 5 * cap, 5, off⟩) (o := .win (cellL c (5 * (k + 1)))) h3 ⟨pre, (List.range (5 * (k + 1))).map (fun i => Value.int .i8 (c i)), ((List.range (5 * m)).map (5 * (k + 1) + ·)).map (fun i => Value.int .i8 (c i)) ++ r, el, ?_, fz, ?_, h4⟩ trivial, hext, ?_⟩
  · rw [List.range_eq_range']; exact cellL_conc (ε.upd (pth nx) ⟨cb, 5 * cap, 5, off⟩) c (5 * (k + 1)) 0
  · have : 5 * (m + (k + 1)) = 5 * (k + 1) + 5 * m := by omega
    rw [this, List.range_add, List.map_append, List.append_assoc]
  · have := conc_so_mk (ε := ε.upd (pth nx) ⟨cb, 5 * cap, 5, off⟩) (b := pth nx) (off := 0) (n := m + (k + 1)) (Env.upd_same _ _ _) (Nat.succ_pos 4) (by simp; omega)
    rw [this]
    simp [Ent.ad]
/-- a polynomial known by its place -/
theorem PolyAt.path {z : H} {N n : Nat} (hp : PolyAt w N n X) (hw : WR W0 B z ε h nx w) : ∃ v ε', WR W0 B z ε' h (nx + 1) w ∧ EvB nx ε h ε' h ∧ conc ε' v = some X := by
  rcases hp with ⟨rfl, rfl⟩ | ⟨cb, off, cap, pre, ts, r, el, fz, rfl, h2, h3, h4, h5, h6⟩
  · exact ⟨.s0, ε, hw.skip, EvB.refl _ _ _, rfl⟩
  · refine ⟨.so (pth nx) 0 n, ε.upd (pth nx) ⟨cb, cap, 1, off⟩, hw.path _, ⟨Env.upd_ext _ (hw.fresh nx (Nat.le_refl _)).1, fun i hi hn => ⟨?_, rfl⟩⟩, ?_⟩
    · have : pth i ≠ pth nx := fun e => by have := pth_inj e; omega
      rw [Env.upd_ne _ _ this]; exact hn
    · have := conc_so_mk (ε := ε.upd (pth nx) ⟨cb, cap, 1, off⟩) (b := pth nx) (off := 0) (n := n) (Env.upd_same _ _ _) (Nat.succ_pos 0) (by simp; omega)
      rw [this]
      simp [Ent.ad]
/-- the machine stands at the head of a round -/
theorem HeadR.start (H : HeadR cs0 k fr frs w Y X) {N n len : Nat} (hr : RowsAt w Y len) (hl : k < len) (hp : PolyAt w N n X) :
    ∃ m v9 c ε, (∀ i, -128 ≤ c i ∧ c i ≤ 127) ∧ len = m + (k + 1) ∧ conc ε v9 = some X ∧ conc ε (boxV k m) = some Y ∧ SimR W0 w.heap.size 6 cs0 0 (rc k m c).z (HD k v9 (boxV k m) c (5 * (k + 1))) fr frs w ε := by
  obtain ⟨c, ε1, hc, hw1, e1, hb1⟩ := (WR.void W0 w).givenRows (k := k) (m := len - (k + 1)) hr (by omega)
  obtain ⟨cb, el, s4, hk⟩ := H.box
  have hw2 := hw1.given (x := ⟨cb, 0, 0, 0⟩) (o := .cells [boxV k (len - (k + 1))]) hk ⟨[Y], el, by
    refine concL_mk (conc_mono (Env.upd_ext _ (hw1.fresh 1 (Nat.le_refl _)).1) _ _ hb1) rfl, rfl⟩ rfl
  obtain ⟨v9, ε3, hw3, e3, hx3⟩ := hp.path hw2
  have e2 : Ext ε1 (ε1.upd (pth 1) ⟨cb, 0, 0, 0⟩) := Env.upd_ext _ (hw1.fresh 1 (Nat.le_refl _)).1
  exact ⟨len - (k + 1), v9, c, ε3, hc, by omega, hx3, conc_mono (e2.trans e3.ext) _ _ hb1, H.sim s4 hw3 ⟨_, e3.ext _ _ (Env.upd_same _ _ _), rfl, rfl⟩ hx3⟩
end
end Go.AM
end
end
