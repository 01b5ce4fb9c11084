/- Parts of the proof, joined: AmMade6 AmMadeA0 AmMadeA1 AmMadeA2. -/
import Derived.Test.YtfhfilkicbdboaaGreatAmMade5
import Derived.Test.YtfhfilkicbdboaaGreatAm16
import Derived.KernelRfl
section
/- One round of Made. -/
noncomputable section
namespace Go.AM
open Go.Proofs
open Go.RowKit (Below)

section
variable {cs0 : List Frame} {k : Nat} {fr : Frame} {frs : List Frame} {w : World} {Y X : Value}
theorem WR.all {W : Wd} {B : Nat} {z h : H} {ε : Env} {nx : Nat} {w : World} (hw : WR W B z ε h nx w) : WR W w.heap.size h ε h nx w := by
  have h1 := hw.freeze
  exact ⟨fun b x o hx ho => (by
    obtain ⟨k, g1, g2, _, g3⟩ := h1.blk b x o hx ho
    exact ⟨k, g1, g2, fun hn => (by rw [ho] at hn; cases hn), g3⟩), h1.inj, h1.fresh, Nat.le_refl _⟩
theorem made_round (R : RoundOk k) {N K n len : Nat} (hk : k ≤ 2) (hN : N ≤ 6) (hNK : N + 3 ≤ K) (hK : K = 9 ∨ K = 6 ∧ k ≤ 1 ∨ K = 3 ∧ k = 0) (H : HeadR cs0 k fr frs w Y X) (hr : RowsAt w Y len) (hl : k < len) (hp : PolyAt w N n X) (hn : n ≤ k) :
    ∃ fr' frs' w' X' n', Steps Tryz.prog (lone fr frs w) (lone fr' frs' w') ∧ HeadR cs0 (k + 1) fr' frs' w' Y X' ∧ Below w.heap.size w w' ∧ n' ≤ k + 1 ∧ PolyAt w' K n' X' := by
  obtain ⟨m, v9, c, ε, hc, _, hv9, hbox, hs⟩ := H.start hr hl hp
  have hz3 : ZOk (rc k m c).z 3 := by
    obtain ⟨_, _, hw, _, _⟩ := hs.ex
    exact fun i hi => (hw.fresh i hi).2
  have hA := runTo_post (c := rc k m c) good0 rfl noEx_ok rHold 8 hz3 hs
  rw [R.runA m v9 c] at hA
  obtain ⟨εa, fra, frsa, wa, A1, A2, A3, A4, A5, A6⟩ := hA
  obtain ⟨a, ha, hB⟩ := over_abs (hc _).1 (hc _).2 (R.callA m v9 c) (hz3.mono A6) A2
  rw [R.runB m v9 c a ha] at hB
  obtain ⟨εb, frb, frsb, wb', B1, B2, B3, B4, B5, B6⟩ := hB
  have hx3 : Nat.mod a 3 < 3 := Nat.mod_lt _ (by omega)
  obtain ⟨a', ha', hC⟩ := over_abs (hc _).1 (hc _).2 (R.callB m v9 c _ hx3) (hz3.mono (Nat.le_trans A6 B6)) B2
  rw [R.runC m v9 c _ a' hx3 ha'] at hC
  have hxy : Nat.mod a 3 + Nat.mod a' (Nat.sub 3 (Nat.mod a 3)) ≤ 2 := by
    have : Nat.mod a' (Nat.sub 3 (Nat.mod a 3)) < Nat.sub 3 (Nat.mod a 3) := Nat.mod_lt _ (by show 0 < 3 - Nat.mod a 3; omega)
    have e : Nat.sub 3 (Nat.mod a 3) = 3 - Nat.mod a 3 := rfl
    omega
  generalize Nat.mod a' (Nat.sub 3 (Nat.mod a 3)) = y at hC hxy
  generalize Nat.mod a 3 = x at hC hxy B2 B3 B5 B6
  obtain ⟨εc, frc, frsc, wc, C1, C2, C3, C4, C5, C6⟩ := hC
  obtain ⟨q, hq, eq⟩ := qA_in (c (5 * k)) (hc _).1 (hc _).2
  have eC := R.argC m v9 c x y hxy
  rw [eq] at eC
  have C2' : SimR W0 w.heap.size 6 cs0 0 (rc k m c).z (setE0 (.int .i64 q) (stC k m v9 c x y)) frc frsc wc εc := by rw [← eC]; exact C2
  have enx : (setE0 (.int .i64 q) (stC k m v9 c x y)).nx = (stC k m v9 c x y).nx := (congrArg S.nx eC).symm
  have eh : (setE0 (.int .i64 q) (stC k m v9 c x y)).h = (stC k m v9 c x y).h := (congrArg S.h eC).symm
  have hD := runTo_post (c := rc k m c) good0 rfl noEx_ok dHold 12 (hz3.mono (by rw [enx]; exact Nat.le_trans A6 (Nat.le_trans B6 C6))) C2'
  have leaf := fun v' => R.leaf m v9 c x y hxy v' q hq
  simp only [leafL, leafR, Prod.mk.injEq] at leaf
  rw [(leaf .s0).1] at hD
  rw [eh, enx] at hD
  obtain ⟨εd, frd, frsd, wd, D1, D2, D3, D4, D5, D6⟩ := hD
  obtain ⟨_, l2, l3, _⟩ := leaf .s0
  generalize hDD : stD k m v9 c x y q = D at *
  have hkeep : Keeps (rc k m c).z D.h := (((Keeps.frz (fun _ _ e => e) A5).frz B5).frz C5).frz D5
  have hext : Ext ε εd := ((A3.ext.trans B3.ext).trans C3.ext).trans D3.ext
  have hbel : Below w.heap.size w wd := ((A4.trans B4).trans C4).trans D4
  obtain ⟨v', h', nx', fr1, frs1, w2, ε2, ⟨x2, n', j1, j2, j3, j4, j5⟩, G1, G2, G3, G4, G5, G6, G7⟩ := call_core (Q := fun v h' nx' ε2 w2 => ∃ x n', conc ε2 v = some x ∧ n' ≤ k + 1 ∧ PolyAt w2 K n' x ∧ h' = D.h ∧ nx' = D.nx + 1) good0 D2 l2 body18
    fun ε1 w1 args k1 k2 k3 k4 cs => by
      obtain ⟨X1, L, hX1, hL, rfl⟩ := concL_cons k4
      obtain ⟨Y1, L', hY1, hL', rfl⟩ := concL_cons hL
      cases hL'
      have e1 := conc_mono (hext.trans k1) _ _ hv9
      rw [hX1] at e1; cases e1
      have hp1 : PolyAt w1 N n X := hp.below (hbel.trans k2)
      obtain ⟨nq, hq1, hq2⟩ := polyB_at k3 hkeep (np := 0) (nq := 0) (N0 := 0) ⟨fun e => absurd e (by omega), fun e => absurd e (by omega), fun e => absurd e (by omega)⟩ (Nat.zero_le _) (Nat.le_refl 3) l3 hY1
      obtain ⟨w', fr', x, n', g1, g2, g3, g4, g5⟩ := poly_con (by omega) hq1 hN hNK (by rcases hK with h | ⟨h, h'⟩ | ⟨h, h'⟩ <;> omega) hp1 hq2 cs
      obtain ⟨v, ε', p1, p2, p3⟩ := g5.path (k3.below g3)
      exact ⟨v, D.h, D.nx + 1, ε', w', fr', x, ⟨x, n', p3, by omega, g5, rfl, rfl⟩, Nat.le_succ _, Frz.refl _ _, g1, g2, p1, g3.mono k3.base, p3, p2⟩
  subst j4; subst j5
  have hall := G6.all
  have hpost := post_run (z := D.h) (p := lHold) (n := 8) (fun i hi => (hall.fresh i hi).2) (G7 _ _ hall)
  rw [← goH_eq] at hpost
  obtain ⟨_, _, _, l4, l5, l6, l7, l8⟩ := leaf v'
  rw [l4] at hpost
  obtain ⟨ε3, fr3, frs3, w3, E1, E2, E3, E4, E5, E6⟩ := hpost
  have hb1 : T.get (pth 1) D.h = some (.cells [boxV k m]) := hkeep _ _ (by
    show T.get (pth 1) (hHD (boxV k m) c (5 * (k + 1))) = _
    unfold hHD
    exact T.get_put_same _ _ _)
  have hb2 : T.get (pth 1) (stH v' D).h = some (.cells [boxV k m]) := by rw [E5 _ (by rw [hb1]; rfl)]; exact hb1
  have hhead := head_of (k := k + 1) (Y := Y) E2 l5 l6 l7 l8 (conc_mono E3.ext _ _ j1) hb2 (conc_mono ((hext.trans G2.ext).trans E3.ext) _ _ hbox)
  exact ⟨fr3, frs3, w3, x2, n', ((((A1.trans B1).trans C1).trans D1).trans G1).trans E1, hhead, (hbel.trans G3).trans (E4.mono (hbel.trans G3).size), j2, j3.below E4⟩
end
end Go.AM
end
end
section
/- The rounds of Made up to the first call of Whole. -/
noncomputable section
namespace Go.AM
theorem runA0 (m : Nat) (v9 : V) (c : Nat → Int) : runTo (rc 0 m c) rHold 8 (HD 0 v9 (boxV 0 m) c (5 * (0 + 1))) = .go (stA 0 m v9 c) := by kernel_rfl
theorem callA0 (m : Nat) (v9 : V) (c : Nat → Int) : nextCall (stA 0 m v9 c) = some (17, [.int .i8 (c 1)]) := by kernel_rfl
theorem runB0 (m : Nat) (v9 : V) (c : Nat → Int) : (below 129).map (goAbs 0 m c (stA 0 m v9 c)) = (below 129).map (fun a => .go (stB 0 m v9 c (Nat.mod a 3))) := by kernel_rfl
theorem callB0 (m : Nat) (v9 : V) (c : Nat → Int) : (below 3).map (fun x => nextCall (stB 0 m v9 c x)) = (below 3).map (fun _ => some (17, [.int .i8 (c 2)])) := by kernel_rfl
theorem runC0 (m : Nat) (v9 : V) (c : Nat → Int) : (below 3).map (fun x => (below 129).map (goAbs 0 m c (stB 0 m v9 c x))) = (below 3).map (fun x => (below 129).map (fun a => .go (stC 0 m v9 c x (Nat.mod a (Nat.sub 3 x))))) := by kernel_rfl
end Go.AM
end
end
section
/- The rounds of Made up to the first call of Whole. -/
noncomputable section
namespace Go.AM
theorem runA1 (m : Nat) (v9 : V) (c : Nat → Int) : runTo (rc 1 m c) rHold 8 (HD 1 v9 (boxV 1 m) c (5 * (1 + 1))) = .go (stA 1 m v9 c) := by kernel_rfl
theorem callA1 (m : Nat) (v9 : V) (c : Nat → Int) : nextCall (stA 1 m v9 c) = some (17, [.int .i8 (c 6)]) := by kernel_rfl
theorem runB1 (m : Nat) (v9 : V) (c : Nat → Int) : (below 129).map (goAbs 1 m c (stA 1 m v9 c)) = (below 129).map (fun a => .go (stB 1 m v9 c (Nat.mod a 3))) := by kernel_rfl
theorem callB1 (m : Nat) (v9 : V) (c : Nat → Int) : (below 3).map (fun x => nextCall (stB 1 m v9 c x)) = (below 3).map (fun _ => some (17, [.int .i8 (c 7)])) := by kernel_rfl
theorem runC1 (m : Nat) (v9 : V) (c : Nat → Int) : (below 3).map (fun x => (below 129).map (goAbs 1 m c (stB 1 m v9 c x))) = (below 3).map (fun x => (below 129).map (fun a => .go (stC 1 m v9 c x (Nat.mod a (Nat.sub 3 x))))) := by kernel_rfl
end Go.AM
end
end
section
/- The rounds of Made up to the first call of Whole. -/
noncomputable section
namespace Go.AM
theorem runA2 (m : Nat) (v9 : V) (c : Nat → Int) : runTo (rc 2 m c) rHold 8 (HD 2 v9 (boxV 2 m) c (5 * (2 + 1))) = .go (stA 2 m v9 c) := by kernel_rfl
theorem callA2 (m : Nat) (v9 : V) (c : Nat → Int) : nextCall (stA 2 m v9 c) = some (17, [.int .i8 (c 11)]) := by kernel_rfl
theorem runB2 (m : Nat) (v9 : V) (c : Nat → Int) : (below 129).map (goAbs 2 m c (stA 2 m v9 c)) = (below 129).map (fun a => .go (stB 2 m v9 c (Nat.mod a 3))) := by kernel_rfl
theorem callB2 (m : Nat) (v9 : V) (c : Nat → Int) : (below 3).map (fun x => nextCall (stB 2 m v9 c x)) = (below 3).map (fun _ => some (17, [.int .i8 (c 12)])) := by kernel_rfl
theorem runC2 (m : Nat) (v9 : V) (c : Nat → Int) : (below 3).map (fun x => (below 129).map (goAbs 2 m c (stB 2 m v9 c x))) = (below 3).map (fun x => (below 129).map (fun a => .go (stC 2 m v9 c x (Nat.mod a (Nat.sub 3 x))))) := by kernel_rfl
end Go.AM
end
end
