/- Parts of the proof, joined: AmMade7 AmMade8 AmNeeds1. -/
import Derived.Test.YtfhfilkicbdboaaGreatAm19
import Derived.Test.YtfhfilkicbdboaaGreatAmMadeL0
import Derived.Test.YtfhfilkicbdboaaGreatAmMadeL1
import Derived.Test.YtfhfilkicbdboaaGreatAmMadeL2
import Derived.KernelRfl
section
/- The rounds of Made are in order; the loop's end. -/
noncomputable section
namespace Go.AM
open Go.Proofs
open Go.RowKit (Below)

theorem mem_below : ∀ {n a : Nat}, a < n → a ∈ below n
  | 0, a, h => by omega
  | n + 1, a, h => by
    show a ∈ n :: below n
    by_cases e : a = n
    · rw [e]; exact List.mem_cons_self
    · exact List.mem_cons_of_mem _ (mem_below (by omega))
theorem map_at {α β : Type} {l : List α} {f g : α → β} (h : l.map f = l.map g) {a : α} (ha : a ∈ l) : f a = g a := List.map_inj_left.1 h a ha
theorem xy_cases {x y : Nat} (h : x + y ≤ 2) : (x = 0 ∧ y = 0) ∨ (x = 0 ∧ y = 1) ∨ (x = 0 ∧ y = 2) ∨ (x = 1 ∧ y = 0) ∨ (x = 1 ∧ y = 1) ∨ (x = 2 ∧ y = 0) := by omega
theorem round0 : RoundOk 0 where
  runA := runA0
  callA := callA0
  runB m v9 c a ha := map_at (runB0 m v9 c) (mem_below (by omega))
  callB m v9 c x hx := map_at (callB0 m v9 c) (mem_below hx)
  runC m v9 c x a hx ha := map_at (map_at (runC0 m v9 c) (mem_below hx)) (mem_below (by omega))
  argC m v9 c x y h := by
    rcases xy_cases h with ⟨rfl, rfl⟩ | ⟨rfl, rfl⟩ | ⟨rfl, rfl⟩ | ⟨rfl, rfl⟩ | ⟨rfl, rfl⟩ | ⟨rfl, rfl⟩
    · exact eqC000 m v9 c
    · exact eqC001 m v9 c
    · exact eqC002 m v9 c
    · exact eqC010 m v9 c
    · exact eqC011 m v9 c
    · exact eqC020 m v9 c
  leaf m v9 c x y h v' q hq := by
    rcases xy_cases h with ⟨rfl, rfl⟩ | ⟨rfl, rfl⟩ | ⟨rfl, rfl⟩ | ⟨rfl, rfl⟩ | ⟨rfl, rfl⟩ | ⟨rfl, rfl⟩
    · exact map_at (leaf000 m v9 c v') hq
    · exact map_at (leaf001 m v9 c v') hq
    · exact map_at (leaf002 m v9 c v') hq
    · exact map_at (leaf010 m v9 c v') hq
    · exact map_at (leaf011 m v9 c v') hq
    · exact map_at (leaf020 m v9 c v') hq
theorem round1 : RoundOk 1 where
  runA := runA1
  callA := callA1
  runB m v9 c a ha := map_at (runB1 m v9 c) (mem_below (by omega))
  callB m v9 c x hx := map_at (callB1 m v9 c) (mem_below hx)
  runC m v9 c x a hx ha := map_at (map_at (runC1 m v9 c) (mem_below hx)) (mem_below (by omega))
  argC m v9 c x y h := by
    rcases xy_cases h with ⟨rfl, rfl⟩ | ⟨rfl, rfl⟩ | ⟨rfl, rfl⟩ | ⟨rfl, rfl⟩ | ⟨rfl, rfl⟩ | ⟨rfl, rfl⟩
    · exact eqC100 m v9 c
    · exact eqC101 m v9 c
    · exact eqC102 m v9 c
    · exact eqC110 m v9 c
    · exact eqC111 m v9 c
    · exact eqC120 m v9 c
  leaf m v9 c x y h v' q hq := by
    rcases xy_cases h with ⟨rfl, rfl⟩ | ⟨rfl, rfl⟩ | ⟨rfl, rfl⟩ | ⟨rfl, rfl⟩ | ⟨rfl, rfl⟩ | ⟨rfl, rfl⟩
    · exact map_at (leaf100 m v9 c v') hq
    · exact map_at (leaf101 m v9 c v') hq
    · exact map_at (leaf102 m v9 c v') hq
    · exact map_at (leaf110 m v9 c v') hq
    · exact map_at (leaf111 m v9 c v') hq
    · exact map_at (leaf120 m v9 c v') hq
theorem round2 : RoundOk 2 where
  runA := runA2
  callA := callA2
  runB m v9 c a ha := map_at (runB2 m v9 c) (mem_below (by omega))
  callB m v9 c x hx := map_at (callB2 m v9 c) (mem_below hx)
  runC m v9 c x a hx ha := map_at (map_at (runC2 m v9 c) (mem_below hx)) (mem_below (by omega))
  argC m v9 c x y h := by
    rcases xy_cases h with ⟨rfl, rfl⟩ | ⟨rfl, rfl⟩ | ⟨rfl, rfl⟩ | ⟨rfl, rfl⟩ | ⟨rfl, rfl⟩ | ⟨rfl, rfl⟩
    · exact eqC200 m v9 c
    · exact eqC201 m v9 c
    · exact eqC202 m v9 c
    · exact eqC210 m v9 c
    · exact eqC211 m v9 c
    · exact eqC220 m v9 c
  leaf m v9 c x y h v' q hq := by
    rcases xy_cases h with ⟨rfl, rfl⟩ | ⟨rfl, rfl⟩ | ⟨rfl, rfl⟩ | ⟨rfl, rfl⟩ | ⟨rfl, rfl⟩ | ⟨rfl, rfl⟩
    · exact map_at (leaf200 m v9 c v') hq
    · exact map_at (leaf201 m v9 c v') hq
    · exact map_at (leaf202 m v9 c v') hq
    · exact map_at (leaf210 m v9 c v') hq
    · exact map_at (leaf211 m v9 c v') hq
    · exact map_at (leaf220 m v9 c v') hq
/-! the loop's end -/
def hHE (box : V) : H := T.put (pth 1) (some (.cells [box])) .e
def HE (k : Nat) (v9 box : V) : S := ⟨fHD k v9, KH k, ⟨6, [], .normal, none⟩, [], hHE box, 3⟩
def endR (k : Nat) (v9 box : V) : AM.R := run2 ⟨W0, noEx, hHE box⟩ 7 (HE k v9 box)
theorem end_nil (v9 : V) : endR 0 v9 .s0 = .done v9 (hHE .s0) 3 := by kernel_rfl
theorem end0 (v9 : V) : endR 0 v9 (.so (pth 0) 0 0) = .done v9 (hHE (.so (pth 0) 0 0)) 3 := by kernel_rfl
theorem end1 (v9 : V) : endR 1 v9 (.so (pth 0) 0 1) = .done v9 (hHE (.so (pth 0) 0 1)) 3 := by kernel_rfl
theorem end2 (v9 : V) : endR 2 v9 (.so (pth 0) 0 2) = .done v9 (hHE (.so (pth 0) 0 2)) 3 := by kernel_rfl
theorem end3 (v9 : V) : endR 3 v9 (.so (pth 0) 0 3) = .done v9 (hHE (.so (pth 0) 0 3)) 3 := by kernel_rfl
theorem end4 (m : Nat) (v9 : V) : endR 3 v9 (.so (pth 0) 0 (m + 4)) = .done v9 (hHE (.so (pth 0) 0 (m + 4))) 3 := by kernel_rfl
section
variable {cs0 : List Frame} {k : Nat} {fr : Frame} {frs : List Frame} {w : World} {Y X : Value}
/-- the rows' place -/
theorem RowsAt.box {len : Nat} (hr : RowsAt w Y len) : ∃ box ε, (box = .s0 ∧ len = 0 ∨ box = .so (pth 0) 0 len) ∧ conc ε box = some Y ∧ WR W0 w.heap.size .e ε .e 1 w := by
  rcases hr with ⟨rfl, rfl⟩ | ⟨cb, off, cap, rfl, h2, _⟩
  · exact ⟨.s0, _, .inl ⟨rfl, rfl⟩, rfl, (WR.void W0 w).skip⟩
  · refine ⟨.so (pth 0) 0 len, _, .inr rfl, ?_, (WR.void W0 w).path ⟨cb, cap, 1, off⟩⟩
    have := conc_so_mk (ε := Env.upd (fun _ => none) (pth 0) ⟨cb, cap, 1, off⟩) (b := pth 0) (off := 0) (n := len) (Env.upd_same _ _ _) (Nat.succ_pos 0) (by simp; omega)
    rw [this]
    simp [Ent.ad]
theorem made_end (H : HeadR cs0 k fr frs w Y X) {N n len : Nat} (hr : RowsAt w Y len) (hk : k ≤ 3) (hl : k ≤ len) (he : len = k ∨ k = 3) (hp : PolyAt w N n X) :
    ∃ fr' w', Steps Tryz.prog (lone fr frs w) (lone fr' cs0 w') ∧ fr'.fn = 6 ∧ fr'.leaving Tryz.prog w' (.returned X) ∧ Below w.heap.size w w' := by
  obtain ⟨box, ε1, hbx, hb1, hw1⟩ := hr.box
  obtain ⟨cb, el, s4, hkb⟩ := H.box
  have e2 : Ext ε1 (ε1.upd (pth 1) ⟨cb, 0, 0, 0⟩) := Env.upd_ext _ (hw1.fresh 1 (Nat.le_refl _)).1
  have hw2 := hw1.given (x := ⟨cb, 0, 0, 0⟩) (o := .cells [box]) hkb ⟨[Y], el, concL_mk (conc_mono e2 _ _ hb1) rfl, rfl⟩ rfl
  obtain ⟨v9, ε3, hw3, e3, hx3⟩ := hp.path hw2
  have hs : SimR W0 w.heap.size 6 cs0 0 (hHE box) (HE k v9 box) fr frs w ε3 := H.sim s4 hw3 ⟨_, e3.ext _ _ (Env.upd_same _ _ _), rfl, rfl⟩ hx3
  have hpost := run2_post (c := ⟨W0, noEx, hHE box⟩) good0 rfl noEx_ok 7 (fun i hi => (hw3.fresh i hi).2) hs
  have hend : run2 ⟨W0, noEx, hHE box⟩ 7 (HE k v9 box) = .done v9 (hHE box) 3 := by
    rcases hbx with ⟨rfl, rfl⟩ | rfl
    · have : k = 0 := by omega
      subst this
      exact end_nil v9
    · have hcase : (k = 0 ∧ len = 0) ∨ (k = 1 ∧ len = 1) ∨ (k = 2 ∧ len = 2) ∨ (k = 3 ∧ len = 3) ∨ (k = 3 ∧ len = (len - 4) + 4) := by omega
      rcases hcase with ⟨rfl, rfl⟩ | ⟨rfl, rfl⟩ | ⟨rfl, rfl⟩ | ⟨rfl, rfl⟩ | ⟨rfl, e⟩
      · exact end0 v9
      · exact end1 v9
      · exact end2 v9
      · exact end3 v9
      · rw [e]; exact end4 (len - 4) v9
  rw [hend] at hpost
  obtain ⟨ε', fr', w', x, g1, g2, g3, g4, _, g6, g7, _⟩ := hpost
  have := conc_mono g6.ext _ _ hx3
  rw [g4] at this; cases this
  exact ⟨fr', w', g1, g2, g3, g7⟩
end
end Go.AM
end
end
section
/- The contract of Made. -/
noncomputable section
namespace Go.AM
open Go.Proofs
open Go.RowKit (Below)

def e0S (tv : V) : S := gS (enter W0 6 [.ag [tv], .int .i64 (.ofNat 2), .int .i64 (.ofNat 2), .int .i64 (.ofNat 3)] .normal [] .e 1)
def entS (tv : V) : S := gS (run2 ⟨W0, noEx, .e⟩ 3 (e0S tv))
def entL (tv : V) : AM.R × AM.R × List It × Mt × List Fr × List (Option V) × Option O × Option O :=
  (enter W0 6 [.ag [tv], .int .i64 (.ofNat 2), .int .i64 (.ofNat 2), .int .i64 (.ofNat 3)] .normal [] .e 1, run2 ⟨W0, noEx, .e⟩ 3 (e0S tv), (entS tv).k, (entS tv).m, (entS tv).cs, slotsOf (entS tv).f, T.get (pth 1) (entS tv).h, T.get (pth 2) (entS tv).h)
def entR (tv : V) : AM.R × AM.R × List It × Mt × List Fr × List (Option V) × Option O × Option O :=
  (.go (e0S tv), .go (entS tv), K0, ⟨6, [], .normal, none⟩, [], slotsR 0 (.sl (pth 2) 0 0 0), some (.cells [tv]), some (.cells []))
theorem ent_nil : entL .s0 = entR .s0 := by kernel_rfl
theorem ent_so (len : Nat) : entL (.so (pth 0) 0 len) = entR (.so (pth 0) 0 len) := by kernel_rfl
section
variable {cs0 : List Frame} {w : World} {Y : Value}
theorem made_enter {len : Nat} (hr : RowsAt w Y len) (cs : List Frame) :
    ∃ fr' frs' w' X, Steps Tryz.prog (lone (Frame.enter Tryz.prog 6 #[.agg #[Y], .int .i64 (.ofNat 2), .int .i64 (.ofNat 2), .int .i64 (.ofNat 3)] .normal) cs w) (lone fr' frs' w') ∧ HeadR cs 0 fr' frs' w' Y X ∧ Below w.heap.size w w' ∧ PolyAt w' 0 0 X := by
  have htv : ∃ tv ε, WR W0 w.heap.size .e ε .e 1 w ∧ conc ε tv = some Y ∧ entL tv = entR tv := by
    rcases hr with ⟨rfl, rfl⟩ | ⟨cb, off, cap, rfl, h2, _⟩
    · exact ⟨.s0, _, (WR.void W0 w).skip, rfl, ent_nil⟩
    · refine ⟨.so (pth 0) 0 len, _, (WR.void W0 w).path ⟨cb, cap, 1, off⟩, ?_, ent_so len⟩
      have := conc_so_mk (ε := Env.upd (fun _ => none) (pth 0) ⟨cb, cap, 1, off⟩) (b := pth 0) (off := 0) (n := len) (Env.upd_same _ _ _) (Nat.succ_pos 0) (by simp; omega)
      rw [this]
      simp [Ent.ad]
  obtain ⟨tv, ε, hw, hY, hent⟩ := htv
  simp only [entL, entR, Prod.mk.injEq] at hent
  obtain ⟨h1, h2, h3, h4, h5, h6, h7, h8⟩ := hent
  have hargs : concL ε [.ag [tv], .int .i64 (.ofNat 2), .int .i64 (.ofNat 2), .int .i64 (.ofNat 3)] = some [.agg #[Y], .int .i64 (.ofNat 2), .int .i64 (.ofNat 2), .int .i64 (.ofNat 3)] :=
    concL_mk (by rw [conc, concL_mk hY rfl]) rfl
  have hpost := enter_post (P := Tryz.prog) (f0 := 6) (cs0 := cs) (bB := 0) (z := .e) (kd := .normal) (cs := []) (frs := cs) good0 hargs hw ⟨rfl, rfl, Nat.zero_le _⟩
  rw [h1] at hpost
  obtain ⟨εa, fra, frsa, wa, A1, A2, A3, A4, A5, A6⟩ := hpost
  have hpost := run2_post (c := ⟨W0, noEx, .e⟩) good0 rfl noEx_ok 3 (fun i _ => T.get_e _) A2
  rw [h2] at hpost
  obtain ⟨εb, frb, frsb, wb', B1, B2, B3, B4, B5, B6⟩ := hpost
  have hx : ∃ X, conc εb (.sl (pth 2) 0 0 0) = some X ∧ PolyAt wb' 0 0 X := by
    obtain ⟨b0, _, hwb, hfr, _⟩ := B2.ex
    have hf9 : T.get (pth 9) (entS tv).f = some (.sl (pth 2) 0 0 0) := by
      simp only [slotsOf, slotsR, List.cons.injEq, and_true] at h6
      exact h6.2.2.2.2.2.1
    have : ∃ X, conc εb (.sl (pth 2) 0 0 0) = some X := by
      cases hfr with
      | items mt mode kr rel dom => obtain ⟨X, hX, _⟩ := rel.get 9 _ hf9; exact ⟨X, hX⟩
      | back mt mode hk rel dom => obtain ⟨X, hX, _⟩ := rel.get 9 _ hf9; exact ⟨X, hX⟩
      | reg g L ops draw A rest M td al F0 tm0 k1 t' r =>
        have hn : headPlan K0 = false := by kernel_rfl
        rw [← h3, r.hk] at hn; cases hn
    obtain ⟨X, hX⟩ := this
    obtain ⟨y, hy, rfl⟩ := conc_sl hX
    obtain ⟨pre, l, r, el, fz, k1, k2, k3, _⟩ := hwb.cells hy h8 rfl
    cases k1
    exact ⟨_, hX, .inr ⟨y.cb, y.lo + 0, 0, pre, [], r, el, fz, rfl, Nat.le_refl _, by simpa using k2, k3, rfl, fun t ht => (by cases ht)⟩⟩
  obtain ⟨X, hX, hP⟩ := hx
  exact ⟨frb, frsb, wb', X, A1.trans B1, head_of (k := 0) B2 h3 h4 h5 h6 hX h7 (conc_mono (A3.ext.trans B3.ext) _ _ hY), A4.trans B4, hP⟩
theorem made_con {len : Nat} (hr : RowsAt w Y len) (cs : List Frame) :
    ∃ fr' w' x K n, Steps Tryz.prog (lone (Frame.enter Tryz.prog 6 #[.agg #[Y], .int .i64 (.ofNat 2), .int .i64 (.ofNat 2), .int .i64 (.ofNat 3)] .normal) cs w) (lone fr' cs w') ∧ fr'.leaving Tryz.prog w' (.returned x) ∧ Below w.heap.size w w' ∧ PolyAt w' K n x := by
  obtain ⟨fr0, frs0, w0, X0, s0, H0, b0, p0⟩ := made_enter hr cs
  have fin : ∀ {k : Nat} {fr : Frame} {frs : List Frame} {w1 : World} {X : Value} {N n : Nat}, Steps Tryz.prog (lone (Frame.enter Tryz.prog 6 #[.agg #[Y], .int .i64 (.ofNat 2), .int .i64 (.ofNat 2), .int .i64 (.ofNat 3)] .normal) cs w) (lone fr frs w1) → HeadR cs k fr frs w1 Y X →
      Below w.heap.size w w1 → PolyAt w1 N n X → k ≤ 3 → k ≤ len → (len = k ∨ k = 3) →
      ∃ fr' w' x K n, Steps Tryz.prog (lone (Frame.enter Tryz.prog 6 #[.agg #[Y], .int .i64 (.ofNat 2), .int .i64 (.ofNat 2), .int .i64 (.ofNat 3)] .normal) cs w) (lone fr' cs w') ∧ fr'.leaving Tryz.prog w' (.returned x) ∧ Below w.heap.size w w' ∧ PolyAt w' K n x := by
    intro k fr frs w1 X N n hs hH hb hp h3 hl he
    obtain ⟨fr', w', g1, _, g3, g4⟩ := made_end hH (hr.below hb) h3 hl he hp
    exact ⟨fr', w', X, N, n, hs.trans g1, g3, hb.trans (g4.mono hb.size), hp.below g4⟩
  by_cases l0 : len = 0
  · exact fin s0 H0 b0 p0 (by omega) (by omega) (.inl l0)
  obtain ⟨fr1, frs1, w1, X1, n1, s1, H1, b1, le1, p1⟩ := made_round round0 (K := 3) (by omega) (Nat.zero_le 6) (by omega) (.inr (.inr ⟨rfl, rfl⟩)) H0 (hr.below b0) (by omega) p0 (Nat.le_refl 0)
  have c1 := b0.trans (b1.mono b0.size)
  by_cases l1 : len = 1
  · exact fin (s0.trans s1) H1 c1 p1 (by omega) (by omega) (.inl l1)
  obtain ⟨fr2, frs2, w2, X2, n2, s2, H2, b2, le2, p2⟩ := made_round round1 (K := 6) (by omega) (by omega) (by omega) (.inr (.inl ⟨rfl, by omega⟩)) H1 (hr.below c1) (by omega) p1 (by omega)
  have c2 := c1.trans (b2.mono c1.size)
  by_cases l2 : len = 2
  · exact fin ((s0.trans s1).trans s2) H2 c2 p2 (by omega) (by omega) (.inl l2)
  obtain ⟨fr3, frs3, w3, X3, n3, s3, H3, b3, le3, p3⟩ := made_round round2 (K := 9) (by omega) (by omega) (by omega) (.inl rfl) H2 (hr.below c2) (by omega) p2 (by omega)
  exact fin (((s0.trans s1).trans s2).trans s3) H3 (c2.trans (b3.mono c2.size)) p3 (by omega) (by omega) (.inr rfl)
end
end Go.AM
end
end
section
/- ProverNeeds, as the machine does it. -/
noncomputable section
namespace Go.AM
open Go.Proofs

def nc0 : Cx := ⟨W0, noEx, .e⟩
def nHold : Hold := ⟨[4, 6], [], fun _ => false⟩
def nE (n : Int) (tv : V) : S := gS (enter W0 3 [.int .i64 n, .ag [tv]] .normal [] .e 1)
/-- at the call of sanity -/
def nP (n : Int) (tv : V) : S := gS (runTo nc0 nHold 7 (nE n tv))
/-- at the call of Made -/
def nQ (n : Int) (tv : V) : S := gS (thenRun nc0 nHold 7 (callWith (nP n tv) (.bl true) (nP n tv).h (nP n tv).nx))
/-- the end -/
def nR (n : Int) (tv v' : V) : AM.R := thenRun nc0 noHold 9 (callWith (nQ n tv) v' (nQ n tv).h ((nQ n tv).nx + 1))
def needL (n : Int) (tv : V) : AM.R × AM.R × Option (FuncId × List V) × AM.R × Option (FuncId × List V) :=
  (enter W0 3 [.int .i64 n, .ag [tv]] .normal [] .e 1, runTo nc0 nHold 7 (nE n tv), nextCall (nP n tv), thenRun nc0 nHold 7 (callWith (nP n tv) (.bl true) (nP n tv).h (nP n tv).nx), nextCall (nQ n tv))
def needR (n : Int) (tv : V) : AM.R × AM.R × Option (FuncId × List V) × AM.R × Option (FuncId × List V) :=
  (.go (nE n tv), .go (nP n tv), some (4, []), .go (nQ n tv), some (6, [.ag [tv], .int .i64 (.ofNat 2), .int .i64 (.ofNat 2), .int .i64 (.ofNat 3)]))
theorem need_nil (n : Int) : needL n .s0 = needR n .s0 := by kernel_rfl
theorem need_so (n : Int) (len : Nat) : needL n (.so (pth 0) 0 len) = needR n (.so (pth 0) 0 len) := by kernel_rfl
def fourR (n : Int) (len l : Nat) : List (Option V) :=
  [doneV (nR n .s0 .s0), doneV (nR n .s0 (.so (pth (nQ n .s0).nx) 0 l)), doneV (nR n (.so (pth 0) 0 len) .s0), doneV (nR n (.so (pth 0) 0 len) (.so (pth (nQ n .s0).nx) 0 l))]
def four : List (Option V) := [some (.bl true), some (.bl true), some (.bl true), some (.bl true)]
theorem need_neg (m len l : Nat) : fourR (.negSucc m) len l = four := by kernel_rfl
theorem need_big (m len l : Nat) : fourR (.ofNat (m + 11)) len l = four := by kernel_rfl
theorem need_small (len l : Nat) : (below 11).map (fun i => fourR (.ofNat i) len l) = (below 11).map (fun _ => four) := by kernel_rfl
theorem need_nx (n : Int) (len : Nat) : (nQ n (.so (pth 0) 0 len)).nx = (nQ n .s0).nx := by kernel_rfl
end Go.AM
end
end
