/- Parts of the proof, joined: AmSanity AmNeeds2 AmOpen. -/
import Derived.Test.YtfhfilkicbdboaaGreatAmRun0
import Derived.Test.YtfhfilkicbdboaaGreatAmRun1
import Derived.Test.YtfhfilkicbdboaaGreatAmRun2
import Derived.Test.YtfhfilkicbdboaaGreatAmRun3
import Derived.Test.YtfhfilkicbdboaaGreatAmRun4
import Derived.Test.YtfhfilkicbdboaaGreatAmRun5
import Derived.Test.YtfhfilkicbdboaaGreatAmRun6
import Derived.Test.YtfhfilkicbdboaaGreatAmRun7
import Derived.Test.YtfhfilkicbdboaaGreatAmRun8
import Derived.Test.YtfhfilkicbdboaaGreatAmRun9
import Derived.Test.YtfhfilkicbdboaaGreatAmRun10
import Derived.Test.YtfhfilkicbdboaaGreatAmRun11
import Derived.Test.YtfhfilkicbdboaaGreatAmRun12
import Derived.Test.YtfhfilkicbdboaaGreatAmRun13
import Derived.Test.YtfhfilkicbdboaaGreatAmRun14
import Derived.Test.YtfhfilkicbdboaaGreatAmRun15
import Derived.Test.YtfhfilkicbdboaaGreatAmRun16
import Derived.Test.YtfhfilkicbdboaaGreatAmRun17
import Derived.Test.YtfhfilkicbdboaaGreatAmRun18
import Derived.Test.YtfhfilkicbdboaaGreatAmRun19
import Derived.Test.YtfhfilkicbdboaaGreatAmRun20
import Derived.Test.YtfhfilkicbdboaaGreatAmRun21
import Derived.Test.YtfhfilkicbdboaaGreatAmRun22
import Derived.Test.YtfhfilkicbdboaaGreatAmGood
import Derived.Test.YtfhfilkicbdboaaGreatAm23
import Derived.ProofKit
import Derived.Deep.Slices
import Derived.Deep.Fields
import Derived.OpenShut
import Derived.Carry
section
/- The fixed examples: the run from beginning to end; what a call comes to. -/
namespace Go.AM
open Go.Proofs
open Go.RowKit (Below)
theorem sanity_enter : enter W0 4 [] .normal [] .e 0 = .go s0 := by kernel_rfl
theorem sanity_run : Run C0 s0 bT :=
  .cut 16 c0 o0 (.cut 16 c1 o1 (.cut 16 c2 o2 (.cut 16 c3 o3 (.cut 16 c4 o4 (.cut 16 c5 o5 (.cut 16 c6 o6 (.cut 16 c7 o7 (.cut 16 c8 o8 (.cut 16 c9 o9 (.cut 16 c10 o10 (.cut 16 c11 o11 (.cut 16 c12 o12 (.cut 16 c13 o13 (.cut 16 c14 o14 (.cut 16 c15 o15 (.cut 16 c16 o16 (.cut 16 c17 o17 (.cut 16 c18 o18 (.cut 16 c19 o19 (.cut 16 c20 o20 (.cut 16 c21 o21 (.ofDone 16 c22))))))))))))))))))))))
theorem sanity_calls (w : World) : Calls Tryz.prog 4 #[] w fun e w' => e = .returned (.bool true) ∧ Below w.heap.size w w' :=
  Run.calls good0 [206, 105] sanity_enter sanity_run w fun _ => rfl
end Go.AM
end
section
/- The contract of ProverNeeds. -/
noncomputable section
namespace Go.AM
open Go.Proofs
open Go.RowKit (Below)

section
variable {w : World} {X Y : Value} {B : Nat} {z : H} {ε : Env} {h : H} {nx : Nat}
theorem PolyAt.path2 {N n : Nat} (hp : PolyAt w N n X) (hw : WR W0 B z ε h nx w) : ∃ v ε', (v = .s0 ∨ v = .so (pth nx) 0 n) ∧ WR W0 B z ε' h (nx + 1) w ∧ EvB nx ε h ε' h ∧ conc ε' v = some X := by
  rcases hp with ⟨rfl, rfl⟩ | ⟨cb, off, cap, pre, ts, r, el, fz, rfl, h2, h3, h4, h5, h6⟩
  · exact ⟨.s0, ε, .inl rfl, hw.skip, EvB.refl _ _ _, rfl⟩
  · refine ⟨.so (pth nx) 0 n, ε.upd (pth nx) ⟨cb, cap, 1, off⟩, .inr rfl, hw.path _, ⟨Env.upd_ext _ (hw.fresh nx (Nat.le_refl _)).1, fun i hi hn => ⟨?_, rfl⟩⟩, ?_⟩
    · have : pth i ≠ pth nx := fun e => by have := pth_inj e; omega
      rw [Env.upd_ne _ _ this]; exact hn
    · have := conc_so_mk (ε := ε.upd (pth nx) ⟨cb, cap, 1, off⟩) (b := pth nx) (off := 0) (n := n) (Env.upd_same _ _ _) (Nat.succ_pos 0) (by simp; omega)
      rw [this]
      simp [Ent.ad]
theorem four_at {n : Int} (len l : Nat) : fourR n len l = four := by
  cases n with
  | negSucc m => exact need_neg m len l
  | ofNat a =>
    by_cases e : a < 11
    · exact map_at (need_small len l) (mem_below e)
    · have : a = (a - 11) + 11 := by omega
      rw [this]; exact need_big (a - 11) len l
theorem body4 : ∃ b, bodyOf W0 4 = some b := by
  have h : (bodyOf W0 4).isSome = true := by kernel_rfl
  exact Option.isSome_iff_exists.1 h
theorem body6 : ∃ b, bodyOf W0 6 = some b := by
  have h : (bodyOf W0 6).isSome = true := by kernel_rfl
  exact Option.isSome_iff_exists.1 h
theorem need_con {len : Nat} (hr : RowsAt w Y len) (n : Int) (cs : List Frame) :
    ∃ fr' w', Steps Tryz.prog (lone (Frame.enter Tryz.prog 3 #[.int .i64 n, .agg #[Y]] .normal) cs w) (lone fr' cs w') ∧ fr'.fn = 3 ∧ fr'.leaving Tryz.prog w' (.returned (.bool true)) ∧ Below w.heap.size w w' := by
  have htv : ∃ tv ε, WR W0 w.heap.size .e ε .e 1 w ∧ conc ε tv = some Y ∧ needL n tv = needR n tv ∧ (tv = .s0 ∨ tv = .so (pth 0) 0 len) := by
    rcases hr with ⟨rfl, rfl⟩ | ⟨cb, off, cap, rfl, h2, _⟩
    · exact ⟨.s0, _, (WR.void W0 w).skip, rfl, need_nil n, .inl rfl⟩
    · refine ⟨.so (pth 0) 0 len, _, (WR.void W0 w).path ⟨cb, cap, 1, off⟩, ?_, need_so n len, .inr rfl⟩
      have := conc_so_mk (ε := Env.upd (fun _ => none) (pth 0) ⟨cb, cap, 1, off⟩) (b := pth 0) (off := 0) (n := len) (Env.upd_same _ _ _) (Nat.succ_pos 0) (by simp; omega)
      rw [this]
      simp [Ent.ad]
  obtain ⟨tv, ε, hw, hY, hent, hform⟩ := htv
  simp only [needL, needR, Prod.mk.injEq] at hent
  obtain ⟨h1, h2, h3, h4, h5⟩ := hent
  have hargs : concL ε [.int .i64 n, .ag [tv]] = some [.int .i64 n, .agg #[Y]] := concL_mk rfl (concL_mk (by rw [conc, concL_mk hY rfl]) rfl)
  have hz : ∀ i, ZOk nc0.z i := fun i _ _ => T.get_e _
  have hpost := enter_post (P := Tryz.prog) (f0 := 3) (cs0 := cs) (bB := 0) (z := .e) (kd := .normal) (cs := []) (frs := cs) good0 hargs hw ⟨rfl, rfl, Nat.zero_le _⟩
  rw [h1] at hpost
  obtain ⟨εa, fra, frsa, wa, A1, A2, A3, A4, A5, A6⟩ := hpost
  have hpost := runTo_post (c := nc0) good0 rfl noEx_ok nHold 7 (hz _) A2
  rw [h2] at hpost
  obtain ⟨εb, frb, frsb, wb', B1, B2, B3, B4, B5, B6⟩ := hpost
  -- sanity
  obtain ⟨v, h', nx', ⟨rfl, rfl, rfl⟩, hpost⟩ := call_any (Q := fun v h' nx' => v = .bl true ∧ h' = (nP n tv).h ∧ nx' = (nP n tv).nx) good0 B2 h3 body4 fun ε1 w1 args _ _ k3 k4 cs' => by
    cases k4
    obtain ⟨e, w', fr', ⟨rfl, g2⟩, g3, g4⟩ := sanity_calls w1 cs'
    exact ⟨.bl true, _, _, ⟨rfl, rfl, rfl⟩, Nat.le_refl _, Frz.refl _ _, ε1, w', fr', .bool true, g3, g4.2, k3.below g2, g2.mono k3.base, rfl, EvB.refl _ _ _⟩
  have hpost := post_run (p := nHold) (n := 7) (hz _) hpost
  have h4' : thenRun ⟨W0, noEx, nc0.z⟩ nHold 7 (callWith (nP n tv) (.bl true) (nP n tv).h (nP n tv).nx) = .go (nQ n tv) := h4
  rw [h4'] at hpost
  obtain ⟨εc, frc, frsc, wc, C1, C2, C3, C4, C5, C6⟩ := hpost
  have hext : Ext ε εc := (A3.ext.trans B3.ext).trans C3.ext
  have hbel : Below w.heap.size w wc := (A4.trans B4).trans C4
  -- Made
  obtain ⟨v', h', nx', ⟨l, hv', rfl, rfl⟩, hpost⟩ := call_any (Q := fun v h' nx' => ∃ l, (v = .s0 ∨ v = .so (pth (nQ n tv).nx) 0 l) ∧ h' = (nQ n tv).h ∧ nx' = (nQ n tv).nx + 1) good0 C2 h5 body6 fun ε1 w1 args k1 k2 k3 k4 cs' => by
    obtain ⟨A, L, hA, hL, rfl⟩ := concL_cons k4
    cases hL
    obtain ⟨l1, hl1, rfl⟩ := conc_ag hA
    obtain ⟨Y1, L1, hY1, hL1, rfl⟩ := concL_cons hl1
    cases hL1
    have e1 := conc_mono (hext.trans k1) _ _ hY
    rw [hY1] at e1; cases e1
    obtain ⟨fr', w', x, K, l, g1, g2, g3, g4⟩ := made_con (hr.below (hbel.trans k2)) cs'
    obtain ⟨v, ε', p0, p1, p2, p3⟩ := g4.path2 (k3.below g3)
    exact ⟨v, (nQ n tv).h, (nQ n tv).nx + 1, ⟨l, p0, rfl, rfl⟩, Nat.le_succ _, Frz.refl _ _, ε', w', fr', x, g1, g2, p1, g3.mono k3.base, p3, p2⟩
  have hpost := post_run (p := noHold) (n := 9) (hz _) hpost
  have hend : doneV (nR n tv v') = some (.bl true) := by
    have h4 := four_at (n := n) len l
    simp only [fourR, four, List.cons.injEq, and_true] at h4
    obtain ⟨q1, q2, q3, q4⟩ := h4
    rcases hform with rfl | rfl
    · rcases hv' with rfl | rfl
      · exact q1
      · exact q2
    · rcases hv' with rfl | rfl
      · exact q3
      · rw [need_nx]; exact q4
  have hR : thenRun ⟨W0, noEx, nc0.z⟩ noHold 9 (callWith (nQ n tv) v' (nQ n tv).h ((nQ n tv).nx + 1)) = nR n tv v' := rfl
  rw [hR] at hpost
  unfold doneV at hend
  split at hend
  · rename_i u hu nu e
    cases hend
    rw [e] at hpost
    obtain ⟨ε', fr', w', x, g1, g2, g3, g4, _, _, g7, _⟩ := hpost
    cases g4
    exact ⟨fr', w', ((A1.trans B1).trans C1).trans g1, g2, g3, hbel.trans g7⟩
  · cases hend
end
end Go.AM
end
end
section
/- An argument of the form struct { T [][5]int8 }, opened: its rows lie in one block, each number within its bounds. -/
namespace Go.AM
open Go.ChangeShapes Go.WideShapes Go.RowKit Go.Deep

theorem list_mid {α : Type} (L : List α) (off N : Nat) (g : Nat → α) (h : ∀ t, t < N → L[off + t]? = some (g t)) (hN : 0 < N) :
    L = L.take off ++ ((List.range N).map g ++ L.drop (off + N)) ∧ (L.take off).length = off := by
  have hlt : off + (N - 1) < L.length := (List.getElem?_eq_some_iff.1 (h (N - 1) (by omega))).1
  have e1 : (L.take off).length = off := by rw [List.length_take]; omega
  refine ⟨List.ext_getElem? fun i => ?_, e1⟩
  by_cases h1 : i < off
  · rw [List.getElem?_append_left (by omega), List.getElem?_take_of_lt h1]
  · rw [List.getElem?_append_right (by omega), e1]
    by_cases h2 : i - off < N
    · rw [List.getElem?_append_left (by simpa using h2)]
      have := h (i - off) h2
      rw [show off + (i - off) = i by omega] at this
      rw [this]
      simp [h2]
    · rw [List.getElem?_append_right (by simp; omega)]
      simp only [List.length_map, List.length_range, List.getElem?_drop]
      congr 1
      omega

theorem addr_none (cb off n : Nat) : Addr.add ⟨cb, off, none⟩ n = ⟨cb, off + n, none⟩ := by
  unfold Addr.add
  split
  · subst_vars; rfl
  · rfl

section
variable {H : Type} {enc : TypeId × Value → H} {P : Program} {W : World} {base : Nat} {sp : Nat → Bool} {held : Bool} {r : Reach} {b0 : Nat}

theorem rows_slice {s e k : TypeId} {fuel : Nat} {Y : Value} {x : DataW H × List MemPlace} (hs : P.underlying s = some (.slice e)) (he : P.underlying e = some (.array 5 k)) (hk : P.underlying k = some (.int .i8))
    (c5 : P.cellsOf e = 5) (c1 : P.cellsOf k = 1) (hok : Cell.okWide P W r b0 s Y) (h : DataW.trod enc P W base sp held fuel s [Y] = some x) :
    ∃ n, (Y = .slice none 0 0 ∧ n = 0) ∨ ∃ (cb off cap : Nat), Y = .slice (some ⟨cb, off, none⟩) n cap ∧ n ≤ cap ∧ (0 < n → ∃ (pre r : List Value) (c : Nat → Int) (el : TypeId) (fz : Nat × Nat),
      W.heap[cb]? = some (.cells (pre ++ ((List.range (5 * n)).map (fun i => Value.int .i8 (c i)) ++ r)).toArray el fz) ∧ pre.length = off ∧ ∀ i, -128 ≤ c i ∧ c i ≤ 127) := by
  rcases open_slice hs h with ⟨h1, _⟩ | ⟨a, len, cap, m, n, D, Pl, h1, _, h2, h3, h4, h5, h6⟩
  · simp only [List.cons.injEq, and_true] at h1
    exact ⟨0, .inl ⟨h1, rfl⟩⟩
  · simp only [List.cons.injEq, and_true] at h1
    subst h1
    have hm : len ≤ m := by rw [h4]; split <;> omega
    have hspot : a.spot = none := by
      simp only [Cell.okWide, Cell.ok, hs] at hok
      exact hok.2.2.2.1
    obtain ⟨cb, off, spot⟩ := a
    cases hspot
    refine ⟨len, .inr ⟨cb, off, cap, rfl, h2, fun hn => ?_⟩⟩
    have hc : ∀ t, t < 5 * len → ∃ x : Int, W.cell? ⟨cb, off + t, none⟩ = some (.int .i8 x) ∧ -128 ≤ x ∧ x ≤ 127 := by
      intro t ht
      obtain ⟨cs', g1, g2⟩ := h6 (t / 5) (by omega)
      rw [c5] at g1
      obtain ⟨_, g3, g4⟩ := World.cells?_some g1
      obtain ⟨xs, m', _, _, _, g5, g6⟩ := DataW.trod_array he g2
      have hj := g6 (t % 5) (by omega)
      rw [c1, List.getElem?_eq_getElem (by omega)] at hj
      obtain ⟨z, e1, _, e3⟩ := DataW.trod_int hk hj
      have g7 := g4 (t % 5) (by omega)
      rw [addr_none, addr_none, show off + t / 5 * 5 + t % 5 = off + t by omega] at g7
      have e4 : cs'[t % 5]? = some (.int .i8 z) := by
        have e5 : ((cs'.drop (t % 5 * 1)).take 1)[0]? = some (.int .i8 z) := by rw [e1]; rfl
        rw [List.getElem?_take_of_lt (by omega), List.getElem?_drop] at e5
        simpa using e5
      refine ⟨z, g7.trans e4, ?_⟩
      simpa [Lit.wf, IntKind.min, IntKind.max, IntKind.signed, IntKind.bits] using e3
    obtain ⟨x0, hx0, _⟩ := hc 0 (by omega)
    unfold World.cell? at hx0
    split at hx0
    · rename_i c el fz hb
      obtain ⟨L⟩ := c
      let f : Nat → Int := fun i => if i < 5 * len then (match L[off + i]? with | some (.int _ x) => x | _ => 0) else 0
      have hf : ∀ t, t < 5 * len → L[off + t]? = some (.int .i8 (f t)) ∧ -128 ≤ f t ∧ f t ≤ 127 := by
        intro t ht
        obtain ⟨x, hx, hx1, hx2⟩ := hc t ht
        unfold World.cell? at hx
        simp only [hb] at hx
        have hx' : L[off + t]? = some (.int .i8 x) := by simpa using hx
        have e : f t = x := by simp only [f, if_pos ht, hx']
        rw [e]
        exact ⟨hx', hx1, hx2⟩
      obtain ⟨e1, e2⟩ := list_mid L off (5 * len) (fun i => Value.int .i8 (f i)) (fun t ht => (hf t ht).1) (by omega)
      refine ⟨L.take off, L.drop (off + 5 * len), f, el, fz, ?_, e2, fun i => ?_⟩
      · rw [hb, ← e1]
      · by_cases hi : i < 5 * len
        · exact (hf i hi).2
        · have : f i = 0 := by simp only [f, if_neg hi]
          rw [this]
          omega
    · cases hx0

theorem raw_open {t s : TypeId} {f0 : Field} {v : Value} {d : DataW H} {p : List MemPlace} (hs : P.underlying t = some (.struct #[f0])) (hf : f0.type = s) (hone : oneCellFields P #[f0] = true) (hC : P.cellsOf t = 1)
    (hct : P.cellTypes P.depth t = some [s]) (hv : Value.okWide P W r b0 t v) (h : DataW.Trod enc P W base sp held t v d p) :
    ∃ (Y : Value) (n : Nat) (x : DataW H × List MemPlace), v = .agg #[Y] ∧ Cell.okWide P W r b0 s Y ∧ DataW.trod enc P W base sp held n s [Y] = some x := by
  simp only [Value.okWide, hs] at hv
  obtain ⟨cs, rfl, hsz, ts, h1, _, h2⟩ := hv
  rw [hct] at h1
  cases h1
  obtain ⟨l⟩ := cs
  match l, hsz.trans hC with
  | [Y], _ =>
    obtain ⟨u, hu, hok⟩ := h2 0 Y rfl
    cases hu
    obtain ⟨fuel, hf'⟩ := h
    obtain ⟨xs, n, _, _, _, hlen, hg⟩ := DataW.trod_struct hs hf'
    obtain ⟨o0, k0⟩ := hone_of hone 0 f0 rfl
    match xs, hlen with
    | [y0], _ =>
      refine ⟨Y, n, y0, rfl, hok, ?_⟩
      have := hg 0 f0 rfl
      rw [o0, k0, hf] at this
      simpa [Value.cells] using this
end
end Go.AM
end
