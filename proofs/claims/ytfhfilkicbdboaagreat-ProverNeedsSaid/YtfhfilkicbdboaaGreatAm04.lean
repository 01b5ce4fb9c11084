/- Parts of the proof, joined: AmSnd13 AmSnd14 AmSnd15 AmSnd16 AmSnd17 AmSnd18 AmSnd19. -/
import Derived.Test.YtfhfilkicbdboaaGreatAm03
import Derived.Room.Entries
import Derived.Laws.AppendOwn
import Derived.Laws.NewFold
section
/- Slices by make, functions, checks for nil, lengths, walks begun, copying, clearing. -/
namespace Go.AM
open Go.RowKit (Below)
section
variable {W : Wd} {P : Program} (hf : Fits W P) {B : Nat} {zf : H} {ε : Env} {h : H} {nx : Nat} {w : World} {p : Pth} (hp : ε p = none)
theorem small_wrap (n : Nat) (h : n ≤ 10000) : IntKind.i64.wrap (n : Int) = n := by
  have h1 : IntKind.i64.min = -9223372036854775808 := by decide
  have h2 : IntKind.i64.max = 9223372036854775807 := by decide
  exact wrap_in .i64 _ (by omega) (by omega)
include hf hp in
theorem makeSlice_sound {t : TypeId} {q r : Q} {g : E → F → Pth → Option AV} {e : E} {f : F} {v : AV} {x y : Value}
    (hc : cMakeSlice W t (.mk q) (.mk r) = .a g) (hv : g e f p = some v) (ha : ∀ u, q e f = some u → conc ε u = some x) (hb : ∀ u, r e f = some u → conc ε u = some y) :
    Mkd W P ε w (Instr.makeSlice t x y) p v := by
  unfold cMakeSlice at hc
  simp only [bx] at hc
  split at hc
  · rename_i el he
    have hu := elemOf_some he
    split at hc
    · rename_i z hz
      obtain ⟨i, hi, hbytes, hzc, hzl⟩ := zeroN_some hz
      cases hc
      obtain ⟨lv, h1, h2⟩ := ob_eq hv
      obtain ⟨k, n, rfl, h3⟩ := onN_some h2
      obtain ⟨cv, h4, h5⟩ := ob_eq h3
      obtain ⟨j, m, rfl, h6⟩ := onN_some h5
      obtain ⟨h7, h8⟩ := bc_some h6
      obtain ⟨h9, h10⟩ := bc_some h8
      cases h10
      have h7 := Nat.le_of_ble_eq_true h7
      have h9 := Nat.le_of_ble_eq_true h9
      have hx := ha _ h1
      have hy := hb _ h4
      cases hx; cases hy
      obtain ⟨zv, h11, h12, _⟩ := zeroC_run (ε := ε) hf hzc w
      have hzs : zv.cells.size = szOf W el := by rw [← hzl]; simpa using concL_length h12
      refine ⟨.slice (some (Ent.ad ⟨w.heap.size, 0, 0, 0⟩ 0)) n m, .cells ((List.replicate m zv.cells.toList).flatten).toArray el, 0, 0, ?_, ⟨_, el, concL_mono (Env.upd_ext _ hp) _ _ (rep_conc h12 m), rfl⟩, conc_sl_mk _ _ _ (Env.upd_same _ _ _)⟩
      have w1 : IntKind.i64.wrap (Int.ofNat n) = (n : Int) := small_wrap n (by omega)
      have w2 : IntKind.i64.wrap (Int.ofNat m) = (m : Int) := small_wrap m h9
      have hle : (i.bytes : Int) * (m : Int) ≤ 65536 * 10000 := Int.mul_le_mul (by omega) (by omega) (by omega) (by omega)
      have hno : ¬ ((m : Int) < 0 ∨ (i.bytes : Int) * (m : Int) > 2 ^ 48) := by
        rintro (q | q)
        · omega
        · have : (2 : Int) ^ 48 = 281474976710656 := by decide
          omega
      have hcells : ∀ zc : Array Value, (m * szOf W el = 0 ∧ zc = #[] ∨ m * szOf W el ≠ 0 ∧ zc = zv.cells) → (Array.range (m * szOf W el)).map (fun i => zc[i % zc.size]!) = ((List.replicate m zv.cells.toList).flatten).toArray := by
        rintro zc (⟨h0, rfl⟩ | ⟨h0, rfl⟩)
        · rw [h0]
          have := flat_size zv.cells.toList m
          have h1 : ((List.replicate m zv.cells.toList).flatten).length = 0 := by rw [this]; simp [hzs, h0]
          rw [List.eq_nil_of_length_eq_zero h1]; simp
        · exact range_zero zv.cells m _ (by rw [hzs])
      have hc0 : m * szOf W el = 0 → _ := fun h => hcells #[] (.inl ⟨h, rfl⟩)
      have hc1 : m * szOf W el ≠ 0 → _ := fun h => hcells zv.cells (.inr ⟨h, rfl⟩)
      simp only [Instr.makeSlice, Sem.run_bind, run_und hf hu w, Result.andThen_ok, asInt, asIntOf, Sem.run_pure, run_inf hf hi w, w1, w2]
      rw [if_neg (by simp only [Bool.or_eq_true, decide_eq_true_eq]; omega)]
      simp only [Sem.run_bind, Result.andThen_ok, run_askRoom, run_szOf hf hi w, Int.toNat_natCast]
      by_cases h0 : m * szOf W el = 0
      · rw [if_pos h0]
        simp only [Sem.run_pure, Sem.run_bind, Result.andThen_ok, hc0 h0, run_newRow]; rfl
      · rw [if_neg h0]
        simp only [Sem.run_pure, Sem.run_bind, Result.andThen_ok, h11, hc1 h0, run_newRow]; rfl
    · cases hc
  · cases hc
/-- a check for nil, as the operation does it -/
theorem nilOk_conc {v : V} {x : Value} (hn : nilOk v = true) (hx : conc ε v = some x) :
    (∃ a, x = .pointer (some a)) ∨ (∃ n a b, x = .func (.func n) a b) ∨ (∃ r, x = .func (.yield r) #[] #[]) ∨ ∃ t y, x = .iface t y := by
  unfold nilOk at hn
  split at hn
  · obtain ⟨_, _, rfl⟩ := conc_p hx; exact .inl ⟨_, rfl⟩
  · obtain ⟨_, _, _, _, rfl⟩ := conc_fn hx; exact .inr (.inl ⟨_, _, _, rfl⟩)
  · obtain ⟨_, _, rfl⟩ := conc_yl hx; exact .inr (.inr (.inl ⟨_, rfl⟩))
  · obtain ⟨_, _, rfl⟩ := conc_ifc hx; exact .inr (.inr (.inr ⟨_, _, rfl⟩))
  · cases hn
include hf in
theorem range_sound (hw : WR W B zf ε h nx w) {t : TypeId} {q : Q} {g : E → F → H → Nat → Option HNV} {e : E} {f : F} {v : HNV} {x : Value}
    (hc : cRange W t (.mk q) = .ap g) (hv : g e f h nx = some v) (ha : ∀ u, q e f = some u → conc ε u = some x) :
    ∃ z w' ε', (Instr.range t x).run P w = .ok z w' ∧ WR W B zf ε' v.h v.nx w' ∧ Below B w w' ∧ Ev ε h nx ε' v.h v.nx ∧ conc ε' v.v = some z ∧ v.b = none ∧ ∃ o, v.h = T.put (pth nx) (some o) h := by
  unfold cRange at hc
  simp only [bx] at hc
  split at hc
  · cases hc
  · rename_i mt hm
    cases hc
    obtain ⟨u, h1, h2⟩ := ob_eq hv
    obtain ⟨b, es, c, rfl, h3, h4⟩ := onMap_some h2
    cases h4
    obtain ⟨y, hy, rfl⟩ := conc_mp (ha _ h1)
    obtain ⟨k, g1, ⟨xs, hxs, rfl⟩, _⟩ := hw.blk b y _ hy h3
    have hu := run_und hf (mapTypes_some (kt := mt.1) (el := mt.2) hm) w
    have hfresh := (hw.fresh nx (Nat.le_refl _)).1
    obtain ⟨k1, k2, k3⟩ := hw.make (o := .mit b c [] c) (k := .mapIter (some y.cb) c #[] c) 0 0 ⟨y, Env.upd_ext _ hfresh b y hy, by simp⟩
    refine ⟨_, _, _, ?_, k1, k2, k3, conc_p_mk 0 (Env.upd_same _ _ _), rfl, _, rfl⟩
    simp [Instr.range, hu, MapKept.run_getObj_map g1, Ent.ad]
end
end Go.AM
end
section
/- Copying, clearing, appending. -/
namespace Go.AM
open Go.RowKit (Below)
section
variable {W : Wd} {P : Program} (hf : Fits W P) {B : Nat} {zf : H} {ε : Env} {h : H} {nx : Nat} {w : World}
theorem firsts_sound (hw : WR W B zf ε h nx w) {s n : Nat} {x : V} {a : Value} {vs : List V} (h1 : firsts s h x n = some vs) (hx : conc ε x = some a) :
    ∃ us, concL ε vs = some us ∧ (Builtin.firstCells s n a).run P w = .ok us.toArray w := by
  unfold firsts at h1
  split at h1
  · obtain ⟨y, hy, rfl⟩ := conc_sl hx
    obtain ⟨us, h2, _, h3⟩ := rdN_run (P := P) hw hy h1
    exact ⟨us, h2, h3⟩
  · obtain ⟨y, hy, _, _, rfl⟩ := conc_so hx
    obtain ⟨us, h2, _, h3⟩ := rdN_run (P := P) hw hy h1
    exact ⟨us, h2, h3⟩
  · obtain ⟨h2, h3⟩ := bc_some h1
    have e := Nat.eq_of_beq_eq_true h2
    subst e; cases h3
    obtain ⟨_, _, rfl⟩ := eqT_conc_sl hx
    exact ⟨[], rfl, by simp [Builtin.firstCells, loadCells, loadCellsFrom]⟩
  · obtain ⟨h2, h3⟩ := bc_some h1
    have e := Nat.eq_of_beq_eq_true h2
    subst e; cases h3
    cases hx
    exact ⟨[], rfl, by simp [Builtin.firstCells]⟩
  · cases h1
/-- a slice's length and base -/
theorem lenW_sound {x : V} {n : Nat} {a : Value} (h1 : lenW h x = some n) (hx : conc ε x = some a) : ∃ b c, a = .slice b n c := by
  unfold lenW at h1
  split at h1
  · obtain ⟨_, _, rfl⟩ := conc_sl hx; simp only [lenV, Option.some.injEq] at h1; subst h1; exact ⟨_, _, rfl⟩
  · obtain ⟨_, _, _, _, rfl⟩ := conc_so hx; simp only [lenV, Option.some.injEq] at h1; subst h1; exact ⟨_, _, rfl⟩
  · obtain ⟨_, _, rfl⟩ := eqT_conc_sl hx; simp only [lenV, Option.some.injEq] at h1; subst h1; exact ⟨_, _, rfl⟩
  · cases hx; simp only [lenV, Option.some.injEq] at h1; subst h1; exact ⟨_, _, rfl⟩
  · cases h1
/-- cells over the beginning of a slice -/
theorem wrS_sound (hw : WR W B zf ε h nx w) {x : V} {vs : List V} {r : H × Option Pth} {us : List Value} {b : Option Addr} {n c : Nat} (hzb : frzO zf r.2 = true) (h1 : wrS h x vs = some r) (hx : conc ε x = some (.slice b n c)) (hu : concL ε vs = some us) :
    (us = [] ∧ r.1 = h) ∨ ∃ a w', b = some a ∧ (storeCells a us).run P w = .ok () w' ∧ Wrote W B zf ε h nx w r.1 r.2 w' := by
  unfold wrS at h1
  split at h1
  · cases h1; cases hu; exact .inl ⟨rfl, rfl⟩
  · split at h1
    · obtain ⟨h', h2, h3⟩ := ob_eq h1
      cases h3
      obtain ⟨y, hy, e⟩ := conc_sl hx
      cases e
      obtain ⟨w', k1, k2, k3, o', k4, k5⟩ := wr_run (P := P) hw hy (frz_none hzb) h2 hu
      exact .inr ⟨_, w', rfl, k1, ⟨k2, k3, .inr ⟨_, o', rfl, k5, k4, by rw [hy]; rfl⟩⟩⟩
    · obtain ⟨h', h2, h3⟩ := ob_eq h1
      cases h3
      obtain ⟨y, hy, _, _, e⟩ := conc_so hx
      cases e
      obtain ⟨w', k1, k2, k3, o', k4, k5⟩ := wr_run (P := P) hw hy (frz_none hzb) h2 hu
      exact .inr ⟨_, w', rfl, k1, ⟨k2, k3, .inr ⟨_, o', rfl, k5, k4, by rw [hy]; rfl⟩⟩⟩
    · cases h1
theorem Wrote.refl (hw : WR W B zf ε h nx w) (b : Option Pth) : Wrote W B zf ε h nx w h b w := ⟨hw, Below.refl B w, .inl rfl⟩
include hf in
theorem copy_sound (hw : WR W B zf ε h nx w) {rs : Operand → Bx} {e : E} {f : F} {ρ : Operand → Value} (hr : Opd ε rs e f ρ) {ts : Array TypeId} {ty : TypeId} {as : Array Operand} {g : E → F → H → Option HV} {v : HV}
    (hc : cCopy W ts (bxs rs as.toList) = .s g) (hv : g e f h = some v) :
    frzO zf v.b = true → ∃ z w', (Builtin.copy_ ts ty (as.map ρ)).run P w = .ok z w' ∧ conc ε v.v = some z ∧ Wrote W B zf ε h nx w v.h v.b w' := by
  intro hzb
  obtain ⟨ts⟩ := ts
  obtain ⟨as⟩ := as
  unfold cCopy at hc
  cases ts with
  | nil => cases hc
  | cons t ts =>
    cases as with
    | nil => cases hc
    | cons o os =>
      cases os with
      | nil => cases hc
      | cons o' os =>
        simp only [bxs] at hc
        obtain ⟨q, hq⟩ : ∃ q, rs o = .mk q := by cases rs o; exact ⟨_, rfl⟩
        obtain ⟨q', hq'⟩ : ∃ q, rs o' = .mk q := by cases rs o'; exact ⟨_, rfl⟩
        rw [hq, hq'] at hc
        simp only [bx] at hc
        cases he : elemOf W t with
        | none => rw [he] at hc; cases hc
        | some el =>
          rw [he] at hc
          simp only [] at hc
          cases hk : okT W el with
          | false => rw [hk] at hc; cases hc
          | true =>
            rw [hk, bc_true] at hc; cases hc
            obtain ⟨xv, h1, h2⟩ := ob_eq hv
            obtain ⟨yv, h3, h4⟩ := ob_eq h2
            obtain ⟨m, h5, h6⟩ := ob_eq h4
            obtain ⟨n, h7, h8⟩ := ob_eq h6
            obtain ⟨new, h9, h10⟩ := ob_eq h8
            obtain ⟨r, h11, h12⟩ := ob_eq h10
            cases h12
            have hx := hr o q xv hq h1
            have hy := hr o' q' yv hq' h3
            obtain ⟨b, c, ex⟩ := lenW_sound h5 hx
            obtain ⟨b', c', ey⟩ := lenW_sound h7 hy
            obtain ⟨us, k1, k2⟩ := firsts_sound (P := P) hw h9 hy
            rw [ex] at hx
            have hu := run_und hf (elemOf_some he) w
            have hz := run_szOk hf hk w
            refine ⟨.int .i64 (.ofNat (Nat.min n m)), ?_⟩
            have hbody : ∀ w', (∃ _ : Unit, (match b with | some a => storeCells a us | none => pure () : Sem Unit).run P w = .ok () w') → (Builtin.copy_ (t :: ts).toArray ty ((o :: o' :: os).toArray.map ρ)).run P w = .ok (.int .i64 (.ofNat (Nat.min n m))) w' := by
              rintro w' ⟨_, hs⟩
              rw [ey] at k2
              simp only [Builtin.copy_, List.map_toArray, List.map_cons, ex, ey]
              cases b with
              | none => simp at hs; simp [hu, hz, Builtin.lenOf, k2, ← hs]; rfl
              | some a => simp at hs; simp [hu, hz, Builtin.lenOf, k2, hs]; rfl
            rcases wrS_sound (P := P) hw hzb h11 hx k1 with ⟨rfl, e2⟩ | ⟨a, w', rfl, k3, k4⟩
            · refine ⟨w, hbody w ⟨(), ?_⟩, rfl, ?_⟩
              · cases b <;> simp [storeCells]
              · show Wrote W B zf ε h nx w r.1 r.2 w
                rw [e2]; exact Wrote.refl hw _
            · exact ⟨w', hbody w' ⟨(), k3⟩, rfl, k4⟩
end
end Go.AM
end
section
/- Clearing; lengths as the operation. -/
namespace Go.AM
open Go.RowKit (Below)
section
variable {W : Wd} {P : Program} (hf : Fits W P) {B : Nat} {zf : H} {ε : Env} {h : H} {nx : Nat} {w : World}
theorem zeroCells_eq (z : Array Value) (n : Nat) : Builtin.zeroCells z n = ((List.replicate n z.toList).flatten).toArray := range_zero z n _ rfl
include hf in
theorem clear_sound (hw : WR W B zf ε h nx w) {rs : Operand → Bx} {e : E} {f : F} {ρ : Operand → Value} (hr : Opd ε rs e f ρ) {ts : Array TypeId} {ty : TypeId} {as : Array Operand} {g : E → F → H → Option HV} {v : HV}
    (hc : cClear W ts (bxs rs as.toList) = .s g) (hv : g e f h = some v) :
    frzO zf v.b = true → ∃ z w', (Builtin.clear_ ts ty (as.map ρ)).run P w = .ok z w' ∧ conc ε v.v = some z ∧ Wrote W B zf ε h nx w v.h v.b w' := by
  intro hzb
  obtain ⟨ts⟩ := ts
  obtain ⟨as⟩ := as
  unfold cClear at hc
  cases ts with
  | nil => cases hc
  | cons t ts =>
    cases as with
    | nil => cases hc
    | cons o os =>
      simp only [bxs] at hc
      obtain ⟨q, hq⟩ : ∃ q, rs o = .mk q := by cases rs o; exact ⟨_, rfl⟩
      rw [hq] at hc
      simp only [bx] at hc
      cases he : elemOf W t with
      | none => rw [he] at hc; cases hc
      | some el =>
        rw [he] at hc
        simp only [] at hc
        cases hzn : zeroN W el with
        | none => rw [hzn] at hc; cases hc
        | some z =>
          rw [hzn] at hc
          simp only [] at hc
          cases hk : okT W el with
          | false => rw [hk] at hc; cases hc
          | true =>
            rw [hk, bc_true] at hc; cases hc
            obtain ⟨xv, h1, h2⟩ := ob_eq hv
            obtain ⟨n, h3, h4⟩ := ob_eq h2
            obtain ⟨r, h5, h6⟩ := ob_eq h4
            cases h6
            obtain ⟨i, hi, _, hzc, hzl⟩ := zeroN_some hzn
            obtain ⟨zv, h11, h12, _⟩ := zeroC_run (ε := ε) hf hzc w
            have hx := hr o q xv hq h1
            obtain ⟨b, c, ex⟩ := lenW_sound h3 hx
            rw [ex] at hx
            have hu := run_und hf (elemOf_some he) w
            have hrep := rep_conc h12 n
            have hn : ∀ w', (∀ a, b = some a → n ≠ 0 → (storeCells a ((List.replicate n zv.cells.toList).flatten)).run P w = .ok () w') → ((b = none ∨ n = 0) → w' = w) →
                (Builtin.clear_ (t :: ts).toArray ty ((o :: os).toArray.map ρ)).run P w = .ok (.tuple #[]) w' := by
              intro w' hs hs'
              simp only [Builtin.clear_, List.map_toArray, List.map_cons, ex]
              cases b with
              | none => rw [hs' (.inl rfl)]; simp [hu]
              | some a =>
                cases n with
                | zero => rw [hs' (.inr rfl)]; simp [hu]
                | succ n =>
                  have := hs a rfl (by omega)
                  simp [hu, h11, zeroCells_eq, this]
            rcases wrS_sound (P := P) hw hzb h5 hx hrep with ⟨e1, e2⟩ | ⟨a, w', rfl, k3, k4⟩
            · refine ⟨_, w, hn w (fun a _ _ => by rw [e1]; simp [storeCells]) (fun _ => rfl), rfl, ?_⟩
              show Wrote W B zf ε h nx w r.1 r.2 w
              rw [e2]; exact Wrote.refl hw _
            · refine ⟨_, w', hn w' (fun a' e _ => by cases e; exact k3) ?_, rfl, k4⟩
              rintro (q | rfl)
              · cases q
              · simp [storeCells] at k3; exact k3.symm
end
end Go.AM
end
section
/- Appending. -/
namespace Go.AM
open Go.RowKit (Below)

theorem growBy_le (n : Nat) : ∀ (r c : Nat), c ≤ 2 * n + 768 → Builtin.growBy n r c ≤ 2 * n + 768
  | 0, c, h => h
  | r + 1, c, h => by
    unfold Builtin.growBy
    split
    · exact h
    · exact growBy_le n r _ (by omega)
theorem cap_le (n c : Nat) (h : c < n) : Builtin.nextslicecap n c ≤ 2 * n + 768 := by
  unfold Builtin.nextslicecap
  split
  · omega
  · split
    · omega
    · exact growBy_le n 4 c (by omega)
section
variable {W : Wd} {P : Program} (hf : Fits W P) {w : World}
include hf in
/-- appending: in place, or in a new block -/
theorem append_run {t u el el' : TypeId} {ts : List TypeId} {ty : TypeId} {i : TypeInfo} {zv : Value} {base : Option Addr} {l c n : Nat} {y : Value} {xs : List Value} {us : List Value}
    (he : elemOf W t = some el) (he' : elemOf W u = some el') (hi : W.inf el = some i) (hb : i.bytes ≤ 65536) (hzr : ∀ w, (zeroValue el).run P w = .ok zv w)
    (hlen : (Builtin.lenOf y).run P w = .ok n w) (hnew : (Builtin.firstCells (szOf W el) n y).run P w = .ok us.toArray w) :
    (∀ w', l + n ≤ c → (∀ a, base = some a → (storeCells (a.add (l * szOf W el)) us).run P w = .ok () w') → (base = none → w' = w) →
      (Builtin.append_ (t :: u :: ts).toArray ty (.slice base l c :: y :: xs).toArray).run P w = .ok (.slice base (l + n) c) w') ∧
    (∀ old : List Value, c < l + n → l + n ≤ 10000 → (∀ w', w'.heap = w.heap → (Builtin.firstCells (szOf W el) l (.slice base l c)).run P w' = .ok old.toArray w') →
      (∀ w', w'.heap = w.heap → (Builtin.firstCells (szOf W el) n y).run P w' = .ok us.toArray w') →
      ∃ nc, l + n ≤ nc ∧ (Builtin.append_ (t :: u :: ts).toArray ty (.slice base l c :: y :: xs).toArray).run P w =
        .ok (.slice (some ⟨w.heap.size, 0, none⟩) (l + n) nc) (w.drew.alloc (.cells (old ++ us ++ (List.replicate (nc - (l + n)) zv.cells.toList).flatten).toArray el))) := by
  have hu := run_und hf (elemOf_some he) w
  have hu' := run_und hf (elemOf_some he') w
  have hz := run_szOf hf hi w
  refine ⟨fun w' h1 h2 h3 => ?_, fun old h1 h2 h3 h4 => ?_⟩
  · simp only [Builtin.append_]
    cases base with
    | none =>
      rw [h3 rfl]
      simp [hu, hu', hz, hlen, hnew, h1]
    | some a =>
      have := h2 a rfl
      simp [hu, hu', hz, hlen, hnew, h1, this]
  · have hcap := cap_le (l + n) c h1
    have hbig : ¬ (Builtin.nextslicecap (l + n) c * i.bytes > 2 ^ 48) := by
      have : Builtin.nextslicecap (l + n) c * i.bytes ≤ (2 * (l + n) + 768) * 65536 := Nat.mul_le_mul hcap hb
      have e : (2 : Nat) ^ 48 = 281474976710656 := by decide
      omega
    have hmax : ¬ (((l + n : Nat) : Int) > IntKind.i64.max) := by
      have : IntKind.i64.max = 9223372036854775807 := by decide
      omega
    refine ⟨_, Nat.le_add_right (l + n) (w.tape w.drawn (.appendCap (l + n) c el) % (2 ^ 63 - (l + n))), ?_⟩
    have hd : w.drew.heap = w.heap := rfl
    have hnc : ¬ (l + n ≤ c) := by omega
    have hmax' : ¬ (IntKind.i64.max < (l : Int) + (n : Int)) := by omega
    have hinf : ∀ w', (typeInfo el).run P w' = .ok i w' := fun w' => run_inf hf hi w'
    have hf0 : (Question.appendCap (l + n) c el).forced = false := rfl
    have hno : ¬ ((9223372036854775807 : Int) < (l : Int) + (n : Int) ∧ i.bytes = 0) := by omega
    simp [Builtin.append_, hu, hu', hz, hlen, hnc, hinf, hbig, Question.cut, h3 _ hd, h4 _ hd, hzr, zeroCells_eq, hf0, hno, run_newRow]
end
end Go.AM
end
section
/- Appending, the machine's side. -/
namespace Go.AM
open Go.RowKit (Below)

/-- what an operation leaves that may make a block too -/
def Grew (W : Wd) (P : Program) (B : Nat) (zf : H) (ε : Env) (h : H) (nx : Nat) (w : World) (s : Sem Value) (v : HNV) : Prop :=
  ∃ z w' ε', s.run P w = .ok z w' ∧ WR W B zf ε' v.h v.nx w' ∧ Below B w w' ∧ Ev ε h nx ε' v.h v.nx ∧ conc ε' v.v = some z ∧
    ∀ q, q ≠ pth nx → v.b ≠ some q → T.get q v.h = T.get q h
section
variable {W : Wd} {P : Program} (hf : Fits W P) {B : Nat} {zf : H} {ε : Env} {h : H} {nx : Nat} {w : World}
/-- a new block with open room -/
theorem newO_sound (hw : WR W B zf ε h nx w) {k : Option Pth} {s n nc : Nat} {c : List V} {v : HNV} {cs : List Value} {el : TypeId} {zs : List Value} (hv : newO h k nx s c n = some v) (hs : 0 < s) (hc : concL ε c = some cs)
    (hlen : cs.length = n * s) (hzs : zs.length = s) (hn : n ≤ nc) :
    ∃ ε', WR W B zf ε' v.h v.nx (w.drew.alloc (.cells (cs ++ (List.replicate (nc - n) zs).flatten).toArray el)) ∧ Below B w (w.drew.alloc (.cells (cs ++ (List.replicate (nc - n) zs).flatten).toArray el)) ∧
      Ev ε h nx ε' v.h v.nx ∧ conc ε' v.v = some (.slice (some ⟨w.heap.size, 0, none⟩) n nc) ∧ v.h = T.put (pth nx) (some (.opn s c)) h ∧ v.b = k := by
  obtain ⟨_, h2⟩ := bc_some hv
  cases h2
  have hfresh := (hw.fresh nx (Nat.le_refl _)).1
  have hl : (cs ++ (List.replicate (nc - n) zs).flatten).length = nc * s := by
    rw [List.length_append, flat_size, hlen, hzs, ← Nat.add_mul]; congr 1; omega
  obtain ⟨k1, k2, k3⟩ := hw.drew.make (o := .opn s c) (k := .cells (cs ++ (List.replicate (nc - n) zs).flatten).toArray el) (nc * s) s
    ⟨cs, _, el, concL_mono (Env.upd_ext _ hfresh) _ _ hc, rfl, hl.symm, rfl, hs⟩
  refine ⟨_, k1, Below.trans (Below.drew (Below.refl B w)) k2, k3, ?_, rfl, rfl⟩
  have := conc_so_mk (ε := ε.upd (pth nx) ⟨w.drew.heap.size, nc * s, s, 0⟩) (b := pth nx) (off := 0) (n := n) (Env.upd_same _ _ _) hs (by simp; exact Nat.mul_le_mul_right _ hn)
  rw [this]
  simp only [Nat.sub_zero, Nat.mul_div_cancel _ hs]
  rfl
theorem firsts_length {s n : Nat} {x : V} {vs : List V} (h1 : firsts s h x n = some vs) : vs.length = n * s := by
  have rd : ∀ {b off m us}, rdN h b off m = some us → us.length = m := by
    intro b off m us hr
    obtain ⟨o, ho, h2⟩ := ob_eq hr
    obtain ⟨c, hc, h3⟩ := ob_eq h2
    obtain ⟨h6, rfl⟩ := ltake_some _ _ _ h3
    simp; omega
  unfold firsts at h1
  split at h1
  · exact rd h1
  · exact rd h1
  · obtain ⟨h2, h3⟩ := bc_some h1
    have e := Nat.eq_of_beq_eq_true h2
    subst e; cases h3; simp
  · obtain ⟨h2, h3⟩ := bc_some h1
    have e := Nat.eq_of_beq_eq_true h2
    subst e; cases h3; simp
  · cases h1
end
end Go.AM
end
section
/- Appending: all cases. -/
namespace Go.AM
open Go.RowKit (Below)
theorem ltake_all : ∀ l : List V, ltake l.length l = some l
  | [] => rfl
  | x :: xs => by
    show ob (ltake xs.length xs) (fun r => some (x :: r)) = _
    rw [ltake_all xs]; rfl
theorem zeroC_all {W : Wd} {P : Program} (hf : Fits W P) (ε : Env) {t : TypeId} {z : List V} (h : zeroC W t = some z) :
    ∃ zv, (∀ w, (zeroValue t).run P w = .ok zv w) ∧ concL ε z = some zv.cells.toList := by
  obtain ⟨zv, h1, h2, _⟩ := zeroC_run (ε := ε) hf h default
  refine ⟨zv, fun w => ?_, h2⟩
  obtain ⟨i, hi, h3⟩ := ob_eq h
  obtain ⟨zz, hz, _⟩ := ob_eq h3
  have := hf.types t i hi
  have e : ∀ w, (zeroValue t).run P w = .ok zz w := fun w => by simp [zeroValue, typeInfo, this, hz]
  rw [e] at h1
  cases h1
  exact e w
section
variable {W : Wd} {P : Program} (hf : Fits W P) {B : Nat} {zf : H} {ε : Env} {h : H} {nx : Nat} {w : World}
include hf in
theorem app_sound (hw : WR W B zf ε h nx w) {t u el el' : TypeId} {ts : List TypeId} {ty : TypeId} {zt : List V} {n : Nat} {xv yv : V} {x y : Value} {xs : List Value} {new : List V} {v : HNV}
    (he : elemOf W t = some el) (he' : elemOf W u = some el') (hzn : zeroN W el = some zt) (hs : 0 < szOf W el)
    (hx : conc ε xv = some x) (hy : conc ε yv = some y) (hl : lenW h yv = some n) (hn : firsts (szOf W el) h yv n = some new) (hv : app (szOf W el) xv n new h nx = some v) (hzb : frzO zf v.b = true) :
    Grew W P B zf ε h nx w (Builtin.append_ (t :: u :: ts).toArray ty (x :: y :: xs).toArray) v := by
  obtain ⟨i, hi, hb, hzc, hzl⟩ := zeroN_some hzn
  obtain ⟨zv, hzr, h12⟩ := zeroC_all hf ε hzc
  have hzs : zv.cells.toList.length = szOf W el := by rw [← hzl]; exact concL_length h12
  obtain ⟨us, hus, hnew⟩ := firsts_sound (P := P) hw hn hy
  have hul : us.length = n * szOf W el := by rw [concL_length hus, firsts_length hn]
  obtain ⟨yb, yc, ey⟩ := lenW_sound hl hy
  have hlen : (Builtin.lenOf y).run P w = .ok n w := by rw [ey]; rfl
  have hfirst : ∀ w', w'.heap = w.heap → (Builtin.firstCells (szOf W el) n y).run P w' = .ok us.toArray w' := by
    intro w' e
    have hw' : WR W B zf ε h nx w' := ⟨fun b x o h1 h2 => by rw [e]; exact hw.blk b x o h1 h2, hw.inj, hw.fresh, by rw [e]; exact hw.base⟩
    obtain ⟨us', h1, h2⟩ := firsts_sound (P := P) hw' hn hy
    rw [hus] at h1; cases h1
    exact h2
  have rest : ∀ (base : Option Addr) (l c : Nat) (old : List V) (os : List Value) (h1 : H) (k : Option Pth), x = .slice base l c → c < l + n → l + n ≤ 10000 → WR W B zf ε h1 nx w → concL ε old = some os → os.length = l * szOf W el →
      (∀ w', w'.heap = w.heap → (Builtin.firstCells (szOf W el) l (.slice base l c)).run P w' = .ok os.toArray w') →
      newO h1 k nx (szOf W el) (old ++ new) (l + n) = some v → Ev ε h nx ε h1 nx → (∀ q, k ≠ some q → T.get q h1 = T.get q h) →
      Grew W P B zf ε h nx w (Builtin.append_ (t :: u :: ts).toArray ty (x :: y :: xs).toArray) v := by
    intro base l c old os h1 k ex hc hbig hw1 hold hol hfo hno hev hput
    subst ex
    obtain ⟨nc, hnc, hrun⟩ := (append_run hf (t := t) (u := u) (ts := ts) (ty := ty) (base := base) (l := l) (c := c) (xs := xs) he he' hi hb hzr hlen hnew).2 os hc hbig hfo hfirst
    obtain ⟨ε', k1, k2, k3, k4, k5, k6⟩ := newO_sound (W := W) (el := el) hw1 (cs := os ++ us) (zs := zv.cells.toList) hno hs (concL_append hold hus) (by rw [List.length_append, hol, hul, Nat.add_mul]) hzs hnc
    refine ⟨_, _, ε', hrun, k1, k2, hev.trans k3, k4, fun q hq hb' => ?_⟩
    rw [k5, T.get_put_ne _ _ (fun e => hq e.symm)]
    rw [k6] at hb'
    exact hput q hb'
  have stay : ∀ (base : Option Addr) (l c : Nat), x = .slice base l c → l + n ≤ c → us = [] → v = ⟨h, none, nx, xv⟩ → Grew W P B zf ε h nx w (Builtin.append_ (t :: u :: ts).toArray ty (x :: y :: xs).toArray) v := by
    intro base l c ex hc hnil ev
    subst ev; subst hnil
    have hn0 : n = 0 := by
      rcases Nat.eq_zero_or_pos n with h0 | h0
      · exact h0
      · have := Nat.mul_pos h0 hs
        rw [← hul] at this; simp at this
    subst hn0
    subst ex
    exact ⟨_, w, ε, (append_run hf (t := t) (u := u) (ts := ts) (ty := ty) (base := base) (l := l) (c := c) (xs := xs) he he' hi hb hzr hlen hnew).1 w hc (fun a _ => by simp [storeCells]) (fun _ => rfl),
      hw, Below.refl B w, Ev.refl ε h nx, hx, fun _ _ _ => rfl⟩
  have into : ∀ (b : Pth) (p : Ent) (off l c : Nat) (h' : H) (r : V), ε b = some p → T.get b zf = none → x = .slice (some (p.ad off)) l c → l + n ≤ c → wr h b (off + l * szOf W el) new = some h' → v = ⟨h', some b, nx, r⟩ →
      conc ε r = some (.slice (some (p.ad off)) (l + n) c) → Grew W P B zf ε h nx w (Builtin.append_ (t :: u :: ts).toArray ty (x :: y :: xs).toArray) v := by
    intro b p off l c h' r hp hzb' ex hc hwr ev hr
    subst ev; subst ex
    obtain ⟨w', k1, k2, k3, o', k4, k5⟩ := wr_run (P := P) hw hp hzb' hwr hus
    refine ⟨_, w', ε, (append_run hf (t := t) (u := u) (ts := ts) (ty := ty) (base := some (p.ad off)) (l := l) (c := c) (xs := xs) he he' hi hb hzr hlen hnew).1 w' hc (fun a e => by cases e; rw [Ent.ad_add]; exact k1) (fun e => by cases e),
      k2, k3, ⟨Ext.refl ε, Nat.le_refl _, fun m _ hm => ⟨hm, ?_⟩⟩, hr, fun q _ hq => ?_⟩
    · show T.get (pth m) h' = _
      rw [k4, T.get_put_ne _ _ (fun e => by subst e; rw [hp] at hm; cases hm)]
    · show T.get q h' = _
      rw [k4, T.get_put_ne _ _ (fun e => hq (by rw [e]))]
  have hfit : ∀ {p : Ent} {off k : Nat}, p.esz = szOf W el → off + k * p.esz ≤ p.csz → k ≤ (p.csz - off) / p.esz := by
    intro p off k e hle
    rw [Nat.le_div_iff_mul_le (by rw [e]; exact hs)]; omega
  unfold app at hv
  cases hn0 : Nat.beq n 0 with
  | true =>
    rw [hn0, bc_true] at hv
    obtain ⟨hok, hv⟩ := bc_some hv
    have hn0 := Nat.eq_of_beq_eq_true hn0
    subst hn0
    have hnil : us = [] := by
      have : us.length = 0 := by rw [hul]; simp
      exact List.eq_nil_of_length_eq_zero this
    cases hv
    unfold lenOk at hok
    split at hok
    · obtain ⟨p, hp, rfl⟩ := conc_sl hx; exact stay _ _ _ rfl (by simpa using Nat.le_of_ble_eq_true hok) hnil rfl
    · obtain ⟨p, hp, h0, hle, rfl⟩ := conc_so hx
      exact stay _ _ _ rfl (by rw [Nat.add_zero, Nat.le_div_iff_mul_le h0]; omega) hnil rfl
    · rw [conc] at hx
      obtain ⟨p, hp, e⟩ := Option.map_eq_some_iff.1 hx
      subst e
      exact stay _ _ _ rfl (by omega) hnil rfl
    · cases hx; exact stay _ _ _ rfl (by omega) hnil rfl
    · cases hok
  | false =>
    rw [hn0, bc_false] at hv
    have hn0 := Nat.ne_of_beq_eq_false hn0
    split at hv
    · cases hx
      obtain ⟨hbig, _⟩ := bc_some hv
      have hbig := Nat.le_of_ble_eq_true hbig
      exact rest none 0 0 [] [] h none rfl (by omega) (by omega) hw rfl (by simp) (fun w' _ => by simp [Builtin.firstCells]) (by simpa using hv) (Ev.refl ε h nx) (fun _ _ => rfl)
    · rename_i b off l c
      obtain ⟨p, hp, ex⟩ := conc_sl hx
      cases hfitb : Nat.ble (Nat.add l n) c with
      | true =>
        rw [hfitb, bc_true] at hv
        obtain ⟨h', hwr, hv⟩ := ob_eq hv
        cases hv
        exact into b p off l c h' _ hp (frz_none hzb) ex (Nat.le_of_ble_eq_true hfitb) hwr rfl (conc_sl_mk _ _ _ hp)
      | false =>
        rw [hfitb, bc_false] at hv
        obtain ⟨old, hrd, hv⟩ := ob_eq hv
        obtain ⟨hbig, _⟩ := bc_some hv
        have hbig : l + n ≤ 10000 := Nat.le_of_ble_eq_true hbig
        have hlt : c < l + n := by
          have : ¬ (l + n ≤ c) := fun q => by
            have := Nat.ble_eq_true_of_le q
            rw [show Nat.ble (Nat.add l n) c = Nat.ble (l + n) c from rfl, this] at hfitb; cases hfitb
          omega
        obtain ⟨os, ho1, ho2, _⟩ := rdN_run (P := P) hw hp hrd
        refine rest _ l c old os h none ex hlt hbig hw ho1 ho2 (fun w' e => ?_) hv (Ev.refl ε h nx) (fun _ _ => rfl)
        have hw' : WR W B zf ε h nx w' := ⟨fun b x o h1 h2 => by rw [e]; exact hw.blk b x o h1 h2, hw.inj, hw.fresh, by rw [e]; exact hw.base⟩
        obtain ⟨os', g1, _, g3⟩ := rdN_run (P := P) hw' hp hrd
        rw [ho1] at g1; cases g1
        exact g3
    · rename_i b off l
      obtain ⟨p, hp, h0, hle, ex⟩ := conc_so hx
      obtain ⟨o, ho, hv⟩ := ob_eq hv
      split at hv
      · rename_i e c
        obtain ⟨hes, hv⟩ := bc_some hv
        have hes := Nat.eq_of_beq_eq_true hes
        obtain ⟨k, g1, ⟨l', r', el'', g2, rfl, g4, g5, g6⟩, g7⟩ := hw.blk b p _ hp ho
        have hpe : p.esz = szOf W el := g5.trans hes
        have hcl := concL_length g2
        cases hfb : Nat.ble (Nat.add off (Nat.mul (Nat.add l n) (szOf W el))) c.length with
        | true =>
          rw [hfb, bc_true] at hv
          obtain ⟨h', hwr, hv⟩ := ob_eq hv
          cases hv
          have hfb : off + (l + n) * szOf W el ≤ c.length := Nat.le_of_ble_eq_true hfb
          have hcs : off + (l + n) * p.esz ≤ p.csz := by rw [hpe, g4, List.length_append, hcl]; omega
          exact into b p off l _ h' _ hp (frz_none hzb) ex (hfit hpe hcs) hwr rfl (conc_so_mk hp h0 hcs)
        | false =>
          rw [hfb, bc_false] at hv
          obtain ⟨h8, hv3⟩ := bc_some hv
          obtain ⟨h9, hv4⟩ := bc_some hv3
          clear hv hv3
          have h8 : off = 0 := Nat.eq_of_beq_eq_true h8
          have h9 : l * szOf W el = c.length := Nat.eq_of_beq_eq_true h9
          subst h8
          obtain ⟨hsc, hv5⟩ := bc_some hv4
          obtain ⟨hbig, hv6⟩ := bc_some hv5
          have hbig : l + n ≤ 10000 := Nat.le_of_ble_eq_true hbig
          have hgone : WR W B zf ε (T.put b none h) nx w := by
            refine ⟨fun q y o hy hq => ?_, fun q q' y y' hy hy' hq hq' hzq => ?_, fun m hm => ?_, hw.base⟩
            · by_cases e : q = b
              · subst e; rw [T.get_put_same] at hq; cases hq
              · rw [T.get_put_ne _ _ (fun z => e z.symm)] at hq; exact hw.blk q y o hy hq
            · have g : ∀ q, (T.get q (T.put b none h)).isSome = true → (T.get q h).isSome = true := fun q hq' => by
                by_cases e : q = b
                · subst e; rw [T.get_put_same] at hq'; cases hq'
                · rwa [T.get_put_ne _ _ (fun z => e z.symm)] at hq'
              exact hw.inj q q' y y' hy hy' (g q hq) (g q' hq') hzq
            · obtain ⟨f1, f2⟩ := hw.fresh m hm
              refine ⟨f1, ?_⟩
              rw [T.get_put_ne _ _ (fun e => by subst e; rw [f1] at hp; cases hp)]; exact f2
          have hevg : Ev ε h nx ε (T.put b none h) nx := ⟨Ext.refl ε, Nat.le_refl _, fun m _ hm => ⟨hm, by rw [T.get_put_ne _ _ (fun e => by subst e; rw [hm] at hp; cases hp)]⟩⟩
          have hputg : ∀ q, some b ≠ some q → T.get q (T.put b none h) = T.get q h := fun q hq => T.get_put_ne _ _ (fun e => hq (by rw [e]))
          by_cases hcap : l + n ≤ (p.csz - 0) / p.esz
          · have hcap2 : (l + n) * p.esz ≤ p.csz := by
              rw [Nat.le_div_iff_mul_le h0] at hcap; omega
            have hnl : new.length = n * szOf W el := firsts_length hn
            have hstore := run_storeCells_at P p.cb (l * szOf W el) el'' us 0 (l' ++ r').toArray w g1 (by
              rw [hpe, g4, Nat.add_mul] at hcap2; simp at hcap2 ⊢; omega) (scalar_all hsc hus)
            have e1 : (l' ++ r').toArray.toList.take (l * szOf W el + 0) ++ us ++ (l' ++ r').toArray.toList.drop (l * szOf W el + 0 + us.length) = (l' ++ us) ++ r'.drop us.length := by
              have : l * szOf W el = l'.length := by rw [hcl, h9]
              rw [this]
              simp [List.drop_append]
            rw [e1] at hstore
            have hrow := setRow_heap w p.cb _ ((l' ++ us) ++ r'.drop us.length).toArray el'' (0, 0) g1
            have hrun := (append_run hf (t := t) (u := u) (ts := ts) (ty := ty) (base := some (p.ad 0)) (l := l) (c := (p.csz - 0) / p.esz) (xs := xs) he he' hi hb hzr hlen hnew).1
              (w.setRow p.cb ((l' ++ us) ++ r'.drop us.length).toArray) hcap (fun a e => by cases e; rw [Ent.ad_add, Nat.zero_add, Ent.ad_at g7.2]; exact hstore) (fun e => by cases e)
            obtain ⟨f1, f2⟩ := hw.fresh nx (Nat.le_refl _)
            have hext := Env.upd_ext (ε := ε) (b := pth nx) p f1
            have hlt : p.cb < w.heap.size := (Array.getElem?_eq_some_iff.1 g1).1
            have hcap3 : l * szOf W el + n * szOf W el ≤ (l' ++ r').length := by
              rw [← g4]; rw [hpe, Nat.add_mul] at hcap2; exact hcap2
            cases hv6
            have hzn : T.get b zf = none := frz_none hzb
            have hne : ∀ q y o, q ≠ b → ε q = some y → T.get q h = some o → y.cb ≠ p.cb := fun q y o hq hy hqo e =>
              hq (hw.inj b q p y hp hy (by rw [ho]; rfl) (by rw [hqo]; rfl) hzn e.symm).symm
            refine ⟨_, w.setRow p.cb ((l' ++ us) ++ r'.drop us.length).toArray, ε.upd (pth nx) p, by rw [ex]; exact hrun, ?_, Below.of_turn (g7.1 hzn) rfl rfl rfl (setRow_size _ _ _) (setRow_other w p.cb _), ?_, ?_, fun q hq hb' => ?_⟩
            · refine ⟨fun q y o hy hq => ?_, fun q q' y y' hy hy' hq hq' hzq e => ?_, fun m hm => ?_, by rw [setRow_size]; exact hw.base⟩
              · by_cases e : q = pth nx
                · subst e
                  rw [T.get_put_same] at hq; cases hq
                  rw [Env.upd_same] at hy; cases hy
                  refine ⟨_, hrow, ⟨l' ++ us, r'.drop us.length, el'', concL_mono hext _ _ (concL_append g2 hus), rfl, ?_, hpe, hs⟩, fun _ => g7.1 hzn, g7.2⟩
                  rw [g4]
                  simp only [List.length_append, List.length_drop] at hcap3 ⊢
                  rw [hcl, h9.symm] at hcap3
                  rw [hul]; omega
                · rw [T.get_put_ne _ _ (fun z => e z.symm)] at hq
                  rw [Env.upd_ne _ _ e] at hy
                  obtain ⟨k', j1, j2, j3⟩ := hgone.blk q y o hy hq
                  have hqb : q ≠ b := fun z => by subst z; rw [T.get_put_same] at hq; cases hq
                  rw [hputg q (fun z => hqb (Option.some.inj z).symm)] at hq
                  exact ⟨k', by rw [setRow_other _ _ _ _ (hne q y o hqb hy hq)]; exact j1, j2.mono hext, j3⟩
              · have hold : ∀ q y, q ≠ pth nx → (T.get q (T.put (pth nx) (some (O.opn (szOf W el) (c ++ new))) (T.put b none h))).isSome = true → (ε.upd (pth nx) p) q = some y → y.cb ≠ p.cb := by
                  intro q y hq hqs hy
                  rw [T.get_put_ne _ _ (fun z => hq z.symm)] at hqs
                  rw [Env.upd_ne _ _ hq] at hy
                  have hqb : q ≠ b := fun z => by subst z; rw [T.get_put_same] at hqs; cases hqs
                  rw [hputg q (fun z => hqb (Option.some.inj z).symm)] at hqs
                  obtain ⟨o, hqo⟩ := Option.isSome_iff_exists.1 hqs
                  exact hne q y o hqb hy hqo
                by_cases e1 : q = pth nx
                · by_cases e2 : q' = pth nx
                  · rw [e1, e2]
                  · have := hold q' y' e2 hq' hy'
                    rw [e1, Env.upd_same] at hy; cases hy
                    exact absurd e.symm this
                · by_cases e2 : q' = pth nx
                  · have := hold q y e1 hq hy
                    rw [e2, Env.upd_same] at hy'; cases hy'
                    exact absurd e this
                  · rw [Env.upd_ne _ _ e1] at hy
                    rw [Env.upd_ne _ _ e2] at hy'
                    rw [T.get_put_ne _ _ (fun z => e1 z.symm)] at hq
                    rw [T.get_put_ne _ _ (fun z => e2 z.symm)] at hq'
                    exact hgone.inj q q' y y' hy hy' hq hq' hzq e
              · have hm' : nx + 1 ≤ m := hm
                have : pth m ≠ pth nx := fun e => by have := pth_inj e; omega
                rw [Env.upd_ne _ _ this, T.get_put_ne _ _ (fun z => this z.symm)]
                exact hgone.fresh m (by omega)
            · refine ⟨hext, Nat.le_succ _, fun m hm hnone => ?_⟩
              have : pth m ≠ pth nx := fun e => by have := pth_inj e; omega
              rw [Env.upd_ne _ _ this, T.get_put_ne _ _ (fun z => this z.symm)]
              exact ⟨hnone, (hevg.pend m hm hnone).2⟩
            · have := conc_so_mk (ε := ε.upd (pth nx) p) (b := pth nx) (off := 0) (n := l + n) (Env.upd_same _ _ _) h0 (by rw [Nat.zero_add]; exact hcap2)
              exact this
            · rw [T.get_put_ne _ _ (fun e => hq e.symm)]
              exact hputg q hb'
          · refine rest _ l _ c l' _ (some b) ex (by omega) hbig hgone g2 (by rw [hcl, h9]) (fun w' e => ?_) hv5 hevg hputg
            have hw' : WR W B zf ε h nx w' := ⟨fun b x o h1 h2 => by rw [e]; exact hw.blk b x o h1 h2, hw.inj, hw.fresh, by rw [e]; exact hw.base⟩
            have hrd : rdN h b 0 (l * szOf W el) = some c := by
              unfold rdN; rw [ho, ob_some]; simp only [cellsOf, ob_some]; rw [h9, ldrop_eq, List.drop_zero]; exact ltake_all c
            obtain ⟨os', q1, _, q3⟩ := rdN_run (P := P) hw' hp hrd
            rw [g2] at q1; cases q1
            exact q3
      · cases hv
    · cases hv
end
end Go.AM
end
section
/- The operations as a whole: what does not look at the memory. -/

namespace Go.AM
open Go.RowKit (Below)

theorem runV {P : Program} {s : Sem Value} {w w' : World} {z : Value} (h : s.run P w = .ok z w') : (do pure (Next.value (← s)) : Sem Next).run P w = .ok (.value z) w' := by simp [h]
theorem runU {P : Program} {s : Sem Unit} {w w' : World} (h : s.run P w = .ok () w') : (do s; pure Next.skip : Sem Next).run P w = .ok .skip w' := by simp [h]
/-- what an operation hands on -/
def Out (z : Value) (n : Next) : Prop := n = .value z ∨ (n = .skip ∧ z = Go.undef)

theorem opd_at {ε : Env} {rs : Operand → Bx} {e : E} {f : F} {ρ : Operand → Value} (hr : Opd ε rs e f ρ) (o : Operand) : ∃ q, rs o = .mk q ∧ ∀ u, q e f = some u → conc ε u = some (ρ o) := by
  cases h : rs o with | mk q => exact ⟨q, rfl, fun u hu => hr o q u h hu⟩

theorem exec_builtin {o : Oper} {c : Call} {b : Builtin} (hop : o.op = .call c) (hcal : c.callee = .builtin b) (ρ : Operand → Value) :
    ∃ K, execOp ρ o = Go.builtin b c.argTypes o.type K (c.args.map ρ) := by
  refine ⟨c.args.map (fun | .const _ => true | _ => false), ?_⟩
  simp only [execOp, hop, resolve, hcal]
  rfl
theorem bxs_cons {rs : Operand → Bx} : ∀ {l : List Operand} {x : Bx} {xs : List Bx}, bxs rs l = x :: xs → ∃ a as, l = a :: as ∧ rs a = x ∧ bxs rs as = xs
  | [], _, _, h => by cases h
  | a :: as, _, _, h => by cases h; exact ⟨a, as, rfl, rfl, rfl⟩

/-! kinds -/
def kd (c : CO) : Nat := match c with
  | .q _ => 0 | .m _ => 1 | .a _ => 2 | .s _ => 3 | .ap _ => 4 | .call _ => 5 | .dfr _ => 6 | .nx _ => 7 | .rc => 8 | .bad => 9
/-- only kinds of a list, or none at all -/
def Kin (l : List Nat) (c : CO) : Prop := kd c = 9 ∨ kd c ∈ l
theorem Kin.bx {l : List Nat} (b : Bx) {g : Q → CO} (h : ∀ q, Kin l (g q)) : Kin l (bx b g) := by cases b with | mk q => exact h q
theorem Kin.bc {l : List Nat} (b : Bool) {x y : CO} (h : Kin l x) (k : Kin l y) : Kin l (bc b x y) := by cases b <;> assumption
theorem Kin.bad {l : List Nat} : Kin l .bad := .inl rfl
def kinOf (op : Op) : List Nat := match op with
  | .move _ | .assign _ | .pick .. | .build .. | .nilCheck _ | .binOp .. | .unOp .. | .convert .. | .makeInterface .. | .makeFunc .. | .fieldAddr .. | .field .. | .indexAddr .. | .index .. | .extract .. => [0]
  | .alloc _ | .box .. | .buildSlice .. | .makeMap .. | .makeSlice .. => [2]
  | .load .. | .lookup .. | .entry _ => [1]
  | .slice .. => [0, 1]
  | .store .. | .mapUpdate .. | .insert .. => [3]
  | .range .. => [4]
  | .next .. => [7]
  | .defer _ => [6]
  | .call c => match c.callee with
    | .value _ => [5]
    | .invoke .. => []
    | .builtin b => match b with
      | .len => [0, 1]
      | .max | .min => [0]
      | .append => [4]
      | .copy | .clear => [3]
      | .recover => [8]
      | _ => []
  | _ => []
theorem cOp_kin (W : Wd) (rs : Operand → Bx) (op : Op) : Kin (kinOf op) (cOp W rs op) := by
  have q1 : ∀ {g : E → F → Option V}, Kin [0] (.q g) := .inr (by simp [kd])
  have q2 : ∀ {g : E → F → Option V}, Kin [0, 1] (.q g) := .inr (by simp [kd])
  have m1 : ∀ {g : E → F → H → Option V}, Kin [1] (.m g) := .inr (by simp [kd])
  have m2 : ∀ {g : E → F → H → Option V}, Kin [0, 1] (.m g) := .inr (by simp [kd])
  have a1 : ∀ {g : E → F → Pth → Option AV}, Kin [2] (.a g) := .inr (by simp [kd])
  have s1 : ∀ {g : E → F → H → Option HV}, Kin [3] (.s g) := .inr (by simp [kd])
  have p1 : ∀ {g : E → F → H → Nat → Option HNV}, Kin [4] (.ap g) := .inr (by simp [kd])
  have c1 : ∀ {g : E → F → Option Tg}, Kin [5] (.call g) := .inr (by simp [kd])
  have d1 : ∀ {g : E → F → Option D}, Kin [6] (.dfr g) := .inr (by simp [kd])
  have n1 : ∀ {g : E → F → Option V}, Kin [7] (.nx g) := .inr (by simp [kd])
  have r1 : Kin [8] .rc := .inr (by simp [kd])
  cases op with
  | call c =>
    cases hc : c.callee with
    | value x => simp only [cOp, cCall, hc, kinOf]; apply Kin.bx; intro _; exact c1
    | invoke _ _ => simp only [cOp, cCall, hc, kinOf]; exact Kin.bad
    | builtin b =>
      simp only [cOp, cCall, hc, kinOf]
      cases b <;> simp only [cLen, cMM, cAppend, cCopy, cClear]
      all_goals repeat' first
        | exact Kin.bad
        | exact q1
        | exact q2
        | exact m2
        | exact p1
        | exact s1
        | exact r1
        | (apply Kin.bx; intro _)
        | apply Kin.bc
        | split
  | defer c =>
    cases hc : c.callee <;> simp only [cOp, cDefer, hc, kinOf]
    · apply Kin.bx; intro _; exact d1
    · exact Kin.bad
    · exact Kin.bad
  | makeFunc fn fst cap => cases fn <;> first | exact q1 | exact Kin.bad
  | makeMap t r => cases r <;> first | exact a1 | exact Kin.bad
  | next x s => cases s <;> simp only [cOp, kinOf] <;> repeat' first | exact Kin.bad | exact n1 | (apply Kin.bx; intro _)
  | _ =>
    simp only [cOp, kinOf, cPick, cAlloc, cBox, cBuild, cBuildSlice, cLoad, cStore, cBin, cUn, cConvert, cMakeSlice, cSlice, cFieldAddr, cField, cIndexAddr, cIndex, cLookup, cMapSet, cRange, cEntry]
    repeat' first
      | exact Kin.bad
      | exact q1
      | exact q2
      | exact m1
      | exact m2
      | exact a1
      | exact s1
      | exact p1
      | (apply Kin.bx; intro _)
      | apply Kin.bc
      | split

section
variable {W : Wd} {P : Program} (hf : Fits W P) (hdep : ∃ d, P.depth = d + 2) {ε : Env}
include hf hdep in
theorem op_q {rs : Operand → Bx} {e : E} {f : F} {ρ : Operand → Value} (hr : Opd ε rs e f ρ) {o : Oper} {g : E → F → Option V} {v : V}
    (hc : cOp W rs o.op = .q g) (hv : g e f = some v) (w : World) : ∃ z, (execOp ρ o).run P w = .ok (.value z) w ∧ conc ε v = some z := by
  have fin : ∀ {s : Sem Value} {z : Value}, s.run P w = .ok z w → conc ε v = some z → ∃ z, (do pure (Next.value (← s)) : Sem Next).run P w = .ok (.value z) w ∧ conc ε v = some z :=
    fun h k => ⟨_, runV h, k⟩
  cases hop : o.op with
  | move x =>
    rw [hop] at hc
    obtain ⟨q, hq, ha⟩ := opd_at hr x
    simp only [cOp, hq, bx] at hc; cases hc
    exact ⟨_, by simp only [execOp, hop, Sem.run_pure], ha v hv⟩
  | assign x =>
    rw [hop] at hc
    obtain ⟨q, hq, ha⟩ := opd_at hr x
    simp only [cOp, hq, bx] at hc; cases hc
    exact ⟨_, by simp only [execOp, hop, Sem.run_pure], ha v hv⟩
  | pick c a b =>
    rw [hop] at hc
    obtain ⟨q1, h1, k1⟩ := opd_at hr c
    obtain ⟨q2, h2, k2⟩ := opd_at hr a
    obtain ⟨q3, h3, k3⟩ := opd_at hr b
    simp only [cOp, h1, h2, h3] at hc
    obtain ⟨r, hr1, hr2⟩ := pick_sound (P := P) hc hv k1 k2 k3 w
    refine ⟨r, ?_, hr2⟩
    simp only [execOp, hop]
    simp only [Sem.run_bind, Sem.run_pure] at hr1 ⊢
    cases ha : (asBool (ρ c)).run P w with
    | ok b' w' => rw [ha] at hr1; simp only [Result.andThen_ok] at hr1 ⊢; cases hr1; rfl
    | halt h' w' => rw [ha] at hr1; simp [Result.andThen] at hr1
  | build t ps =>
    rw [hop] at hc
    simp only [cOp] at hc
    obtain ⟨z, h1, h2⟩ := build_sound (P := P) hf hr hc hv
    simp only [execOp, hop]
    exact fin h1 h2
  | nilCheck x =>
    rw [hop] at hc
    obtain ⟨q, hq, ha⟩ := opd_at hr x
    simp only [cOp, hq, bx] at hc; cases hc
    obtain ⟨u, hu, h3⟩ := ob_eq hv
    obtain ⟨hn, h4⟩ := bc_some h3
    cases h4
    refine ⟨ρ x, ?_, ha v hu⟩
    simp only [execOp, hop]
    rcases nilOk_conc hn (ha v hu) with ⟨a, e⟩ | ⟨n, a, b, e⟩ | ⟨r, e⟩ | ⟨t, y, e⟩ <;> rw [e] <;> rfl
  | binOp op t x y yt =>
    rw [hop] at hc
    obtain ⟨q1, h1, k1⟩ := opd_at hr x
    obtain ⟨q2, h2, k2⟩ := opd_at hr y
    simp only [cOp, cBin, h1, h2, bx] at hc; cases hc
    obtain ⟨a, ha, h3⟩ := ob_eq hv
    obtain ⟨b, hb, h4⟩ := ob_eq h3
    obtain ⟨z, h5, h6⟩ := bin_sound (P := P) hf (ox := x) (oy := y) hdep h4 (k1 a ha) (k2 b hb) w
    simp only [execOp, hop]
    exact fin h5 h6
  | unOp op t x =>
    rw [hop] at hc
    obtain ⟨q, hq, ha⟩ := opd_at hr x
    simp only [cOp, hq] at hc
    obtain ⟨z, h1, h2⟩ := un_sound (P := P) hc hv ha w
    simp only [execOp, hop]
    exact fin h1 h2
  | convert s d x =>
    rw [hop] at hc
    obtain ⟨q, hq, ha⟩ := opd_at hr x
    simp only [cOp, hq] at hc
    obtain ⟨z, h1, h2⟩ := convert_sound (P := P) hf hc hv ha w
    simp only [execOp, hop]
    exact fin h1 h2
  | makeInterface t x =>
    rw [hop] at hc
    obtain ⟨q, hq, ha⟩ := opd_at hr x
    simp only [cOp, hq, bx] at hc
    obtain ⟨z, h1, h2⟩ := makeInterface_sound (P := P) hf hc hv ha w
    simp only [execOp, hop]
    exact fin h1 h2
  | makeFunc fn fst cap =>
    rw [hop] at hc
    cases fn with
    | func n =>
      simp only [cOp] at hc; cases hc
      obtain ⟨us, h1, h2⟩ := ob_eq hv
      obtain ⟨vs, h3, h4⟩ := ob_eq h2
      cases h4
      have e1 := evs_sound hr _ _ h1
      have e2 := evs_sound hr _ _ h3
      simp only [execOp, hop]
      refine fin (z := .func (.func n) (fst.map ρ) (cap.map ρ)) rfl ?_
      rw [conc, e1, e2]
      simp only [← Array.toList_map, Array.toArray_toList]
    | _ => cases hc
  | slice t x l hi m =>
    rw [hop] at hc
    obtain ⟨q, hq, ha⟩ := opd_at hr x
    simp only [cOp, hq] at hc
    obtain ⟨z, h1, h2⟩ := sliceArr_sound (P := P) (w := w) hf hc hv ha (OQ.map hr l) (OQ.map hr hi) (OQ.map hr m)
    simp only [execOp, hop]
    exact fin h1 h2
  | fieldAddr s x i =>
    rw [hop] at hc
    obtain ⟨q, hq, ha⟩ := opd_at hr x
    simp only [cOp, hq] at hc
    obtain ⟨z, h1, h2⟩ := fieldAt_sound (P := P) hf hc hv ha w
    simp only [execOp, hop]
    exact fin h1 h2
  | field t x i =>
    rw [hop] at hc
    obtain ⟨q, hq, ha⟩ := opd_at hr x
    simp only [cOp, hq] at hc
    obtain ⟨z, h1, h2⟩ := field_sound (P := P) hf hc hv ha w
    simp only [execOp, hop]
    exact fin h1 h2
  | indexAddr t x i =>
    rw [hop] at hc
    obtain ⟨q, hq, ha⟩ := opd_at hr x
    obtain ⟨q2, hq2, hb⟩ := opd_at hr i
    simp only [cOp, hq, hq2] at hc
    obtain ⟨z, h1, h2⟩ := indexAt_sound (P := P) hf hc hv ha hb w
    simp only [execOp, hop]
    exact fin h1 h2
  | index t x i =>
    rw [hop] at hc
    obtain ⟨q, hq, ha⟩ := opd_at hr x
    obtain ⟨q2, hq2, hb⟩ := opd_at hr i
    simp only [cOp, hq, hq2] at hc
    obtain ⟨z, h1, h2⟩ := index_sound (P := P) hf hc hv ha hb w
    simp only [execOp, hop]
    exact fin h1 h2
  | extract x i =>
    rw [hop] at hc
    obtain ⟨q, hq, ha⟩ := opd_at hr x
    simp only [cOp, hq, bx] at hc; cases hc
    obtain ⟨z, h1, h2⟩ := extract_sound (P := P) hv ha w
    simp only [execOp, hop]
    exact fin h1 h2
  | call c =>
    have hk := cOp_kin W rs o.op
    rw [hc, hop] at hk
    cases hcal : c.callee with
    | value x => simp [Kin, kd, kinOf, hcal] at hk
    | invoke _ _ => simp [Kin, kd, kinOf, hcal] at hk
    | builtin b =>
      rw [hop] at hc
      simp only [cOp, cCall, hcal] at hc
      obtain ⟨K, hex⟩ := exec_builtin hop hcal ρ
      rw [hex]
      cases b <;> simp only [] at hc <;> try (simp [Kin, kd, kinOf, hcal] at hk; done)
      case len =>
        unfold cLen at hc
        split at hc
        · rename_i t ts x xs h1 h2
          cases x with
          | mk q =>
            obtain ⟨a, as, h3, h4, h5⟩ := bxs_cons h2
            simp only [bx] at hc
            split at hc
            · rename_i n el hu
              cases hc
              obtain ⟨u, hu1, h4⟩ := ob_eq hv
              cases h4
              refine fin (z := goInt n) ?_ rfl
              have e1 : c.argTypes = (t :: ts).toArray := by rw [← h1]
              have e2 : c.args = (a :: as).toArray := by rw [← h3]
              rw [e1, e2]
              simp [Builtin.len_, run_und hf hu w]
            · cases hc
            · cases hc
        · cases hc
      case max => 
        obtain ⟨z, h1, h2⟩ := mm_sound (P := P) (w := w) (G := Builtin.max2) (max2_sound (P := P) (w := w)) hr hc hv
        refine fin (z := z) ?_ h2
        rw [← h1]
        unfold Builtin.max_
        rw [Array.toList_map]
        cases hl : c.args.toList with
        | nil => rw [hl] at h1; exact absurd h1 (by simp [stuck])
        | cons a as => rfl
      case min => 
        obtain ⟨z, h1, h2⟩ := mm_sound (P := P) (w := w) (G := Builtin.min2) (min2_sound (P := P) (w := w)) hr hc hv
        refine fin (z := z) ?_ h2
        rw [← h1]
        unfold Builtin.min_
        rw [Array.toList_map]
        cases hl : c.args.toList with
        | nil => rw [hl] at h1; exact absurd h1 (by simp [stuck])
        | cons a as => rfl
  | _ =>
    have hk := cOp_kin W rs o.op
    rw [hc, hop] at hk
    simp [Kin, kd, kinOf] at hk
end
end Go.AM
end
