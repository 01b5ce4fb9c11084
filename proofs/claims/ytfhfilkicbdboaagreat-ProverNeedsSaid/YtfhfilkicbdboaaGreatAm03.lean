/- Parts of the proof, joined: AmSnd7 AmSnd8 AmSnd9 AmSnd10 AmSnd11 AmSnd12. -/
import Derived.Test.YtfhfilkicbdboaaGreatAm02
import Derived.MapKept
import Derived.WideKeyRuns
section
/- Slicing. -/
namespace Go.AM

/-- a bound that may be missing -/
def OQ (ε : Env) (o : Option Bx) (e : E) (f : F) (x : Option Value) : Prop :=
  ∀ ov, optQ o e f = some ov → (ov = none ∧ o = none ∧ x = none) ∨ ∃ v y, ov = some v ∧ o.isSome = true ∧ x = some y ∧ conc ε v = some y
theorem OQ.map {ε : Env} {rs : Operand → Bx} {e : E} {f : F} {ρ : Operand → Value} (hr : Opd ε rs e f ρ) (o : Option Operand) : OQ ε (o.map rs) e f (o.map ρ) := by
  intro ov h
  cases o with
  | none => cases h; exact .inl ⟨rfl, rfl, rfl⟩
  | some a =>
    obtain ⟨q, hq, h1⟩ := bx_split (rs a) (fun q => ob (q e f) fun v => some (some v))
    have h2 : ob (q e f) (fun v => some (some v)) = some ov := by rw [← h, ← h1]; rfl
    obtain ⟨v, hv, h3⟩ := ob_eq h2
    cases h3
    exact .inr ⟨v, _, rfl, rfl, rfl, hr a q v hq hv⟩
/-- what a bound is -/
def Bd (d : Nat) (x : Option Value) (n : Nat) : Prop := (x = none ∧ n = d) ∨ ∃ k, x = some (.int k (.ofNat n))
theorem bnd_sound {ε : Env} {o : Option Bx} {e : E} {f : F} {x : Option Value} (hq : OQ ε o e f x) {ov : Option V} (h : optQ o e f = some ov) {d n : Nat} (hb : bnd d ov = some n) : Bd d x n := by
  rcases hq ov h with ⟨rfl, _, rfl⟩ | ⟨v, y, rfl, _, rfl, hc⟩
  · cases hb; exact .inl ⟨rfl, rfl⟩
  · obtain ⟨k, m, rfl, h2⟩ := onN_some hb
    cases h2; cases hc
    exact .inr ⟨k, rfl⟩
theorem sliceBound_run {P : Program} {w : World} (k : IntKind) {n y : Nat} (h : n ≤ y) (code : BoundsCode) : (Instr.sliceBound (.int k (n : Int)) y code).run P w = .ok n w := by
  have : (n : Int) ≤ y := by omega
  simp [Instr.sliceBound, asIntOf, this]
theorem sliceBounds_run {P : Program} {w : World} (isS : Bool) {len cap l h m : Nat} {lo hi mx : Option Value} (hm : Bd cap mx m) (hh : Bd len hi h) (hl : Bd 0 lo l) (hx : mx = none ∨ hi ≠ none)
    (h1 : m ≤ cap) (h2 : hi ≠ none → h ≤ m) (h3 : l ≤ h) : (Instr.sliceBounds isS len cap lo hi mx).run P w = .ok (l, h, m) w := by
  rcases hm with ⟨rfl, rfl⟩ | ⟨k, rfl⟩ <;> rcases hh with ⟨rfl, rfl⟩ | ⟨j, rfl⟩ <;> rcases hl with ⟨rfl, rfl⟩ | ⟨i, rfl⟩
  all_goals first
    | (rcases hx with hx | hx <;> simp at hx; done)
    | (simp only [ne_eq, reduceCtorEq, not_false_eq_true, forall_const] at h2
       simp [Instr.sliceBounds, sliceBound_run, h1, h2, h3])
    | simp [Instr.sliceBounds, sliceBound_run, h1, h3]

/-- what slicing comes to -/
theorem slc_sound {ε : Env} {P : Program} {w : World} (isS : Bool) {s : Nat} {x v : V} {a : Option Addr} {n c : Nat} {ol oh om : Option Bx} {e : E} {f : F} {lv hv mv : Option V} {lo hi mx : Option Value}
    (ql : OQ ε ol e f lo) (qh : OQ ε oh e f hi) (qm : OQ ε om e f mx) (el : optQ ol e f = some lv) (eh : optQ oh e f = some hv) (em : optQ om e f = some mv) (hmm : hm oh om = true)
    (hx : conc ε x = some (.slice a n c)) (hs : slc s x lv hv mv = some v)
    (ho : ∀ b off k, x = .so b off k → ∃ y, ε b = some y ∧ y.esz = s ∧ (∀ j i, hv = some (.int j (.ofNat i)) → i ≤ k ∨ off + i * s ≤ y.csz)) :
    ∃ l h m, (Instr.sliceBounds isS n c lo hi mx).run P w = .ok (l, h, m) w ∧ conc ε v = some (.slice (if m = l then a else a.map (·.add (l * s))) (h - l) (m - l)) := by
  have hx' : mx = none ∨ hi ≠ none := by
    rcases qm mv em with ⟨_, _, rfl⟩ | ⟨_, _, _, o1, rfl, _⟩
    · exact .inl rfl
    · right
      rcases qh hv eh with ⟨_, rfl, _⟩ | ⟨_, _, _, _, rfl, _⟩
      · cases om with
        | none => cases o1
        | some _ => cases hmm
      · simp
  unfold slc at hs
  split at hs
  · -- no slice
    cases hx
    obtain ⟨m, hm', h1⟩ := ob_eq hs
    obtain ⟨l, hl', h2⟩ := ob_eq h1
    obtain ⟨h, hh', h3⟩ := ob_eq h2
    obtain ⟨h4, h5⟩ := bc_some h3
    cases h5
    have h6 : m + (l + h) = 0 := Nat.eq_of_beq_eq_true h4
    obtain ⟨rfl, rfl, rfl⟩ : m = 0 ∧ l = 0 ∧ h = 0 := by omega
    exact ⟨0, 0, 0, sliceBounds_run isS (bnd_sound qm em hm') (bnd_sound qh eh hh') (bnd_sound ql el hl') hx' (by omega) (by omega) (by omega), by simp [conc]⟩
  · rename_i b off n' c'
    obtain ⟨y, hy, he⟩ := conc_sl hx
    cases he
    obtain ⟨m, hm', h1⟩ := ob_eq hs
    obtain ⟨h, hh', h2⟩ := ob_eq h1
    obtain ⟨l, hl', h3⟩ := ob_eq h2
    obtain ⟨k1, h4⟩ := bc_some h3
    obtain ⟨k2, h5⟩ := bc_some h4
    obtain ⟨k3, h6⟩ := bc_some h5
    cases h6
    have k1 := Nat.le_of_ble_eq_true k1
    have k2 := Nat.le_of_ble_eq_true k2
    have k3 := Nat.le_of_ble_eq_true k3
    refine ⟨l, h, m, sliceBounds_run isS (bnd_sound qm em hm') (bnd_sound qh eh hh') (bnd_sound ql el hl') hx' k1 (fun _ => k2) k3, ?_⟩
    rw [conc_sl_mk _ _ _ hy]
    cases hb : Nat.beq m l with
    | true =>
      have := Nat.eq_of_beq_eq_true hb
      simp [bc_true, this]
    | false =>
      have : m ≠ l := Nat.ne_of_beq_eq_false hb
      simp [bc_false, this, Ent.ad_add]
  · rename_i b off n'
    obtain ⟨y, hy, hp, hle, he⟩ := conc_so hx
    cases he
    obtain ⟨y', hy', rfl, hcap⟩ := ho b off n rfl
    rw [hy] at hy'; cases hy'
    have hcap' : ∀ i, off + i * y.esz ≤ y.csz → i ≤ (y.csz - off) / y.esz := fun i hi => by
      rw [Nat.le_div_iff_mul_le hp]; omega
    have hback : ∀ i, i ≤ (y.csz - off) / y.esz → i * y.esz ≤ y.csz - off := fun i hi => by
      rw [Nat.le_div_iff_mul_le hp] at hi; exact hi
    split at hs
    · rename_i mv'
      obtain ⟨m, hm', h1⟩ := ob_eq hs
      obtain ⟨h, hh', h2⟩ := ob_eq h1
      obtain ⟨l, hl', h3⟩ := ob_eq h2
      obtain ⟨k1, h4⟩ := bc_some h3
      obtain ⟨k2, h5⟩ := bc_some h4
      obtain ⟨k3, h6⟩ := bc_some h5
      cases h6
      have k1 := Nat.le_of_ble_eq_true k1
      have k2 := Nat.le_of_ble_eq_true k2
      have k3 := Nat.le_of_ble_eq_true k3
      have hmb : Bd ((y.csz - off) / y.esz) mx m := by
        rcases qm _ em with ⟨h0, _, _⟩ | ⟨v0, y0, h0, _, rfl, hc0⟩
        · cases h0
        · cases h0
          obtain ⟨k, i, rfl, h2⟩ := onN_some hm'
          cases h2; cases hc0
          exact .inr ⟨k, rfl⟩
      refine ⟨l, h, m, sliceBounds_run isS hmb (bnd_sound qh eh hh') (bnd_sound ql el hl') hx' (Nat.le_trans k1 (hcap' _ hle)) (fun _ => k2) k3, ?_⟩
      rw [conc_sl_mk _ _ _ hy]
      cases hb : Nat.beq m l with
      | true =>
        have := Nat.eq_of_beq_eq_true hb
        simp [bc_true, this]
      | false =>
        have : m ≠ l := Nat.ne_of_beq_eq_false hb
        simp [bc_false, this, Ent.ad_add]
    · obtain ⟨h, hh', h2⟩ := ob_eq hs
      obtain ⟨l, hl', h3⟩ := ob_eq h2
      obtain ⟨k3, h6⟩ := bc_some h3
      have k3 := Nat.le_of_ble_eq_true k3
      have hmb : Bd ((y.csz - off) / y.esz) mx ((y.csz - off) / y.esz) := by
        rcases qm _ em with ⟨_, _, rfl⟩ | ⟨v0, y0, h0, _, rfl, hc0⟩
        · exact .inl ⟨rfl, rfl⟩
        · cases h0
      have hhC : h ≤ (y.csz - off) / y.esz := by
        rcases qh _ eh with ⟨rfl, _, _⟩ | ⟨v0, y0, rfl, _, _, hc0⟩
        · cases hh'; exact hcap' _ hle
        · obtain ⟨k, i, rfl, h2⟩ := onN_some hh'
          cases h2
          rcases hcap k h rfl with q | q
          · exact Nat.le_trans q (hcap' _ hle)
          · exact hcap' _ q
      have hh2 := hback h hhC
      refine ⟨l, h, (y.csz - off) / y.esz, sliceBounds_run isS hmb (bnd_sound qh eh hh') (bnd_sound ql el hl') hx' (Nat.le_refl _) (fun _ => hhC) k3, ?_⟩
      have hdiv : (y.csz - (off + l * y.esz)) / y.esz = (y.csz - off) / y.esz - l := by
        rw [Nat.sub_add_eq, Nat.mul_comm l, Nat.sub_mul_div]
      have hlh : l * y.esz ≤ h * y.esz := Nat.mul_le_mul_right _ k3
      have hsub : (h - l) * y.esz = h * y.esz - l * y.esz := Nat.sub_mul _ _ _
      have far : l ≠ (y.csz - off) / y.esz → conc ε (.so b (Nat.add off (Nat.mul l y.esz)) (Nat.sub h l)) =
          some (.slice (if (y.csz - off) / y.esz = l then some (y.ad off) else (some ((y.ad off) : Addr)).map (·.add (l * y.esz))) (h - l) ((y.csz - off) / y.esz - l)) := by
        intro hne
        rw [if_neg (fun e => hne e.symm)]
        have := conc_so_mk (ε := ε) (b := b) (off := off + l * y.esz) (n := h - l) hy hp (by omega)
        simp only [Option.map_some, Ent.ad_add]
        rw [hdiv] at this
        exact this
      cases h0 : Nat.beq l 0 with
      | true =>
        have e0 := Nat.eq_of_beq_eq_true h0
        subst e0
        rw [h0, bc_true] at h6; cases h6
        rw [conc_so_mk hy hp (by omega)]
        simp [Ent.ad_add]
      | false =>
        rw [h0, bc_false] at h6
        cases h7 : Nat.blt l n with
        | true =>
          rw [h7, bc_true] at h6; cases h6
          have : l < n := Nat.le_of_ble_eq_true h7
          have := hcap' _ hle
          exact far (by omega)
        | false =>
          rw [h7, bc_false] at h6
          cases h8 : Nat.beq h l with
          | true =>
            have e8 := Nat.eq_of_beq_eq_true h8
            subst e8
            rw [h8, bc_true] at h6; cases h6
            rw [conc, hy]
            have e9 : (off + h * y.esz - off) / y.esz = h := by rw [Nat.add_sub_cancel_left, Nat.mul_div_cancel _ hp]
            show some (szC y off (off + h * y.esz)) = _
            unfold szC
            rw [e9]
            by_cases e : (y.csz - off) / y.esz = h
            · simp [e]
            · simp [e, Ent.ad_add]
          | false =>
            rw [h8, bc_false] at h6; cases h6
            have : h ≠ l := Nat.ne_of_beq_eq_false h8
            exact far (by omega)
  · cases hs

section
variable {W : Wd} {P : Program} (hf : Fits W P) {B : Nat} {zf : H} {ε : Env} {h : H} {nx : Nat} {w : World}
include hf in
/-- a slice of a slice -/
theorem slice_sound {t : TypeId} {q : Q} {ol oh om : Option Bx} {g : E → F → H → Option V} {e : E} {f : F} {v : V} {x : Value} {lo hi mx : Option Value} (hw : WR W B zf ε h nx w)
    (hc : cSlice W t (.mk q) ol oh om = .m g) (hv : g e f h = some v) (ha : ∀ u, q e f = some u → conc ε u = some x) (ql : OQ ε ol e f lo) (qh : OQ ε oh e f hi) (qm : OQ ε om e f mx) :
    ∃ z, (Instr.sliceAt t x lo hi mx).run P w = .ok z w ∧ conc ε v = some z := by
  unfold cSlice at hc
  cases hmm : hm oh om with
  | false => rw [hmm] at hc; cases hc
  | true =>
    rw [hmm, bc_true] at hc
    simp only [bx] at hc
    split at hc
    · rename_i el hu
      cases hk : okT W el with
      | false => rw [hk] at hc; cases hc
      | true =>
        rw [hk, bc_true] at hc; cases hc
        obtain ⟨xv, h1, h2⟩ := ob_eq hv
        obtain ⟨lv, h3, h4⟩ := ob_eq h2
        obtain ⟨hv', h5, h6⟩ := ob_eq h4
        obtain ⟨mv, h7, h8⟩ := ob_eq h6
        obtain ⟨h9, h10⟩ := bc_some h8
        have hxs : ∃ a n c, x = .slice a n c := by
          unfold slc at h10
          split at h10
          · have := ha _ h1; cases this; exact ⟨_, _, _, rfl⟩
          · obtain ⟨_, _, rfl⟩ := conc_sl (ha _ h1); exact ⟨_, _, _, rfl⟩
          · obtain ⟨_, _, _, _, rfl⟩ := conc_so (ha _ h1); exact ⟨_, _, _, rfl⟩
          · cases h10
        obtain ⟨a, n, c, rfl⟩ := hxs
        obtain ⟨l, hh, m, r1, r2⟩ := slc_sound (P := P) (w := w) true ql qh qm h3 h5 h7 hmm (ha _ h1) h10 (fun b off k hx => by
          subst hx
          unfold hiOk at h9
          simp only [] at h9
          split at h9
          · rename_i es c' hb
            obtain ⟨k1, k2⟩ := bc_and h9
            have e1 := Nat.eq_of_beq_eq_true k1
            obtain ⟨y, hy, _⟩ := conc_so (ha _ h1)
            obtain ⟨ob', _, hor, _⟩ := hw.blk b y _ hy hb
            obtain ⟨l', r', el', g1, g2, g3, g4, g5⟩ := hor
            refine ⟨y, hy, g4.trans e1, fun j i hj => ?_⟩
            subst hj
            simp only [] at k2
            cases k3 : Nat.ble i k with
            | true => exact .inl (Nat.le_of_ble_eq_true k3)
            | false =>
              rw [k3, bc_false] at k2
              right
              have := Nat.le_of_ble_eq_true k2
              have hl := concL_length g1
              have : off + i * szOf W el ≤ c'.length := this
              rw [g3, List.length_append, hl]; omega
          · cases h9)
        refine ⟨_, ?_, r2⟩
        simp [Instr.sliceAt, Instr.slice, run_und hf hu w, r1, run_szOk hf hk w]
    · rename_i n el hu
      cases hk : okT W el with
      | false => rw [hk] at hc; cases hc
      | true => rw [hk] at hc; cases hc
    · cases hc
include hf in
/-- a slice of an array -/
theorem sliceArr_sound {t : TypeId} {q : Q} {ol oh om : Option Bx} {g : E → F → Option V} {e : E} {f : F} {v : V} {x : Value} {lo hi mx : Option Value}
    (hc : cSlice W t (.mk q) ol oh om = .q g) (hv : g e f = some v) (ha : ∀ u, q e f = some u → conc ε u = some x) (ql : OQ ε ol e f lo) (qh : OQ ε oh e f hi) (qm : OQ ε om e f mx) :
    ∃ z, (Instr.sliceAt t x lo hi mx).run P w = .ok z w ∧ conc ε v = some z := by
  unfold cSlice at hc
  cases hmm : hm oh om with
  | false => rw [hmm] at hc; cases hc
  | true =>
    rw [hmm, bc_true] at hc
    simp only [bx] at hc
    split at hc
    · rename_i el hu
      cases hk : okT W el with
      | false => rw [hk] at hc; cases hc
      | true => rw [hk] at hc; cases hc
    · rename_i n el hu
      cases hk : okT W el with
      | false => rw [hk] at hc; cases hc
      | true =>
        rw [hk, bc_true] at hc; cases hc
        obtain ⟨xv, h1, h2⟩ := ob_eq hv
        obtain ⟨b, off, rfl, h2⟩ := onP_some h2
        obtain ⟨lv, h3, h4⟩ := ob_eq h2
        obtain ⟨hv', h5, h6⟩ := ob_eq h4
        obtain ⟨mv, h7, h8⟩ := ob_eq h6
        obtain ⟨y, hy, rfl⟩ := conc_p (ha _ h1)
        obtain ⟨l, hh, m, r1, r2⟩ := slc_sound (P := P) (w := w) false ql qh qm h3 h5 h7 hmm (conc_sl_mk off n n hy) h8 (fun b off k hx => by cases hx)
        refine ⟨_, ?_, r2⟩
        have e : (if m = l then some ((y.ad off) : Addr) else (some ((y.ad off) : Addr)).map (·.add (l * szOf W el))) = some (if m = l then (y.ad off) else ((y.ad off) : Addr).add (l * szOf W el)) := by
          split <;> rfl
        rw [e]
        simp [Instr.sliceAt, run_und hf hu w, Instr.sureAddr, r1, run_szOk hf hk w]
    · cases hc
end
end Go.AM
end
section
/- Maps: finding a key, reading, writing. -/
namespace Go.AM

theorem ints_all : ∀ {l : List V} {a : List Value} {ε : Env}, (l.all fun v => match v with | .int _ _ => true | _ => false) = true → concL ε l = some a → ∀ x ∈ a, ∃ k n, x = .int k n
  | [], a, ε, _, h => by cases h; simp
  | v :: vs, a, ε, hs, h => by
    obtain ⟨b, bs, hb, hbs, rfl⟩ := concL_cons h
    rw [List.all_cons, Bool.and_eq_true] at hs
    intro x hx
    rcases List.mem_cons.1 hx with rfl | hx
    · cases v with
      | int k n => cases hb; exact ⟨k, n, rfl⟩
      | _ => cases hs.1
    · exact ints_all hs.2 hbs x hx
section
variable {W : Wd} {P : Program} (hf : Fits W P) {B : Nat} {zf : H} {ε : Env} {h : H} {nx : Nat} {w : World}
include hf in
theorem checkKey_run {kt : TypeId} {k : V} {x : Value} (hk : keyOk W kt k = true) (hx : conc ε k = some x) (em : Bool) : (Instr.checkKey em 10000 kt x).run P w = .ok () w := by
  have hD : ∃ D, 10000 = D + 2 := ⟨9998, rfl⟩
  obtain ⟨D, hD⟩ := hD
  rw [hD]
  unfold keyOk at hk
  split at hk
  · rename_i hu
    cases hx
    rw [Instr.checkKey]
    simp [run_und hf hu w]
  · rename_i n el l hu
    split at hk
    · rename_i kd hue
      obtain ⟨h1, hk⟩ := bc_and hk
      obtain ⟨h2, hk⟩ := bc_and hk
      obtain ⟨h3, hk⟩ := bc_and hk
      have e1 := Nat.eq_of_beq_eq_true h1
      have e3 := Nat.eq_of_beq_eq_true h3
      obtain ⟨a, ha, rfl⟩ := conc_ag hx
      have hal := concL_length ha
      have hin := ints_all hk ha
      have hinf : ∃ i, W.inf el = some i := by
        cases hi : W.inf el with
        | none => unfold szOf at e3; rw [hi] at e3; cases e3
        | some i => exact ⟨i, rfl⟩
      obtain ⟨i, hi⟩ := hinf
      have hsz : (sizeOf el).run P w = .ok 1 w := by rw [run_szOf hf hi w, e3]
      have hia := run_isAgg hf hue w
      have hagg : isAgg W el = false := by unfold isAgg; rw [hue]
      rw [Instr.checkKey]
      simp only [Sem.run_bind, run_und hf hu w, Result.andThen_ok]
      simp only [Std.Legacy.Range.forIn_eq_forIn_range', Std.Legacy.Range.size, Nat.sub_zero, Nat.add_one_sub_one, Nat.div_one]
      have each : ∀ j ∈ List.range' 0 n, ∃ k m, a[j]? = some (.int k m) := by
        intro j hj
        have : j < a.length := by have := List.mem_range'_1.1 hj; omega
        obtain ⟨k, m, e⟩ := hin a[j] (List.getElem_mem this)
        exact ⟨k, m, by rw [List.getElem?_eq_getElem this, e]⟩
      generalize List.range' 0 n = is at each
      induction is with
      | nil => simp
      | cons j is ih =>
        obtain ⟨k, m, hj⟩ := each j (by simp)
        have p1 : (Go.part el a.toArray (j * 1)).run P w = .ok (.int k m) w := by
          simp [Go.part, Sem.run_bind, hia, hagg, hj]
        have p2 : (Instr.checkKey em (D + 1) el (.int k m)).run P w = .ok () w := by
          rw [Instr.checkKey]; simp [run_und hf hue w]
        simp only [List.forIn_cons, Sem.run_bind, hsz, Result.andThen_ok, p1, p2, Sem.run_pure]
        exact ih (fun y hy => each y (by simp [hy]))
    · cases hk
  · cases hk

/-- equal keys are alike to the bit -/
theorem eqL_same (D : Nat) : ∀ {l m : List V} {a b : List Value}, concL ε l = some a → concL ε m = some b → eqL l m = some true → a.length = b.length ∧ (b.zip a).all (fun (x, y) => Instr.sameBits D x y) = true
  | [], [], a, b, ha, hb, _ => by cases ha; cases hb; exact ⟨rfl, rfl⟩
  | [], _ :: _, _, _, _, _, h => by simp [eqL] at h
  | x :: xs, [], _, _, _, _, h => by unfold eqL at h; split at h <;> simp_all
  | x :: xs, y :: ys, a, b, ha, hb, h => by
    obtain ⟨u, us, h1, h2, rfl⟩ := concL_cons ha
    obtain ⟨v, vs, h3, h4, rfl⟩ := concL_cons hb
    obtain ⟨k, m, n, s, rfl, rfl, h5, h6⟩ := eqL_cons h
    cases h1; cases h3
    obtain ⟨h7, rfl⟩ := bc_and h6.symm
    obtain ⟨h8, h9⟩ := eqL_same D h2 h4 h5
    rw [ieq_eq] at h7
    have : m = n := by simpa using h7
    subst this
    refine ⟨by simp [h8], ?_⟩
    simp only [List.zip_cons_cons, List.all_cons, h9, Bool.and_true]
    cases D <;> simp [Instr.sameBits]
theorem keyEq_same {k x : V} {a b : Value} (ha : conc ε k = some a) (hb : conc ε x = some b) (h : keyEq k x = some true) : Instr.sameBits 10000 b a = true := by
  have hD : ∃ D, 10000 = D + 1 := ⟨9999, rfl⟩
  obtain ⟨D, hD⟩ := hD
  rw [hD]
  unfold keyEq at h
  split at h
  · cases ha; cases hb
    obtain ⟨h1, h2⟩ := bc_some h
    have := eqK_eq h1
    subst this
    rw [ieq_eq] at h2
    simp only [Option.some.injEq, beq_iff_eq] at h2
    subst h2
    simp [Instr.sameBits]
  · obtain ⟨la, h1, rfl⟩ := conc_ag ha
    obtain ⟨lb, h2, rfl⟩ := conc_ag hb
    obtain ⟨h3, h4⟩ := eqL_same D h1 h2 h
    simp only [Instr.sameBits, List.size_toArray, h3]
    simpa using h4
  · cases h

/-- what finding goes by -/
structure Fd (ε : Env) (k : V) (F : List MapEntry → Nat → Option (Nat × Value) → Prop) : Prop where
  nil : ∀ i, F [] i none
  yes : ∀ (x : V) (e : MapEntry) es i, conc ε x = some e.key → keyEq k x = some true → F (e :: es) i (some (i, e.val))
  no : ∀ (x : V) (e : MapEntry) es i a, conc ε x = some e.key → keyEq k x = some false → F es (i + 1) a → F (e :: es) i a
theorem mfind_sound {k : V} {F : List MapEntry → Nat → Option (Nat × Value) → Prop} (hF : Fd ε k F) : ∀ {es : List (V × V × Nat)} {xs : List MapEntry} {r : Option V}, ER ε es xs → mfind k es = some r → ∀ i,
    ∃ a, F xs i a ∧ ((r = none ∧ a = none) ∨ ∃ j v val, r = some v ∧ a = some (j, val) ∧ conc ε v = some val)
  | [], xs, r, h1, h2, i => by cases h1; cases h2; exact ⟨none, hF.nil i, .inl ⟨rfl, rfl⟩⟩
  | (x, v, n) :: es, xs, r, h1, h2, i => by
    obtain ⟨y, ys, rfl, hx, hv, hn, hes⟩ := h1
    obtain ⟨b, hb, h3⟩ := ob_eq (show ob (keyEq k x) (fun b => bc b (some (some v)) (mfind k es)) = some r from h2)
    cases b with
    | true => cases h3; exact ⟨_, hF.yes x y ys i hx hb, .inr ⟨i, v, y.val, rfl, rfl, hv⟩⟩
    | false =>
      obtain ⟨a, h4, h5⟩ := mfind_sound hF hes h3 (i + 1)
      exact ⟨a, hF.no x y ys i a hx hb h4, h5⟩
theorem ER.snoc : ∀ {es : List (V × V × Nat)} {xs : List MapEntry} {k v : V} {n : Nat} {e : MapEntry}, ER ε es xs → conc ε k = some e.key → conc ε v = some e.val → e.born = n → ER ε (es ++ [(k, v, n)]) (xs ++ [e])
  | [], xs, k, v, n, e, h, h1, h2, h3 => by cases h; exact ⟨e, [], rfl, h1, h2, h3, rfl⟩
  | (x, u, i) :: es, xs, k, v, n, e, h, h1, h2, h3 => by
    obtain ⟨y, ys, rfl, hx, hv, hn, hes⟩ := h
    exact ⟨y, ys ++ [e], rfl, hx, hv, hn, ER.snoc hes h1 h2 h3⟩
theorem mset_sound {k v : V} {kv vv : Value} (hk : conc ε k = some kv) (hv : conc ε v = some vv) {F : List MapEntry → Nat → Option (Nat × Value) → Prop} (hF : Fd ε k F) {n : Nat} :
    ∀ {es : List (V × V × Nat)} {xs : List MapEntry} {r : List (V × V × Nat) × Nat}, ER ε es xs → mset k v n es = some r → ∀ i,
    ∃ a, F xs i a ∧ ((a = none ∧ r.2 = n + 1 ∧ ER ε r.1 (xs ++ [{ key := kv, val := vv, born := n }])) ∨
      ∃ j e, a = some (i + j, e.val) ∧ xs[j]? = some e ∧ Instr.sameBits 10000 e.key kv = true ∧ r.2 = n ∧ ER ε r.1 (xs.modify j fun e => { e with key := kv, val := vv }))
  | [], xs, r, h1, h2, i => by
    cases h1; cases h2
    exact ⟨none, hF.nil i, .inl ⟨rfl, rfl, ⟨_, _, rfl, hk, hv, rfl, rfl⟩⟩⟩
  | (x, u, m) :: es, xs, r, h1, h2, i => by
    obtain ⟨y, ys, rfl, hx, hu, hn, hes⟩ := h1
    obtain ⟨b, hb, h3⟩ := ob_eq (show ob (keyEq k x) (fun b => bc b (some ((k, v, m) :: es, n)) (ob (mset k v n es) fun r => some ((x, u, m) :: r.1, r.2))) = some r from h2)
    cases b with
    | true =>
      cases h3
      refine ⟨_, hF.yes x y ys i hx hb, .inr ⟨0, y, rfl, rfl, keyEq_same hk hx hb, rfl, ?_⟩⟩
      exact ⟨_, ys, rfl, hk, hv, hn, hes⟩
    | false =>
      obtain ⟨r', h4, h5⟩ := ob_eq (show ob (mset k v n es) (fun r => some ((x, u, m) :: r.1, r.2)) = some r from h3)
      cases h5
      obtain ⟨a, h6, h7⟩ := mset_sound hk hv hF hes h4 (i + 1)
      refine ⟨a, hF.no x y ys i a hx hb h6, ?_⟩
      rcases h7 with ⟨e1, e2, e3⟩ | ⟨j, e, e1, e2, e3, e4, e5⟩
      · exact .inl ⟨e1, e2, ⟨y, _, rfl, hx, hu, hn, e3⟩⟩
      · refine .inr ⟨j + 1, e, by rw [e1]; congr 2; omega, by simpa using e2, e3, e4, ?_⟩
        exact ⟨y, _, rfl, hx, hu, hn, e5⟩
end
end Go.AM
end
section
/- Maps: lookup, update, entries; lengths. -/
namespace Go.AM
open Go.RowKit (Below)

theorem eqL_length : ∀ {l m : List V} {r : Bool}, eqL l m = some r → l.length = m.length
  | [], [], _, _ => rfl
  | [], _ :: _, _, h => by simp [eqL] at h
  | x :: xs, [], _, h => by unfold eqL at h; split at h <;> simp_all
  | x :: xs, y :: ys, r, h => by
    obtain ⟨k, m, n, s, rfl, rfl, h5, h6⟩ := eqL_cons h
    simp [eqL_length h5]
section
variable {W : Wd} {P : Program} (hf : Fits W P) {B : Nat} {zf : H} {ε : Env} {h : H} {nx : Nat} {w : World}
include hf in
theorem fd_of {kt : TypeId} {k : V} {kv : Value} (hk : keyOk W kt k = true) (hx : conc ε k = some kv) (w : World) :
    ∃ F, Fd ε k F ∧ ∀ xs a, F xs 0 a → (Instr.findKey kt kv xs).run P w = .ok a w := by
  unfold keyOk at hk
  split at hk
  · rename_i j' j n hu
    cases hx
    refine ⟨fun xs i a => Instr.findNow (.int j') (.int j n) xs i = some a, ⟨fun i => rfl, ?_, ?_⟩, fun xs a h => MapKept.run_findKey (hf.und hu) h⟩
    · intro x e es i hx hq
      unfold keyEq at hq
      split at hq
      · cases ‹V.int j n = _›
        obtain ⟨h1, h2⟩ := bc_some hq
        have := eqK_eq h1
        subst this
        rw [ieq_eq] at h2
        simp only [Option.some.injEq] at h2
        have hx := Option.some.inj hx
        simp [Instr.findNow, ← hx, Instr.sameNow, h2]
      · cases ‹V.int j n = _›
      · cases hq
    · intro x e es i a hx hq ha
      unfold keyEq at hq
      split at hq
      · cases ‹V.int j n = _›
        obtain ⟨h1, h2⟩ := bc_some hq
        have := eqK_eq h1
        subst this
        rw [ieq_eq] at h2
        simp only [Option.some.injEq] at h2
        have hx := Option.some.inj hx
        simp [Instr.findNow, ← hx, Instr.sameNow, h2, ha]
      · cases ‹V.int j n = _›
      · cases hq
  · rename_i n el l hu
    split at hk
    · rename_i kd hue
      obtain ⟨h1, hk⟩ := bc_and hk
      obtain ⟨h2, hk⟩ := bc_and hk
      obtain ⟨h3, hk⟩ := bc_and hk
      have e1 := Nat.eq_of_beq_eq_true h1
      have eqt : ∀ {x : V} {r : Bool}, keyEq (.ag l) x = some r → eqT W kt (.ag l) x = some r := by
        intro x r hq
        unfold keyEq at hq
        split at hq
        · cases ‹V.ag l = _›
        · cases ‹V.ag l = _›
          have hlen := eqL_length hq
          rw [hlen] at h1
          unfold eqT; rw [hu]; simp only [eqD, hue, h3, hlen, h1, bc_true]; exact hq
        · cases hq
      refine ⟨fun xs i a => (Instr.findAsking kt kv xs i).run P w = .ok a w, ⟨fun i => rfl, ?_, ?_⟩, fun xs a h => ?_⟩
      · intro x e es i hc hq
        have := equal_sound hf (eqt hq) hx hc w
        simp [Instr.findAsking, this]
      · intro x e es i a hc hq ha
        have := equal_sound hf (eqt hq) hx hc w
        simp [Instr.findAsking, this, ha]
      · exact (run_findKey_eq w (by rw [hf.und hu]) kv xs).trans h
    · cases hk
  · cases hk

theorem onMap_some {α : Type} {v : V} {g : Pth → List (V × V × Nat) → Nat → Option α} {r : α} (h1 : onMap h v g = some r) : ∃ b es c, v = .mp b ∧ T.get b h = some (.map es c) ∧ g b es c = some r := by
  unfold onMap at h1
  split at h1
  · obtain ⟨o, ho, h2⟩ := ob_eq h1
    split at h2
    · exact ⟨_, _, _, rfl, ho, h2⟩
    · cases h2
  · cases h1
theorem mapTypes_some {t kt el : TypeId} (h1 : mapTypes W t = some (kt, el)) : W.und t = some (.map kt el) := by
  unfold mapTypes at h1
  split at h1
  · cases h1; assumption
  · cases h1
theorem ER.length : ∀ {es : List (V × V × Nat)} {xs : List MapEntry}, ER ε es xs → xs.length = es.length
  | [], xs, h => by cases h; rfl
  | (_, _, _) :: es, xs, h => by obtain ⟨y, ys, rfl, _, _, _, h4⟩ := h; simp [ER.length h4]
include hf in
theorem lookup_sound (hw : WR W B zf ε h nx w) {t : TypeId} {q r : Q} {ok : Bool} {g : E → F → H → Option V} {e : E} {f : F} {v : V} {x y : Value}
    (hc : cLookup W t (.mk q) (.mk r) ok = .m g) (hv : g e f h = some v) (ha : ∀ u, q e f = some u → conc ε u = some x) (hb : ∀ u, r e f = some u → conc ε u = some y) :
    ∃ z, (Instr.lookup t x y ok).run P w = .ok z w ∧ conc ε v = some z := by
  unfold cLookup at hc
  simp only [bx] at hc
  split at hc
  · rename_i kt el hm
    split at hc
    · rename_i z hz
      cases hc
      obtain ⟨u, h1, h2⟩ := ob_eq hv
      obtain ⟨k, h3, h4⟩ := ob_eq h2
      obtain ⟨h5, h6⟩ := bc_some h4
      obtain ⟨b, es, c, rfl, h7, h8⟩ := onMap_some h6
      obtain ⟨a, h9, h10⟩ := ob_eq h8
      obtain ⟨p, hp, rfl⟩ := conc_mp (ha _ h1)
      obtain ⟨o, g1, ⟨xs, g2, rfl⟩, g3⟩ := hw.blk b p _ hp h7
      have hy := hb _ h3
      have hck := checkKey_run (w := w) hf h5 hy xs.isEmpty
      obtain ⟨F, hF, hrun⟩ := fd_of hf h5 hy w
      obtain ⟨af, k1, k2⟩ := mfind_sound hF g2 h9 0
      have hfk := hrun xs af k1
      obtain ⟨zv, hzr, hzc⟩ := zeroV_run (ε := ε) hf hz w
      have hu := run_und hf (mapTypes_some hm) w
      have hgo := MapKept.run_getObj_map (P := P) g1
      rcases k2 with ⟨rfl, rfl⟩ | ⟨j, v', val, rfl, rfl, hcv⟩
      · simp only [Option.some.injEq] at h10
        subst h10
        refine ⟨if ok then .tuple #[zv, .bool false] else zv, ?_, ?_⟩
        · simp [Instr.lookup, hu, hgo, hck, hfk, hzr]
        · cases ok with
          | true => exact conc_tu_mk (concL_mk hzc (concL_mk rfl rfl))
          | false => exact hzc
      · simp only [Option.some.injEq] at h10
        subst h10
        refine ⟨if ok then .tuple #[val, .bool true] else val, ?_, ?_⟩
        · simp [Instr.lookup, hu, hgo, hck, hfk]
        · cases ok with
          | true => exact conc_tu_mk (concL_mk hcv (concL_mk rfl rfl))
          | false => exact hcv
    · cases hc
  · cases hc

/-- what a loud operation leaves -/
structure Wrote (W : Wd) (B : Nat) (zf : H) (ε : Env) (h : H) (nx : Nat) (w : World) (h' : H) (b : Option Pth) (w' : World) : Prop where
  wr : WR W B zf ε h' nx w'
  below : Below B w w'
  put : (h' = h) ∨ ∃ p o, b = some p ∧ (T.get p h).isSome = true ∧ h' = T.put p (some o) h ∧ (ε p).isSome = true

theorem setObj_other (w : World) (r : Nat) (o : Obj) (i : Nat) (hne : i ≠ r) : (w.heap.setIfInBounds r o)[i]? = w.heap[i]? := by
  rw [Array.getElem?_setIfInBounds_ne (fun e => hne e.symm)]
include hf in
theorem mapSet_sound (hw : WR W B zf ε h nx w) {t : TypeId} {q r s : Q} {g : E → F → H → Option HV} {e : E} {f : F} {v : HV} {x y z : Value}
    (hc : cMapSet W t (.mk q) (.mk r) (.mk s) = .s g) (hv : g e f h = some v) (ha : ∀ u, q e f = some u → conc ε u = some x) (hb : ∀ u, r e f = some u → conc ε u = some y)
    (hz : ∀ u, s e f = some u → conc ε u = some z) :
    frzO zf v.b = true → ∃ w', (Instr.mapUpdate t x y z).run P w = .ok () w' ∧ v.v = undef ∧ Wrote W B zf ε h nx w v.h v.b w' := by
  intro hzb
  unfold cMapSet at hc
  simp only [bx] at hc
  split at hc
  · rename_i kt el hm
    cases hc
    obtain ⟨u, h1, h2⟩ := ob_eq hv
    obtain ⟨k, h3, h4⟩ := ob_eq h2
    obtain ⟨vv, h3', h4⟩ := ob_eq h4
    obtain ⟨h5, h6⟩ := bc_some h4
    obtain ⟨b, es, c, rfl, h7, h8⟩ := onMap_some h6
    obtain ⟨a, h9, h10⟩ := ob_eq h8
    cases h10
    have hzb := frz_none (show frz zf b = true from hzb)
    obtain ⟨p, hp, rfl⟩ := conc_mp (ha _ h1)
    obtain ⟨o, g1, ⟨xs, g2, rfl⟩, g3⟩ := hw.blk b p _ hp h7
    have hy := hb _ h3
    have hzz := hz _ h3'
    have hck := checkKey_run (w := w) hf h5 hy false
    obtain ⟨F, hF, hrun⟩ := fd_of hf h5 hy w
    obtain ⟨af, k1, k2⟩ := mset_sound hy hzz hF g2 h9 0
    have hfk := hrun xs af k1
    have hu := run_und hf (mapTypes_some hm) w
    have hgo := MapKept.run_getObj_map (P := P) g1
    have done : ∀ ys : List MapEntry, ∀ c', ER ε a.1 ys → a.2 = c' → (Instr.mapUpdate t (.map (some p.cb)) y z).run P w = .ok () { w with heap := w.heap.setIfInBounds p.cb (.map ys.toArray c') } →
        ∃ w', (Instr.mapUpdate t (.map (some p.cb)) y z).run P w = .ok () w' ∧ undef = undef ∧ Wrote W B zf ε h nx w (T.put b (some (.map a.1 a.2)) h) (some b) w' := by
      intro ys c' e1 e2 e3
      obtain ⟨i1, i2⟩ := MapKept.heap_set (o' := .map ys.toArray c') g1
      refine ⟨_, e3, rfl, ⟨?_, ?_, .inr ⟨b, _, rfl, by rw [h7]; rfl, rfl, by rw [hp]; rfl⟩⟩⟩
      · exact hw.turn hp h7 hzb (by simp) i1 ⟨ys, e1, by rw [e2]⟩ g3.2 i2
      · exact Below.of_turn (g3.1 hzb) rfl rfl rfl (by simp) i2
    rcases k2 with ⟨rfl, e2, e3⟩ | ⟨j, en, rfl, e2, e3, e4, e5⟩
    · refine done _ _ e3 e2 ?_
      simp only [Instr.mapUpdate, Sem.run_bind, hu, Result.andThen_ok, hgo, hck, hfk]
      rw [MapKept.run_setObj_map _ g1]
      simp
    · refine done _ _ e5 e4 ?_
      simp only [Instr.mapUpdate, Sem.run_bind, hu, Result.andThen_ok, hgo, hck, hfk]
      have hj : xs.toArray[0 + j]? = some en := by simpa using e2
      have hkt : (Instr.keyThatStays (((xs.toArray[0 + j]?).map (·.key)).getD y) y).run P w = .ok y w := by
        rw [hj]; simp [Instr.keyThatStays, e3]
      rw [hkt]
      simp only [Result.andThen_ok]
      rw [MapKept.run_setObj_map _ g1]
      congr 2
      simp
  · cases hc
end
end Go.AM
end
section
/- Entries of a walk, lengths, the greatest and the least, checks for nil. -/
namespace Go.AM
open Go.RowKit (Below)

theorem lastN_eq : ∀ {l : List Nat} {n : Nat}, lastN l = some n → l.getLast? = some n
  | [], _, h => by cases h
  | [x], n, h => by cases h; rfl
  | x :: y :: ys, n, h => by
    have : lastN (y :: ys) = some n := h
    rw [List.getLast?_cons_cons]
    exact lastN_eq this
theorem mborn_sound {ε : Env} {n : Nat} : ∀ {es : List (V × V × Nat)} {xs : List MapEntry} {v : V}, ER ε es xs → mborn n es = some v →
    ∃ e, xs.find? (fun e => e.born == n) = some e ∧ conc ε v = some (.tuple #[e.key, e.val])
  | [], xs, v, h1, h2 => by cases h2
  | (k, u, i) :: es, xs, v, h1, h2 => by
    obtain ⟨y, ys, rfl, hk, hu, hn, hes⟩ := h1
    have h3 : bc (Nat.beq i n) (some (V.tu [k, u])) (mborn n es) = some v := h2
    cases hb : Nat.beq i n with
    | true =>
      rw [hb] at h3; cases h3
      have := Nat.eq_of_beq_eq_true hb
      exact ⟨y, by simp [hn, this], conc_tu_mk (concL_mk hk (concL_mk hu rfl))⟩
    | false =>
      rw [hb] at h3
      have := Nat.ne_of_beq_eq_false hb
      obtain ⟨e, h4, h5⟩ := mborn_sound hes h3
      exact ⟨e, by simp [hn, this, h4], h5⟩
theorem run_getObj {P : Program} {w : World} {r : Nat} {o : Obj} (hb : w.heap[r]? = some o) (ho : ∀ c el fz, o ≠ .cells c el fz) : (getObj r).run P w = .ok o w := by
  cases o with
  | cells c el fz => exact absurd rfl (ho c el fz)
  | _ => simp [getObj, Sem.run, hb]
section
variable {W : Wd} {P : Program} (hf : Fits W P) {B : Nat} {zf : H} {ε : Env} {h : H} {nx : Nat} {w : World}
theorem entry_sound (hw : WR W B zf ε h nx w) {q : Q} {g : E → F → H → Option V} {e : E} {f : F} {v : V} {x : Value}
    (hc : cEntry (.mk q) = .m g) (hv : g e f h = some v) (ha : ∀ u, q e f = some u → conc ε u = some x) :
    ∃ z, (Instr.entry x).run P w = .ok z w ∧ conc ε v = some z := by
  cases hc
  obtain ⟨u, h1, h2⟩ := ob_eq hv
  obtain ⟨b, off, rfl, h3⟩ := onP_some h2
  obtain ⟨h4, h5⟩ := bc_some h3
  have e0 := Nat.eq_of_beq_eq_true h4
  subst e0
  obtain ⟨o, h6, h7⟩ := ob_eq h5
  split at h7
  · rename_i m _ seen stepped
    obtain ⟨n, h8, h9⟩ := ob_eq h7
    obtain ⟨o', h10, h11⟩ := ob_eq h9
    split at h11
    · rename_i es c
      obtain ⟨h12, h13⟩ := bc_some h11
      have e1 := Nat.eq_of_beq_eq_true h12
      obtain ⟨p, hp, rfl⟩ := conc_p (ha _ h1)
      obtain ⟨k, g1, ⟨y, hy, rfl⟩, _, hlo⟩ := hw.blk b p _ hp h6
      rw [Ent.ad_at hlo]
      obtain ⟨k', g2, ⟨xs, hxs, rfl⟩, _⟩ := hw.blk m y _ hy h10
      obtain ⟨en, h14, h15⟩ := mborn_sound hxs h13
      refine ⟨_, ?_, h15⟩
      have hl := lastN_eq h8
      have hb : seen.toArray.back? = some n := by simpa using hl
      simp [Instr.entry, run_getObj g1 (fun _ _ _ e => by cases e), run_getObj g2 (fun _ _ _ e => by cases e), hb, e1, h14]
    · cases h11
  · cases h7

theorem fold_sound {g : V → V → Option V} {G : Value → Value → Sem Value} (hg : ∀ x y z a b, g x y = some z → conc ε x = some a → conc ε y = some b → ∃ c, (G a b).run P w = .ok c w ∧ conc ε z = some c) :
    ∀ {ys : List V} {x v : V} {a : Value} {bs : List Value}, fold2 g x ys = some v → conc ε x = some a → concL ε ys = some bs → ∃ c, (bs.foldlM G a).run P w = .ok c w ∧ conc ε v = some c
  | [], x, v, a, bs, h1, h2, h3 => by
    cases h3; simp only [fold2, Option.some.injEq] at h1
    subst h1
    exact ⟨a, by simp, h2⟩
  | y :: ys, x, v, a, bs, h1, h2, h3 => by
    obtain ⟨b, bs', h4, h5, rfl⟩ := concL_cons h3
    obtain ⟨z, h6, h7⟩ := ob_eq (show ob (g x y) (fun z => fold2 g z ys) = some v from h1)
    obtain ⟨c, h8, h9⟩ := hg x y z a b h6 h2 h4
    obtain ⟨d, h10, h11⟩ := fold_sound hg h7 h9 h5
    exact ⟨d, by simp [List.foldlM_cons, h8, h10], h11⟩
theorem mm_sound {g : V → V → Option V} {G : Value → Value → Sem Value} (hg : ∀ x y z a b, g x y = some z → conc ε x = some a → conc ε y = some b → ∃ c, (G a b).run P w = .ok c w ∧ conc ε z = some c)
    {rs : Operand → Bx} {e : E} {f : F} {ρ : Operand → Value} (hr : Opd ε rs e f ρ) {os : List Operand} {v : V} {k : E → F → Option V} (hc : cMM g (bxs rs os) = .q k) (hv : k e f = some v) :
    ∃ c, (match os.map ρ with | [] => stuck "" | x :: rest => rest.foldlM G x : Sem Value).run P w = .ok c w ∧ conc ε v = some c := by
  cases hc
  obtain ⟨vs, h1, h2⟩ := ob_eq hv
  have h3 := evs_sound hr os vs h1
  split at h2
  · obtain ⟨b, bs, h4, h5, h6⟩ := concL_cons h3
    rw [h6]
    exact fold_sound hg h2 h4 h5
  · cases h2
theorem max2_sound (x y z : V) (a b : Value) (h1 : mx2 x y = some z) (h2 : conc ε x = some a) (h3 : conc ε y = some b) : ∃ c, (Builtin.max2 a b).run P w = .ok c w ∧ conc ε z = some c := by
  unfold mx2 at h1
  split at h1
  · cases h1; cases h2; cases h3
    rename_i k m _ n
    refine ⟨_, rfl, ?_⟩
    rw [ile_eq]
    by_cases e : n > m
    · have : ¬ n ≤ m := by omega
      simp [e, this, bc]; rfl
    · have : n ≤ m := by omega
      simp [e, this, bc]; rfl
  · cases h1
theorem min2_sound (x y z : V) (a b : Value) (h1 : mn2 x y = some z) (h2 : conc ε x = some a) (h3 : conc ε y = some b) : ∃ c, (Builtin.min2 a b).run P w = .ok c w ∧ conc ε z = some c := by
  unfold mn2 at h1
  split at h1
  · cases h1; cases h2; cases h3
    rename_i k m _ n
    refine ⟨_, rfl, ?_⟩
    rw [ile_eq]
    by_cases e : n < m
    · have : ¬ m ≤ n := by omega
      simp [e, this, bc]; rfl
    · have : m ≤ n := by omega
      simp [e, this, bc]; rfl
  · cases h1

theorem lenV_sound (hw : WR W B zf ε h nx w) {v : V} {n : Nat} {x : Value} (hl : lenV h v = some n) (hx : conc ε v = some x) :
    (∃ a c, x = .slice a n c) ∨ (x = .map none ∧ n = 0) ∨ ∃ r es c, x = .map (some r) ∧ w.heap[r]? = some (.map es c) ∧ es.size = n := by
  unfold lenV at hl
  split at hl
  · cases hl; obtain ⟨_, _, rfl⟩ := conc_sl hx; exact .inl ⟨_, _, rfl⟩
  · cases hl; obtain ⟨_, _, _, _, rfl⟩ := conc_so hx; exact .inl ⟨_, _, rfl⟩
  · cases hl; obtain ⟨_, _, rfl⟩ := eqT_conc_sl hx; exact .inl ⟨_, _, rfl⟩
  · cases hl; cases hx; exact .inl ⟨_, _, rfl⟩
  · cases hl; cases hx; exact .inr (.inl ⟨rfl, rfl⟩)
  · obtain ⟨o, ho, h2⟩ := ob_eq hl
    split at h2
    · cases h2
      obtain ⟨y, hy, rfl⟩ := conc_mp hx
      obtain ⟨k, g1, ⟨xs, hxs, rfl⟩, _⟩ := hw.blk _ y _ hy ho
      exact .inr (.inr ⟨_, _, _, rfl, g1, by simp [ER.length hxs]⟩)
    · cases h2
  · cases hl
end
end Go.AM
end
section
/- Writing, making. -/
namespace Go.AM
open Go.RowKit (Below)

theorem over_list (off : Nat) : ∀ (vs : List Value) (i : Nat) (cs : Array Value), off + i + vs.length ≤ cs.size →
    ((vs.zipIdx i).foldl (fun cs (p : Value × Nat) => cs.setIfInBounds (off + p.2) p.1) cs).toList = cs.toList.take (off + i) ++ vs ++ cs.toList.drop (off + i + vs.length)
  | [], i, cs, _ => by simp
  | v :: vs, i, cs, h => by
    simp only [List.length_cons] at h
    rw [List.zipIdx_cons, List.foldl_cons, over_list off vs (i + 1) _ (by simp; omega)]
    have hlt : off + i < cs.toList.length := by simp; omega
    simp only [Array.toList_setIfInBounds, List.length_cons]
    have e1 : (cs.toList.set (off + i) v).take (off + (i + 1)) = cs.toList.take (off + i) ++ [v] := by
      rw [← Nat.add_assoc, List.take_succ_eq_append_getElem (by simpa using hlt)]
      rw [List.take_set_of_le (Nat.le_refl _)]
      simp
    have e2 : (cs.toList.set (off + i) v).drop (off + (i + 1) + vs.length) = cs.toList.drop (off + i + (vs.length + 1)) := by
      rw [List.drop_set_of_lt (by omega)]
      congr 1; omega
    rw [e1, e2]
    simp
theorem fill_sound {ε : Env} {place place' : Nat → Option (Nat × Nat)} (hpl : ∀ i p, place i = some p → place' i = some p) :
    ∀ {ps : List (Nat × V)} {qs : List (Nat × Value)} {cs l : List V} {zs : List Value}, concL ε cs = some zs → qs.map (·.1) = ps.map (·.1) → concL ε (ps.map (·.2)) = some (qs.map (·.2)) → fillL place cs ps = some l →
      ∃ l', Instr.fill place' zs.toArray qs = some l'.toArray ∧ concL ε l = some l'
  | [], qs, cs, l, zs, h1, h2, h3, h4 => by
    cases qs with
    | cons _ _ => simp at h2
    | nil => simp only [fillL, Option.some.injEq] at h4; subst h4; exact ⟨zs, rfl, h1⟩
  | (i, v) :: ps, qs, cs, l, zs, h1, h2, h3, h4 => by
    cases qs with
    | nil => simp at h2
    | cons q qs =>
      obtain ⟨j, x⟩ := q
      simp only [List.map_cons, List.cons.injEq] at h2
      obtain ⟨rfl, h2⟩ := h2
      obtain ⟨a, as, h5, h6, h7⟩ := concL_cons h3
      simp only [List.map_cons, List.cons.injEq] at h7
      obtain ⟨rfl, rfl⟩ := h7
      obtain ⟨p, h8, h9⟩ := ob_eq (show ob (place j) (fun p => bc (Nat.beq (vcells v).length p.2) (ob (lput p.1 (vcells v) cs) fun cs' => fillL place cs' ps) none) = some l from h4)
      obtain ⟨h10, h11⟩ := bc_some h9
      obtain ⟨cs', h12, h13⟩ := ob_eq h11
      have e1 := Nat.eq_of_beq_eq_true h10
      obtain ⟨h14, rfl⟩ := lput_some _ _ _ _ h12
      have hvc := vcells_conc h5
      have hlen := concL_length hvc
      have hzl := concL_length h1
      have hnew : concL ε (cs.take p.1 ++ vcells v ++ cs.drop (p.1 + (vcells v).length)) = some (zs.take p.1 ++ x.cells.toList ++ zs.drop (p.1 + (vcells v).length)) :=
        concL_append (concL_append (concL_take _ h1) hvc) (concL_drop _ h1)
      obtain ⟨l', h15, h16⟩ := fill_sound hpl hnew h2 h6 h13
      refine ⟨l', ?_, h16⟩
      rw [Instr.fill, hpl j p h8]
      have hs : x.cells.size = p.2 := by simpa [e1] using hlen
      have hs2 : ¬ (p.1 + x.cells.size > zs.toArray.size) := by
        have : x.cells.size = (vcells v).length := by simpa using hlen
        simp; omega
      simp only [hs, ne_eq, not_true_eq_false, decide_false, Bool.false_or, decide_eq_true_eq]
      rw [if_neg (by rw [← hs]; exact hs2)]
      rw [← h15]
      congr 1
      apply Array.toList_inj.1
      have := over_list p.1 x.cells.toList 0 zs.toArray (by simp at hs2 ⊢; omega)
      rw [← Array.foldl_toList, Array.toList_zipIdx, this]
      have : x.cells.size = (vcells v).length := by simpa using hlen
      simp [this]
theorem evp_sound {ε : Env} {rs : Operand → Bx} {e : E} {f : F} {ρ : Operand → Value} (hr : Opd ε rs e f ρ) : ∀ (ps : List (Nat × Operand)) (vs : List (Nat × V)), evp (bxps rs ps) e f = some vs →
    (ps.map fun (i, x) => (i, ρ x)).map (·.1) = vs.map (·.1) ∧ concL ε (vs.map (·.2)) = some ((ps.map fun (i, x) => (i, ρ x)).map (·.2))
  | [], vs, h => by simp only [bxps, evp, Option.some.injEq] at h; subst h; exact ⟨rfl, rfl⟩
  | (i, o) :: ps, vs, h => by
    simp only [bxps, evp] at h
    obtain ⟨q, hq, h1⟩ := bx_split (rs o) (fun q => ob (q e f) fun v => ob (evp (bxps rs ps) e f) fun vs => some ((i, v) :: vs))
    rw [h1] at h
    obtain ⟨a, ha, h3⟩ := ob_eq h
    obtain ⟨as, hb, h4⟩ := ob_eq h3
    cases h4
    obtain ⟨h5, h6⟩ := evp_sound hr ps as hb
    exact ⟨by simp [← h5], concL_mk (hr o q a hq ha) h6⟩

/-- a block that is made -/
def Mkd (W : Wd) (P : Program) (ε : Env) (w : World) (s : Sem Value) (p : Pth) (r : AV) : Prop :=
  ∃ z k csz esz, s.run P w = .ok z (w.alloc k) ∧ OR W (ε.upd p ⟨w.heap.size, csz, esz, 0⟩) ⟨w.heap.size, csz, esz, 0⟩ r.o k ∧ conc (ε.upd p ⟨w.heap.size, csz, esz, 0⟩) r.v = some z
theorem run_newObj {P : Program} (w : World) (o : Obj) : (newObj o).run P w = .ok w.heap.size (w.alloc o) := by simp [newObj, Sem.run]
theorem run_newRow {P : Program} (w : World) (el : TypeId) (cs : Array Value) : (newRow el cs).run P w = .ok ⟨w.heap.size, 0, none⟩ (w.alloc (.cells cs el)) := by simp [newRow]
section
variable {W : Wd} {P : Program} (hf : Fits W P) {B : Nat} {zf : H} {ε : Env} {h : H} {nx : Nat} {w : World} {p : Pth} (hp : ε p = none)
include hf in
theorem store_sound (hw : WR W B zf ε h nx w) {t : TypeId} {q r : Q} {g : E → F → H → Option HV} {e : E} {f : F} {v : HV} {x y : Value}
    (hc : cStore W t (.mk q) (.mk r) = .s g) (hv : g e f h = some v) (ha : ∀ u, q e f = some u → conc ε u = some x) (hb : ∀ u, r e f = some u → conc ε u = some y) :
    frzO zf v.b = true → ∃ w', (Instr.storeAt t x y).run P w = .ok () w' ∧ v.v = undef ∧ Wrote W B zf ε h nx w v.h v.b w' := by
  intro hzb
  unfold cStore at hc
  simp only [bx] at hc
  cases hk : okT W t with
  | false => rw [hk] at hc; cases hc
  | true =>
    rw [hk, bc_true] at hc; cases hc
    obtain ⟨a, h1, h2⟩ := ob_eq hv
    obtain ⟨b, off, rfl, h3⟩ := onP_some h2
    obtain ⟨u, h4, h5⟩ := ob_eq h3
    obtain ⟨h6, h7⟩ := bc_some h5
    obtain ⟨h', h8, h9⟩ := ob_eq h7
    cases h9
    obtain ⟨c, hc, rfl⟩ := conc_p (ha _ h1)
    have hvc := vcells_conc (hb _ h4)
    obtain ⟨w', k1, k2, k3, o', k4, k5⟩ := wr_run (P := P) hw hc (frz_none (show frz zf b = true from hzb)) h8 hvc
    refine ⟨w', ?_, rfl, ⟨k2, k3, .inr ⟨b, o', rfl, k5, k4, by rw [hc]; rfl⟩⟩⟩
    have hlen := concL_length hvc
    have e1 := Nat.eq_of_beq_eq_true h6
    have hs : y.cells.size = szOf W t := by rw [← e1]; simpa using hlen
    simp [Instr.storeAt, Instr.sureAddr, storeVar, run_szOk hf hk w, hs, k1]
include hf hp in
theorem alloc_sound {t : TypeId} {g : E → F → Pth → Option AV} {e : E} {f : F} {r : AV} (hc : cAlloc W t = .a g) (hv : g e f p = some r) : Mkd W P ε w (Instr.alloc t true (.tuple #[])) p r := by
  unfold cAlloc at hc
  split at hc
  · rename_i z hz
    cases hc; cases hv
    obtain ⟨zv, h1, h2, _⟩ := zeroC_run (ε := ε) hf hz w
    refine ⟨_, .cells zv.cells t, 0, 0, ?_, ⟨zv.cells.toList, t, concL_mono (Env.upd_ext _ hp) _ _ h2, by simp⟩, conc_p_mk 0 (Env.upd_same _ _ _)⟩
    simp [Instr.alloc, h1, newVar, run_newRow, Ent.ad]
  · cases hc
include hp in
theorem box_sound {t : TypeId} {q : Q} {g : E → F → Pth → Option AV} {e : E} {f : F} {r : AV} {x : Value} (hc : cBox (.mk q) = .a g) (hv : g e f p = some r) (ha : ∀ u, q e f = some u → conc ε u = some x) :
    Mkd W P ε w (Instr.box t x) p r := by
  cases hc
  obtain ⟨u, h1, h2⟩ := ob_eq hv
  obtain ⟨_, h3⟩ := bc_some h2
  cases h3
  have h4 := vcells_conc (ha _ h1)
  refine ⟨_, .cells x.cells t, 0, 0, ?_, ⟨x.cells.toList, t, concL_mono (Env.upd_ext _ hp) _ _ h4, by simp⟩, conc_p_mk 0 (Env.upd_same _ _ _)⟩
  simp [Instr.box, newVar, run_newRow, Ent.ad]
theorem makeMap_sound {t : TypeId} {p : Pth} : Mkd W P ε w (Instr.makeMap t none) p ⟨.mp p, .map [] 0⟩ := by
  refine ⟨_, .map #[] 0, 0, 0, ?_, ⟨[], rfl, rfl⟩, by rw [conc, Env.upd_same]; rfl⟩
  simp [Instr.makeMap]
end
end Go.AM
end
section
/- Structs, arrays, slices made; a walk begun. -/
namespace Go.AM
open Go.RowKit (Below)

theorem rep_length (z : List V) : ∀ n, (rep z n).length = n * z.length
  | 0 => by simp [rep]
  | n + 1 => by rw [rep, List.length_append, rep_length z n, Nat.add_mul, Nat.one_mul, Nat.add_comm]
theorem rep_conc {ε : Env} {z : List V} {zs : List Value} (hz : concL ε z = some zs) : ∀ n, concL ε (rep z n) = some ((List.replicate n zs).flatten)
  | 0 => rfl
  | n + 1 => by rw [List.replicate_succ, List.flatten_cons]; exact concL_append hz (rep_conc hz n)
theorem rep_scalar {z : List V} (hz : z.all scalar = true) : ∀ n, (rep z n).all scalar = true
  | 0 => rfl
  | n + 1 => by rw [rep, List.all_append, hz, rep_scalar hz n]; rfl
/-- the same cells again and again -/
theorem flat_get (zs : List Value) : ∀ (n i : Nat), i < n * zs.length → ((List.replicate n zs).flatten)[i]? = zs[i % zs.length]?
  | 0, i, h => by simp at h
  | n + 1, i, h => by
    rw [List.replicate_succ, List.flatten_cons]
    by_cases hi : i < zs.length
    · rw [List.getElem?_append_left hi, Nat.mod_eq_of_lt hi]
    · rw [List.getElem?_append_right (by omega), flat_get zs n (i - zs.length) (by rw [Nat.add_mul, Nat.one_mul] at h; omega)]
      congr 1
      rw [← Nat.mod_eq_sub_mod (by omega)]
theorem flat_size (zs : List Value) (n : Nat) : ((List.replicate n zs).flatten).length = n * zs.length := by
  induction n with
  | zero => simp
  | succ n ih => rw [List.replicate_succ, List.flatten_cons, List.length_append, ih, Nat.add_mul, Nat.one_mul, Nat.add_comm]
theorem range_zero (z : Array Value) (n : Nat) (m : Nat) (hm : m = n * z.size) : (Array.range m).map (fun i => z[i % z.size]!) = ((List.replicate n z.toList).flatten).toArray := by
  subst hm
  apply Array.ext'
  apply List.ext_getElem?
  intro i
  simp only [Array.toList_map, Array.toList_range, List.getElem?_map]
  by_cases h : i < n * z.size
  · have h2 := flat_get z.toList n i (by simpa using h)
    rw [h2]
    have h3 : i % z.size < z.size := Nat.mod_lt _ (by
      rcases Nat.eq_zero_or_pos z.size with h0 | h0
      · rw [h0] at h; simp at h
      · exact h0)
    rw [List.getElem?_range h]
    simp only [Option.map_some, Array.length_toList]
    rw [getElem!_pos z _ h3, Array.getElem?_toList, Array.getElem?_eq_getElem h3]
  · have h2 := flat_size z.toList n
    rw [List.getElem?_eq_none (by simp; omega), List.getElem?_eq_none (by rw [h2]; simpa using h)]
    rfl
theorem zeroN_some {W : Wd} {t : TypeId} {z : List V} (h : zeroN W t = some z) : ∃ i, W.inf t = some i ∧ i.bytes ≤ 65536 ∧ zeroC W t = some z ∧ z.length = szOf W t := by
  obtain ⟨i, h1, h2⟩ := ob_eq h
  obtain ⟨h3, h4⟩ := bc_some h2
  obtain ⟨y, h5, h6⟩ := ob_eq h4
  obtain ⟨h7, h8⟩ := bc_some h6
  cases h8
  exact ⟨i, h1, Nat.le_of_ble_eq_true h3, h5, Nat.eq_of_beq_eq_true h7⟩
theorem elemOf_some {W : Wd} {t el : TypeId} (h : elemOf W t = some el) : W.und t = some (.slice el) := by
  unfold elemOf at h
  split at h
  · cases h; assumption
  · cases h
theorem mapM_run {P : Program} {w : World} {α β : Type} (G : α → Sem β) (g : α → β) : ∀ (L : List α), (∀ a ∈ L, (G a).run P w = .ok (g a) w) → (L.mapM G).run P w = .ok (L.map g) w
  | [], _ => by simp
  | a :: L, h => by
    have h0 := h a (by simp)
    have h1 := mapM_run G g L fun x hx => h x (by simp [hx])
    simp [List.mapM_cons, h0, h1]
theorem mapM_arr {P : Program} {w : World} {α β : Type} (G : α → Sem β) (g : α → β) (A : Array α) (h : ∀ a ∈ A, (G a).run P w = .ok (g a) w) : (A.mapM G).run P w = .ok (A.map g) w := by
  obtain ⟨L⟩ := A
  have := mapM_run G g L fun a ha => h a (by simpa using ha)
  rw [List.mapM_toArray, Sem.run_map, this]
  simp
section
variable {W : Wd} {P : Program} (hf : Fits W P) {B : Nat} {zf : H} {ε : Env} {h : H} {nx : Nat} {w : World} {p : Pth} (hp : ε p = none)
include hf in
theorem build_sound {rs : Operand → Bx} {e : E} {f : F} {ρ : Operand → Value} (hr : Opd ε rs e f ρ) {t : TypeId} {ps : Array (Nat × Operand)} {g : E → F → Option V} {v : V}
    (hc : cBuild W t (bxps rs ps.toList) = .q g) (hv : g e f = some v) : ∃ z, (Instr.build t (ps.map fun (i, x) => (i, ρ x))).run P w = .ok z w ∧ conc ε v = some z := by
  unfold cBuild at hc
  cases hag : isAgg W t with
  | false => rw [hag] at hc; cases hc
  | true =>
    rw [hag, bc_true] at hc
    cases hpo : partsOk W t with
    | false => rw [hpo] at hc; cases hc
    | true =>
      rw [hpo, bc_true] at hc
      split at hc
      · rename_i z hz
        cases hc
        obtain ⟨as, h1, h2⟩ := ob_eq hv
        obtain ⟨l, h3, h4⟩ := ob_eq h2
        cases h4
        obtain ⟨zv, h5, h6, _⟩ := zeroC_run (ε := ε) hf hz w
        obtain ⟨h7, h8⟩ := evp_sound hr ps.toList as h1
        unfold isAgg at hag
        split at hag
        · rename_i fs hu
          have hall : ∀ fd ∈ fs.toList, okT W fd.type = true := by
            unfold partsOk at hpo; rw [hu] at hpo
            exact List.all_eq_true.1 hpo
          have hmap : (fs.mapM fun f => (do pure (f.offset, ← sizeOf f.type) : Sem (Nat × Nat))).run P w = .ok (fs.map fun f => (f.offset, szOf W f.type)) w := by
            exact mapM_arr _ _ fs fun fd hfd => by simp [run_szOk hf (hall fd (by simpa using hfd)) w]
          have hpl : ∀ i q, place W t i = some q → (fs.map fun f => (f.offset, szOf W f.type))[i]? = some q := by
            intro i q hq
            unfold place at hq
            rw [hu] at hq
            simp only [] at hq
            split at hq
            · rename_i fd hfd; cases hq; simp [hfd]
            · cases hq
          obtain ⟨l', h9, h10⟩ := fill_sound hpl h6 h7 h8 h3
          refine ⟨.agg l'.toArray, ?_, conc_ag_mk h10⟩
          simp only [Array.toArray_toList] at h9
          simp only [Instr.build, Sem.run_bind, h5, Result.andThen_ok, run_und hf hu w, hmap, Array.toList_map, h9, Sem.run_pure]
        · rename_i n el hu
          have hok : okT W el = true := by unfold partsOk at hpo; rw [hu] at hpo; exact hpo
          have hpl : ∀ i q, place W t i = some q → (fun i => some (i * szOf W el, szOf W el) : Nat → Option (Nat × Nat)) i = some q := by
            intro i q hq
            unfold place at hq
            rw [hu] at hq
            exact hq
          obtain ⟨l', h9, h10⟩ := fill_sound hpl h6 h7 h8 h3
          refine ⟨.agg l'.toArray, ?_, conc_ag_mk h10⟩
          simp only [Array.toArray_toList] at h9
          simp only [Instr.build, Sem.run_bind, h5, Result.andThen_ok, run_und hf hu w, run_szOk hf hok w, Array.toList_map, h9, Sem.run_pure]
        · cases hag
      · cases hc
include hf hp in
theorem buildSlice_sound {rs : Operand → Bx} {e : E} {f : F} {ρ : Operand → Value} (hr : Opd ε rs e f ρ) {t : TypeId} {n : Nat} {ps : Array (Nat × Operand)} {g : E → F → Pth → Option AV} {r : AV}
    (hc : cBuildSlice W t n (bxps rs ps.toList) = .a g) (hv : g e f p = some r) : Mkd W P ε w (Instr.buildSlice t n (ps.map fun (i, x) => (i, ρ x))) p r := by
  unfold cBuildSlice at hc
  split at hc
  · rename_i el he
    have hu := elemOf_some he
    split at hc
    · rename_i z hz
      obtain ⟨i, hi, _, hzc, hzl⟩ := zeroN_some hz
      cases hok : okT W el with
      | false => rw [hok] at hc; cases hc
      | true =>
        rw [hok, bc_true] at hc
        cases hn : Nat.ble (n * szOf W el) 10000 with
        | false => rw [hn] at hc; cases hc
        | true =>
          rw [hn, bc_true] at hc; cases hc
          have hn := Nat.le_of_ble_eq_true hn
          obtain ⟨as, h1, h2⟩ := ob_eq hv
          obtain ⟨l, h3, h4⟩ := ob_eq h2
          obtain ⟨hsc, h4⟩ := bc_some h4
          cases h4
          obtain ⟨zv, h5, h6, _⟩ := zeroC_run (ε := ε) hf hzc w
          obtain ⟨h7, h8⟩ := evp_sound hr ps.toList as h1
          have hpl : ∀ i q, place W t i = some q → (fun i => some (i * szOf W el, szOf W el) : Nat → Option (Nat × Nat)) i = some q := by
            intro i q hq
            unfold place at hq
            rw [hu] at hq
            exact hq
          obtain ⟨l', h9, h10⟩ := fill_sound hpl (rep_conc h6 n) h7 h8 h3
          refine ⟨.slice (some (Ent.ad ⟨w.heap.size, 0, 0, 0⟩ 0)) n n, .cells l'.toArray el, 0, 0, ?_, ⟨l', el, concL_mono (Env.upd_ext _ hp) _ _ h10, rfl⟩, conc_sl_mk _ _ _ (Env.upd_same _ _ _)⟩
          have hzs : zv.cells.size = szOf W el := by rw [← hzl]; simpa using concL_length h6
          have hbig : ¬ (n * szOf W el > 2 ^ 24) := by omega
          have hcells : ∀ zc : Array Value, (n * szOf W el = 0 ∧ zc = #[] ∨ n * szOf W el ≠ 0 ∧ zc = zv.cells) → (Array.range (n * szOf W el)).map (fun i => zc[i % zc.size]!) = ((List.replicate n zv.cells.toList).flatten).toArray := by
            rintro zc (⟨h0, rfl⟩ | ⟨h0, rfl⟩)
            · rw [h0]
              have := flat_size zv.cells.toList n
              have h1 : ((List.replicate n zv.cells.toList).flatten).length = 0 := by rw [this]; simp [hzs, h0]
              rw [List.eq_nil_of_length_eq_zero h1]; simp
            · exact range_zero zv.cells n _ (by rw [hzs])
          have hc0 : n * szOf W el = 0 → _ := fun h => hcells #[] (.inl ⟨h, rfl⟩)
          have hc1 : n * szOf W el ≠ 0 → _ := fun h => hcells zv.cells (.inr ⟨h, rfl⟩)
          simp only [Instr.buildSlice, Sem.run_bind, run_und hf hu w, Result.andThen_ok, run_szOk hf hok w]
          rw [if_neg hbig]
          have h9' : Instr.fill (fun i => some (i * szOf W el, szOf W el)) ((List.replicate n zv.cells.toList).flatten).toArray (ps.toList.map fun (i, x) => (i, ρ x)) = some l'.toArray := h9
          by_cases h0 : n * szOf W el = 0
          · rw [if_pos h0]
            simp only [Sem.run_pure, Sem.run_bind, Result.andThen_ok, hc0 h0, Array.toList_map, h9', run_newRow]; rfl
          · rw [if_neg h0]
            simp only [Sem.run_pure, Sem.run_bind, Result.andThen_ok, h5, hc1 h0, Array.toList_map, h9', run_newRow]; rfl
    · cases hc
  · cases hc
end
end Go.AM
end
