/- Parts of the proof, joined: AmSim11 AmLit AmCut AmSim12 AmCall AmTree. -/
import Derived.Test.YtfhfilkicbdboaaGreatAm09
import Derived.Test.YtfhfilkicbdboaaGreatAm01
section
/- A call all of whose roads are taken. -/
noncomputable section
namespace Go.AM
open Go.RowKit (Below)

theorem pth_surj : ∀ p : Pth, ∃ n, pth n = p := by
  have key : ∀ (p : Pth) (k : Nat), natOf p < k → pthF k (natOf p) = p := by
    intro p
    induction p with
    | z =>
      intro k hk
      cases k with
      | zero => exact absurd hk (Nat.not_lt_zero _)
      | succ k => rfl
    | l p ih =>
      intro k hk
      cases k with
      | zero => exact absurd hk (Nat.not_lt_zero _)
      | succ k =>
        show pthF (k + 1) (2 * natOf p + 1) = _
        rw [pthF_succ]
        have e1 : Nat.mod (2 * natOf p) 2 = 0 := by show (2 * natOf p) % 2 = 0; omega
        have e2 : Nat.div (2 * natOf p) 2 = natOf p := by show (2 * natOf p) / 2 = natOf p; omega
        rw [e1, e2, ih k (by simp only [natOf] at hk; omega)]
        rfl
    | r p ih =>
      intro k hk
      cases k with
      | zero => exact absurd hk (Nat.not_lt_zero _)
      | succ k =>
        show pthF (k + 1) (2 * natOf p + 1 + 1) = _
        rw [pthF_succ]
        have e1 : Nat.mod (2 * natOf p + 1) 2 = 1 := by show (2 * natOf p + 1) % 2 = 1; omega
        have e2 : Nat.div (2 * natOf p + 1) 2 = natOf p := by show (2 * natOf p + 1) / 2 = natOf p; omega
        rw [e1, e2, ih k (by simp only [natOf] at hk; omega)]
        rfl
  exact fun p => ⟨natOf p, key p _ (Nat.lt_succ_self _)⟩

/-! what was known before -/
theorem DsR.back {ε ε' : Env} (e : Ext ε ε') : ∀ {ds : List D} {xs ys : List Deferred}, DsR ε ds xs → DsR ε' ds ys → DsR ε ds ys
  | [], _, _, _, h => h
  | d :: ds, xs, ys, h, k => by
    obtain ⟨x, xs', rfl, ⟨as, cap, h1, h2⟩, h3⟩ := h
    obtain ⟨y, ys', rfl, ⟨as', cap', k1, k2⟩, k3⟩ := k
    refine ⟨y, ys', rfl, ⟨as', cap', ?_, k2⟩, DsR.back e h3 k3⟩
    have := concL_mono e _ _ h1
    rw [k1] at this
    rw [Option.some.inj this]; exact h1
theorem ER.back {ε ε' : Env} (e : Ext ε ε') : ∀ {es : List (V × V × Nat)} {xs ys : List MapEntry}, ER ε es xs → ER ε' es ys → ER ε es ys
  | [], _, _, _, h => h
  | (k, v, n) :: es, xs, ys, h, q => by
    obtain ⟨x, xs', rfl, h1, h2, h3, h4⟩ := h
    obtain ⟨y, ys', rfl, q1, q2, q3, q4⟩ := q
    have e1 := conc_mono e _ _ h1
    have e2 := conc_mono e _ _ h2
    rw [q1] at e1
    rw [q2] at e2
    exact ⟨y, ys', rfl, by rw [Option.some.inj e1]; exact h1, by rw [Option.some.inj e2]; exact h2, q3, ER.back e h4 q4⟩
theorem OR.back {W : Wd} {ε ε' : Env} (e : Ext ε ε') {x : Ent} : ∀ {o : O} {b c : Obj}, OR W ε x o b → OR W ε' x o c → OR W ε x o c
  | .cells _, _, _, h, k => by
    obtain ⟨l, el, h1, h2⟩ := h
    obtain ⟨l', el', k1, k2⟩ := k
    have := concL_mono e _ _ h1
    rw [k1] at this
    cases this
    exact ⟨l, el', h1, k2⟩
  | .opn _ _, _, _, h, k => by
    obtain ⟨l, r, el, h1, h2⟩ := h
    obtain ⟨l', r', el', k1, k2⟩ := k
    have := concL_mono e _ _ h1
    rw [k1] at this
    cases this
    exact ⟨l, r', el', h1, k2⟩
  | .win _, _, _, h, k => by
    obtain ⟨_, l, r, el, h1, h2⟩ := h
    obtain ⟨p', l', r', el', k1, k2⟩ := k
    have := concL_mono e _ _ h1
    rw [k1] at this
    cases this
    exact ⟨p', l, r', el', h1, k2⟩
  | .map _ _, _, _, h, k => by
    obtain ⟨xs, h1, h2⟩ := h
    obtain ⟨ys, k1, k2⟩ := k
    exact ⟨ys, ER.back e h1 k1, k2⟩
  | .mit _ _ _ _, _, _, h, k => by
    obtain ⟨y, h1, h2⟩ := h
    obtain ⟨y', k1, k2⟩ := k
    have := e _ _ h1
    rw [k1] at this
    cases this
    exact ⟨y, h1, k2⟩
  | .loop .., _, _, h, k => by
    obtain ⟨h0, tm, y, h1, h2, h3⟩ := h
    obtain ⟨_, tm', y', k1, k2, k3⟩ := k
    have := e _ _ h2
    rw [k2] at this
    cases this
    refine ⟨h0, tm', y, ⟨k1.size, fun t v hv => ?_⟩, h2, k3⟩
    obtain ⟨x, g1, g2⟩ := h1.get t v hv
    obtain ⟨x', g3, g4⟩ := k1.get t v hv
    have := conc_mono e _ _ g1
    rw [g3] at this
    cases this
    exact ⟨x, g1, g4⟩
  | .dfr _, _, _, h, k => by
    obtain ⟨xs, h1, h2⟩ := h
    obtain ⟨ys, k1, k2⟩ := k
    exact ⟨ys, DsR.back e h1 k1, k2⟩
  | .dfr0, _, _, _, k => k

section
variable {W : Wd} {P : Program} {B : Nat} {zf : H} {ε ε' : Env} {h h' : H} {nx nx' : Nat} {w w' : World}
/-- all that is there may not be written -/
theorem WR.freeze (hw : WR W B zf ε h nx w) : WR W B h ε h nx w :=
  ⟨fun b x o hx ho => (by
    obtain ⟨k, h1, h2, _, h3⟩ := hw.blk b x o hx ho
    exact ⟨k, h1, h2, fun hn => (by rw [ho] at hn; cases hn), h3⟩),
   fun b b' x x' _ _ hb _ hn => (by rw [hn] at hb; cases hb), hw.fresh, hw.base⟩
theorem old_env (hw : WR W B zf ε h nx w) (E : EvB nx ε h ε' h') {b : Pth} (hb : (T.get b h).isSome = true) {y : Ent} (hy : ε' b = some y) : ε b = some y := by
  obtain ⟨n, rfl⟩ := pth_surj b
  have hn : n < nx := by
    rcases Nat.lt_or_ge n nx with h1 | h1
    · exact h1
    · rw [(hw.fresh n h1).2] at hb; cases hb
  cases he : ε (pth n) with
  | none => rw [(E.pend n hn he).1] at hy; cases hy
  | some x => rw [E.ext _ _ he] at hy; exact hy
theorem oldV_conc (hw : WR W B zf ε h nx w) (E : EvB nx ε h ε' h') {v : V} (hv : oldV h v = true) {x : Value} (hx : conc ε' v = some x) : conc ε v = some x := by
  have old : ∀ {b : Pth}, (match T.get b h with | some _ => true | none => false) = true → (T.get b h).isSome = true := fun {b} hb => by
    cases hg : T.get b h with
    | none => rw [hg] at hb; cases hb
    | some o => rfl
  cases v with
  | bl _ => exact hx
  | int _ _ => exact hx
  | p0 => exact hx
  | s0 => exact hx
  | m0 => exact hx
  | f0 => exact hx
  | i0 => exact hx
  | p b off => obtain ⟨y, hy, rfl⟩ := conc_p hx; exact conc_p_mk _ (old_env hw E (old hv) hy)
  | sl b off n c => obtain ⟨y, hy, rfl⟩ := conc_sl hx; exact conc_sl_mk _ _ _ (old_env hw E (old hv) hy)
  | so b off n => obtain ⟨y, hy, h1, h2, rfl⟩ := conc_so hx; exact conc_so_mk (old_env hw E (old hv) hy) h1 h2
  | sz b a o =>
    rw [conc] at hx ⊢
    obtain ⟨y, hy, e⟩ := Option.map_eq_some_iff.1 hx
    rw [old_env hw E (old hv) hy, ← e]; rfl
  | mp b => obtain ⟨y, hy, rfl⟩ := conc_mp hx; rw [conc, old_env hw E (old hv) hy]; rfl
  | _ => cases hv
theorem oldL_conc (hw : WR W B zf ε h nx w) (E : EvB nx ε h ε' h') : ∀ {c : List V} {l : List Value}, c.all (oldV h) = true → concL ε' c = some l → concL ε c = some l
  | [], l, _, hl => hl
  | v :: c, l, hc, hl => by
    rw [List.all_cons, Bool.and_eq_true] at hc
    obtain ⟨a, as, h1, h2, rfl⟩ := concL_cons hl
    exact concL_mk (oldV_conc hw E hc.1 h1) (oldL_conc hw E hc.2 h2)
/-- one new block of all that a call has made is taken over -/
theorem canon_wr (hw : WR W B zf ε h nx w) (E : EvB nx ε h ε' h') (hw' : WR W B h ε' h' nx' w') (hF : Frz h h h') {b : Pth} {y : Ent} {o : O} (hb : T.get b h = none) (ho : T.get b h' = some o) (hy : ε' b = some y)
    (hor : ∀ kk, OR W ε' y o kk → OR W ε y o kk) :
    WR W B zf (ε.upd (pth nx) y) (T.put (pth nx) (some o) h) (nx + 1) w' ∧ EvB nx ε h (ε.upd (pth nx) y) (T.put (pth nx) (some o) h) := by
  obtain ⟨f1, f2⟩ := hw.fresh nx (Nat.le_refl _)
  have hext := Env.upd_ext (ε := ε) (b := pth nx) y f1
  refine ⟨⟨fun p x q hx hq => ?_, fun p p' x x' hx hx' hp hp' hzp e => ?_, fun n hn => ?_, hw'.base⟩, hext, fun n hn hnone => ?_⟩
  · by_cases e : p = pth nx
    · subst e
      rw [T.get_put_same] at hq; cases hq
      rw [Env.upd_same] at hx; cases hx
      obtain ⟨kk, h1, h2, h3⟩ := hw'.blk b _ _ hy ho
      exact ⟨kk, h1, (hor kk h2).mono hext, fun _ => h3.1 hb, h3.2⟩
    · rw [T.get_put_ne _ _ fun z => e z.symm] at hq
      rw [Env.upd_ne _ _ e] at hx
      have hq' : T.get p h' = some q := by rw [hF p (by rw [hq]; rfl)]; exact hq
      obtain ⟨kk, h1, h2, h3⟩ := hw'.blk p x q (E.ext _ _ hx) hq'
      obtain ⟨k0, _, h4, h5⟩ := hw.blk p x q hx hq
      exact ⟨kk, h1, (OR.back E.ext h4 h2).mono hext, h5⟩
  · have clash : ∀ {p : Pth} {x : Ent}, p ≠ pth nx → (ε.upd (pth nx) y) p = some x → (T.get p (T.put (pth nx) (some o) h)).isSome = true → x.cb ≠ y.cb := by
      intro p x hne hx hp e
      rw [T.get_put_ne _ _ fun z => hne z.symm] at hp
      rw [Env.upd_ne _ _ hne] at hx
      have := (hw'.inj b p y x hy (E.ext _ _ hx) (by rw [ho]; rfl) (by rw [hF p hp]; exact hp) hb e.symm).symm
      subst this
      rw [hb] at hp; cases hp
    by_cases e1 : p = pth nx
    · by_cases e2 : p' = pth nx
      · rw [e1, e2]
      · subst e1
        rw [Env.upd_same] at hx; cases hx
        exact absurd e.symm (clash e2 hx' hp')
    · by_cases e2 : p' = pth nx
      · subst e2
        rw [Env.upd_same] at hx'; cases hx'
        exact absurd e (clash e1 hx hp)
      · rw [T.get_put_ne _ _ fun z => e1 z.symm] at hp
        rw [T.get_put_ne _ _ fun z => e2 z.symm] at hp'
        rw [Env.upd_ne _ _ e1] at hx
        rw [Env.upd_ne _ _ e2] at hx'
        exact hw.inj p p' x x' hx hx' hp hp' hzp e
  · have : pth n ≠ pth nx := fun e => by have := pth_inj e; omega
    rw [Env.upd_ne _ _ this, T.get_put_ne _ _ fun z => this z.symm]
    exact hw.fresh n (by omega)
  · have : pth n ≠ pth nx := fun e => by have := pth_inj e; omega
    rw [Env.upd_ne _ _ this, T.get_put_ne _ _ fun z => this z.symm]
    exact ⟨hnone, rfl⟩
theorem canon_ok (hw : WR W B zf ε h nx w) (E : EvB nx ε h ε' h') (hw' : WR W B h ε' h' nx' w') (hF : Frz h h h') {v : V} {x : Value} (hx : conc ε' v = some x) {r : XR} (hr : canon h nx v h' = some r) :
    ∃ ε2, WR W B zf ε2 (T.put (pth nx) (some r.o) h) (nx + 1) w' ∧ EvB nx ε h ε2 (T.put (pth nx) (some r.o) h) ∧ conc ε2 r.v = some x := by
  unfold canon at hr
  split at hr
  · rename_i b n
    split at hr
    · rename_i e c hb ho
      obtain ⟨hc, hr⟩ := bc_some hr
      cases hr
      obtain ⟨y, hy, h1, h2, rfl⟩ := conc_so hx
      obtain ⟨k1, k2⟩ := canon_wr hw E hw' hF hb ho hy (fun kk hk => by
        obtain ⟨l, r, el, g1, g2⟩ := hk
        exact ⟨l, r, el, oldL_conc hw E hc g1, g2⟩)
      exact ⟨_, k1, k2, conc_so_mk (Env.upd_same _ _ _) h1 h2⟩
    · cases hr
  · rename_i b n k
    split at hr
    · rename_i c hb ho
      obtain ⟨hc, hr⟩ := bc_some hr
      cases hr
      obtain ⟨y, hy, rfl⟩ := conc_sl hx
      obtain ⟨k1, k2⟩ := canon_wr hw E hw' hF hb ho hy (fun kk hk => by
        obtain ⟨l, el, g1, g2⟩ := hk
        exact ⟨l, el, oldL_conc hw E hc g1, g2⟩)
      exact ⟨_, k1, k2, conc_sl_mk _ _ _ (Env.upd_same _ _ _)⟩
    · cases hr
  · rename_i b n k kd i
    split at hr
    · rename_i c hb ho
      obtain ⟨hc, hr⟩ := bc_some hr
      cases hr
      obtain ⟨l0, h1, rfl⟩ := conc_tu hx
      obtain ⟨a, as, h2, h3, rfl⟩ := concL_cons h1
      obtain ⟨y, hy, rfl⟩ := conc_sl h2
      obtain ⟨k1, k2⟩ := canon_wr hw E hw' hF hb ho hy (fun kk hk => by
        obtain ⟨l, el, g1, g2⟩ := hk
        exact ⟨l, el, oldL_conc hw E hc g1, g2⟩)
      refine ⟨_, k1, k2, conc_tu_mk (concL_mk (conc_sl_mk _ _ _ (Env.upd_same _ _ _)) ?_)⟩
      exact h3
    · cases hr
  · cases hr
theorem eqXR_eq {x y : XR} (h : eqXR x y = true) : x = y := by
  obtain ⟨v, o⟩ := x
  obtain ⟨v', o'⟩ := y
  obtain ⟨h1, h2⟩ := bc_and (show bc _ _ _ = true from h)
  have e1 := eqVV_eq h1
  simp only at e1
  subst e1
  congr 1
  split at h2
  · rename_i a b e2 e3
    simp only at e2 e3
    subst e2; subst e3
    rw [eqVs_eq h2]
  · rename_i e a e' b e2 e3
    simp only at e2 e3
    subst e2; subst e3
    obtain ⟨h3, h4⟩ := bc_and h2
    rw [eqVs_eq h4, Nat.eq_of_beq_eq_true h3]
  · cases h2
end
section
variable {W : Wd} {P : Program} {B : Nat} {f0 : FuncId} {cs0 : List Frame} {bB : Nat} {c : Cx}
theorem exAll_post (G : Good W P) (hcP : c.P = W) {b : Nat} (hz : ZOk c.z b) (hex : ∀ n ef, c.ex n = some ef → ExOk W P ef n) {nx0 : Nat} : ∀ (k : Nat) {r : AM.R} {x : XR} {fr : Frame} {frs : List Frame} {w : World} {ε : Env} {h : H} {nx : Nat}, b ≤ nx → Post W P B f0 cs0 bB c.z r fr frs w ε h nx → exAll c nx0 k r = some x →
    ∃ v h' nx', canon c.z nx0 v h' = some x ∧ Ends W P B f0 cs0 bB c.z v h' nx' fr frs w ε h nx
  | 0, r, x, fr, frs, w, ε, h, nx, _, hp, he => by cases he
  | k + 1, r, x, fr, frs, w, ε, h, nx, hbn, hp, he => by
    cases r with
    | go s => cases he
    | bad n => cases he
    | done v h' nx' => exact ⟨v, h', nx', he, hp⟩
    | many l =>
      obtain ⟨s, hl, hg⟩ := hp
      have hn : nx ≤ s.nx := by obtain ⟨_, _, _, _, _, _, _, _, _, g⟩ := hg; exact g
      have hpost : Post W P B f0 cs0 bB c.z (run2 c 13 s) fr frs w ε h nx := Goes.then hg fun hs => run2_post G hcP hex 13 (hz.mono (Nat.le_trans hbn hn)) hs
      cases l with
      | nil => cases hl
      | cons s0 ss =>
        obtain ⟨x0, h1, h2⟩ := ob_eq (show ob (exAll c nx0 k (run2 c 13 s0)) (fun x => bc (ss.all fun s' => match exAll c nx0 k (run2 c 13 s') with | some y => eqXR x y | none => false) (some x) none) = some x from he)
        obtain ⟨h3, h4⟩ := bc_some h2
        cases h4
        have hone : exAll c nx0 k (run2 c 13 s) = some x := by
          rcases List.mem_cons.1 hl with rfl | hl
          · exact h1
          · have h5 := List.all_eq_true.1 h3 s hl
            cases h6 : exAll c nx0 k (run2 c 13 s) with
            | none => rw [h6] at h5; cases h5
            | some y => rw [h6] at h5; rw [eqXR_eq h5]
        exact exAll_post G hcP hz hex k hbn hpost hone
theorem explore_ok (G : Good W P) (n : FuncId) : ExOk W P (explore W n) n := by
  refine ⟨fun as h nx r hr => ?_, fun B zf ε as args h nx w r hw ha hr cs => ?_⟩
  · unfold explore at hr
    cases h with
    | e => cases hr
    | n v l r' =>
      simp only [] at hr
      cases hb : bodyOf W n with
      | none =>
        have : enter W n as .normal [] (T.n v l r') nx = .bad 5 := by unfold enter; rw [hb]; rfl
        rw [this] at hr; cases hr
      | some c => exact ⟨c, rfl⟩
  · have he : ∃ s, enter W n as .normal [] h nx = .go s ∧ exAll ⟨W, noEx, h⟩ nx 12 (run2 ⟨W, noEx, h⟩ 13 s) = some r := by
      unfold explore at hr
      cases h with
      | e => cases hr
      | n v l r' =>
        simp only [] at hr
        split at hr
        · rename_i s hs; exact ⟨s, hs, hr⟩
        · cases hr
    obtain ⟨s, he, hx⟩ := he
    have hpost := enter_post (P := P) (f0 := n) (cs0 := cs) (bB := nx) (z := h) (kd := .normal) (cs := []) (frs := cs) G ha hw.freeze ⟨rfl, rfl, Nat.le_refl _⟩
    rw [he] at hpost
    have hno : ∀ n ef, (⟨W, noEx, h⟩ : Cx).ex n = some ef → ExOk W P ef n := fun n ef e => by cases e
    have hz : ZOk (⟨W, noEx, h⟩ : Cx).z nx := fun m hm => (hw.fresh m hm).2
    have hp2 : Post W P B n cs nx h (run2 ⟨W, noEx, h⟩ 13 s) (Frame.enter P n args.toArray (kdOf .normal)) cs w ε h nx := Goes.then hpost fun hs => run2_post (c := ⟨W, noEx, h⟩) G rfl hno 13 (hz.mono (by obtain ⟨_, _, _, _, _, _, _, _, _, g⟩ := hpost; exact g)) hs
    obtain ⟨v, h', nx', h1, ε', fr', w', x, g1, g2, g3, g4, g5, g6, g7, g8, g9⟩ := exAll_post (c := ⟨W, noEx, h⟩) G rfl hz hno 12 (Nat.le_refl _) hp2 hx
    obtain ⟨ε2, k1, k2, k3⟩ := canon_ok hw g6 g5 g8 g4 h1
    exact ⟨ε2, w', fr', x, g1, g3, k1, g7, k3, k2⟩
end
end Go.AM
end
end
section
/- Words in which the states of a long run are written down. -/
noncomputable section
namespace Go.AM
def bT : V := .bl true
def bF : V := .bl false
def i6 (n : Nat) : V := .int .i64 (.ofNat n)
def u3 (n : Nat) : V := .int .u32 (.ofNat n)
def vp (b off : Nat) : V := .p (pth b) off
def sl (b off n c : Nat) : V := .sl (pth b) off n c
def so (b off n : Nat) : V := .so (pth b) off n
def sz (b alt off : Nat) : V := .sz (pth b) alt off
def un : V := undef
def mkF : List (Nat × V) → F
  | [] => .e
  | (i, v) :: l => T.put (pth i) (some v) (mkF l)
def mkH : List (Nat × O) → H
  | [] => .e
  | (i, o) :: l => T.put (pth i) (some o) (mkH l)
/-- a part of a text, by the bits of a number -/
def catC : Nat → Nat → Code → Code
  | 0, _, c => c
  | k + 1, n, c => bc (Nat.beq n 1) c (match c with
    | .seq a b => catC k (n / 2) (bc (Nat.beq (n % 2) 0) a b)
    | .cond _ a b => catC k (n / 2) (bc (Nat.beq (n % 2) 0) a b)
    | .block _ b => catC k (n / 2) b
    | .loop b => catC k (n / 2) b
    | .scope b => catC k (n / 2) b
    | .rangeFunc _ _ a b => catC k (n / 2) (bc (Nat.beq (n % 2) 0) a b)
    | c => c)
def codeAt (P : Wd) (n : FuncId) (p : Nat) : Code := match bodyOf P n with | some c => catC 200 p c | none => .skip
def dropP : Nat → List PI → List PI
  | 0, l => l
  | n + 1, l => match l with | [] => [] | _ :: xs => dropP n xs
def planAt (c : Cx) (n : FuncId) (p i : Nat) : List PI := match codeAt c.P n p with
  | .region _ ops draw => dropP i (plan c.P n ops draw)
  | _ => []
/-- a state in whose memory only the blocks of another one are left -/
def cutTo (t : S) (r : R) : R := match r with
  | .go s => .go ⟨s.f, s.k, s.m, s.cs, T.keep t.h s.h, s.nx⟩
  | r => r
end Go.AM
end
end
section
/- A long run in parts. -/
noncomputable section
namespace Go.AM
def headPlan (k : List It) : Bool := match k with
  | [] => false
  | i :: _ => match i with
    | .plan _ _ => true
    | _ => false
/-- steps until no region is under way in the frame that runs -/
def settle (c : Cx) (n : Nat) : R → R :=
  Nat.rec (motive := fun _ => R → R) (fun r => r) (fun _ ih r => R.rec (motive := fun _ => R) (fun s => bc (headPlan s.k) (ih (step c s)) (.go s)) .many (fun v h nx => .done v h nx) .bad r) n
def isO (o : Option O) : Bool := match o with | some _ => true | none => false
def okE (h : H) : List V → Bool
  | [] => true
  | v :: vs => bc (match v with
    | .p b off => bc (Nat.beq off 0) (isO (T.get b h)) true
    | .sl b off _ _ => bc (Nat.beq off 0) (isO (T.get b h)) true
    | .mp b => isO (T.get b h)
    | _ => true) (okE h vs) false
def okKs (h : H) (k : List It) : Bool := match k with
  | [] => true
  | i :: _ => match i with
    | .plan _ e => okE h e
    | _ => true
def okFr (h : H) : List Fr → Bool
  | [] => true
  | c :: cs => bc (okKs h c.k) (okFr h cs) false
/-- nothing that waits is lost -/
def okCut (s : S) : Bool := bc (headPlan s.k) false (okFr s.h s.cs)

/-- a run in parts that ends with a value -/
inductive Run (c : Cx) : S → V → Prop where
  | done {s : S} {v : V} {h : H} {nx : Nat} (n : Nat) (hr : run2 c n s = .done v h nx) : Run c s v
  | cut {s s1 : S} {v : V} (n : Nat) (hr : cutTo s1 (settle c 200 (run2 c n s)) = .go s1) (hok : okCut s1 = true) (hn : Run c s1 v) : Run c s v
/-- the value at the end -/
def doneV (r : R) : Option V := match r with | .done v _ _ => some v | _ => none
theorem Run.ofDone {c : Cx} {s : S} {v : V} (n : Nat) (hr : doneV (run2 c n s) = some v) : Run c s v := by
  unfold doneV at hr
  split at hr
  · rename_i v' h nx e
    cases hr
    exact .done n e
  · cases hr
end Go.AM
end
end
section
/- A long run in parts; what a closed call comes to. -/
noncomputable section
namespace Go.AM
open Go.RowKit (Below)

theorem a_val {W : Wd} {rs : Operand → Bx} {op : Op} {g : E → F → Pth → Option AV} (hc : cOp W rs op = .a g) {e : E} {f : F} {p : Pth} {r : AV} (hv : g e f p = some r) : r.v = .p p 0 ∨ (∃ n c, r.v = .sl p 0 n c) ∨ r.v = .mp p := by
  have hk := cOp_kin W rs op
  rw [hc] at hk
  cases op with
  | alloc t =>
    simp only [cOp, cAlloc] at hc
    split at hc
    · cases hc; cases hv; exact .inl rfl
    · cases hc
  | box t x =>
    simp only [cOp, cBox, bx_eta] at hc; cases hc
    obtain ⟨u, h1, h2⟩ := ob_eq hv
    obtain ⟨h3, h4⟩ := bc_some h2
    cases h4; exact .inl rfl
  | buildSlice t n ps =>
    simp only [cOp, cBuildSlice] at hc
    split at hc
    · split at hc
      · rename_i el _ _ z _
        cases h1 : okT W el with
        | false => rw [h1] at hc; cases hc
        | true =>
          rw [h1, bc_true] at hc
          cases h2 : Nat.ble (n * szOf W el) 10000 with
          | false => rw [h2] at hc; cases hc
          | true =>
            rw [h2, bc_true] at hc; cases hc
            obtain ⟨u, h3, h4⟩ := ob_eq hv
            obtain ⟨l, h5, h6⟩ := ob_eq h4
            obtain ⟨h7, h8⟩ := bc_some h6
            cases h8; exact .inr (.inl ⟨_, _, rfl⟩)
      · cases hc
    · cases hc
  | makeMap t r =>
    cases r with
    | none => cases hc; cases hv; exact .inr (.inr rfl)
    | some _ => cases hc
  | makeSlice t l c =>
    simp only [cOp, cMakeSlice, bx_eta] at hc
    split at hc
    · split at hc
      · cases hc
        obtain ⟨u, h1, h2⟩ := ob_eq hv
        obtain ⟨k, n, rfl, h3⟩ := onN_some h2
        obtain ⟨u', h4, h5⟩ := ob_eq h3
        obtain ⟨k', n', rfl, h6⟩ := onN_some h5
        obtain ⟨h7, h8⟩ := bc_some h6
        obtain ⟨h9, h10⟩ := bc_some h8
        cases h10; exact .inr (.inl ⟨_, _, rfl⟩)
      · cases hc
    · cases hc
  | call c =>
    cases hcal : c.callee with
    | value x => simp [Kin, kd, kinOf, hcal] at hk
    | invoke _ _ => simp [Kin, kd, kinOf, hcal] at hk
    | builtin b => cases b <;> simp [Kin, kd, kinOf, hcal] at hk
  | _ => simp [Kin, kd, kinOf] at hk
theorem okE_mem {h : H} : ∀ {l : List V} {v : V}, okE h l = true → v ∈ l → ∀ p, (v = .p p 0 ∨ (∃ n c, v = .sl p 0 n c) ∨ v = .mp p) → (T.get p h).isSome = true
  | u :: l, v, he, hv, p, hp => by
    obtain ⟨h1, h2⟩ := bc_and (show bc _ (okE h l) false = true from he)
    rcases List.mem_cons.1 hv with rfl | hv
    · have iso : ∀ {b : Pth}, isO (T.get b h) = true → (T.get b h).isSome = true := fun {b} hb => by
        cases hg : T.get b h with
        | none => rw [hg] at hb; cases hb
        | some o => rfl
      rcases hp with rfl | ⟨n, c, rfl⟩ | rfl
      · exact iso h1
      · exact iso h1
      · exact iso h1
    · exact okE_mem h2 hv p hp
theorem keep_some {m h : H} {p : Pth} {o : O} (hk : T.get p (T.keep m h) = some o) : T.get p h = some o := by
  rw [T.get_keep] at hk
  split at hk
  · exact hk
  · cases hk
theorem keep_eq {m h : H} {p : Pth} (hk : (T.get p (T.keep m h)).isSome = true) : T.get p (T.keep m h) = T.get p h := by
  rw [T.get_keep] at hk ⊢
  split
  · rfl
  · rename_i hn; rw [if_neg hn] at hk; cases hk

section
variable {W : Wd} {P : Program} {B : Nat} {z : H} {f0 : FuncId} {cs0 : List Frame} {c : Cx} {fr : Frame} {frs : List Frame} {w : World} {ε : Env}
theorem WR.cut {zf : H} {h : H} {nx : Nat} (hw : WR W B zf ε h nx w) (m : H) : WR W B zf ε (T.keep m h) nx w := by
  refine ⟨fun b x o hx ho => hw.blk b x o hx (keep_some ho), fun b b' x x' hx hx' hb hb' hzb e => ?_, fun n hn => ?_, hw.base⟩
  · obtain ⟨o, ho⟩ := Option.isSome_iff_exists.1 hb
    obtain ⟨o', ho'⟩ := Option.isSome_iff_exists.1 hb'
    exact hw.inj b b' x x' hx hx' (by rw [keep_some ho]; rfl) (by rw [keep_some ho']; rfl) hzb e
  · obtain ⟨h1, h2⟩ := hw.fresh n hn
    refine ⟨h1, ?_⟩
    cases hk : T.get (pth n) (T.keep m h) with
    | none => rfl
    | some o => rw [keep_some hk] at h2; cases h2
theorem SuspR.cut {h : H} {b b' : Nat} {cf : Fr} (R : SuspR W ε h b b' cf.f cf.k cf.m fr) (m : H) (hok : okKs (T.keep m h) cf.k = true) : SuspR W ε (T.keep m h) b b' cf.f cf.k cf.m fr := by
  obtain ⟨f, k, mm⟩ := cf
  cases R with
  | loop b y k' t' mt mode hk hy ht kr rel dom => exact .loop b y k' t' mt mode hk hy ht kr rel dom
  | back mt mode hk rel dom => exact .back mt mode hk rel dom
  | call g L ops draw A i rest M td al F0 tm0 k' t' r loud =>
    obtain ⟨mt, mode, hk, ht, kr, rgn, ord, reg⟩ := r
    simp only at hk mt kr rgn reg hok
    rw [hk] at hok
    have hok : okE (T.keep m h) (A.map (·.2)) = true := hok
    refine .call g L ops draw A i rest M td al F0 tm0 k' t' ⟨mt, mode, hk, ht, kr, rgn, ord, ⟨reg.ord, reg.sch, reg.sub, reg.nd, reg.rel0, reg.dom, reg.fold, reg.size, reg.tms, reg.done, fun a x b hab hxM => ?_, reg.dist, reg.rng⟩⟩ loud
    obtain ⟨o, run, h1, h2, h3, h4⟩ := reg.pend a x b hab hxM
    refine ⟨o, run, h1, h2, h3, fun hr => ?_⟩
    obtain ⟨rs, e, f', h5, h6⟩ := h4 hr
    refine ⟨rs, e, f', h5, ?_⟩
    rcases h6 with h6 | ⟨k2, h7, h8⟩ | ⟨k2, n, ob, h7, h8, h9, h10, h11⟩
    · exact .inl h6
    · exact .inr (.inl ⟨k2, h7, fun ha => ha.elim⟩)
    · refine .inr (.inr ⟨k2, n, ob, h7, h8, h9, ?_, h11⟩)
      have hm : x.2 ∈ A.map (·.2) := List.mem_map.2 ⟨x, by rw [hab]; simp, rfl⟩
      rw [keep_eq (okE_mem hok hm _ (a_val h7 h9))]; exact h10
theorem StackR.cut {h : H} (mh : H) : ∀ {cs : List Fr} {b : Nat} {m : Mt} {frs : List Frame}, StackR W f0 cs0 0 ε h b m cs frs → okFr (T.keep mh h) cs = true → StackR W f0 cs0 0 ε (T.keep mh h) b m cs frs
  | [], _, _, _, H, _ => H
  | c :: cs, b, m, frs, H, hok => by
    obtain ⟨fr, frs', b', h2, h3, h4, h6, h5⟩ := H
    obtain ⟨h7, h8⟩ := bc_and (show bc _ _ _ = true from hok)
    exact ⟨fr, frs', b', h2, h3, h4.cut mh h7, h6, h5.cut mh h8⟩
theorem SimR.cut {s : S} (hs : SimR W B f0 cs0 0 z s fr frs w ε) (mh : H) (hok : okCut ⟨s.f, s.k, s.m, s.cs, T.keep mh s.h, s.nx⟩ = true) : SimR W B f0 cs0 0 z ⟨s.f, s.k, s.m, s.cs, T.keep mh s.h, s.nx⟩ fr frs w ε := by
  obtain ⟨f, k, m, cs, h, nx⟩ := s
  obtain ⟨b0, hb, hw, hfr, hst⟩ := hs.ex
  simp only at hb hw hfr hst hok
  unfold okCut at hok
  simp only at hok
  cases hh : headPlan k with
  | true => rw [hh] at hok; cases hok
  | false =>
    rw [hh, bc_false] at hok
    refine ⟨b0, hb, hw.cut mh, ?_, hst.cut mh hok⟩
    cases hfr with
    | items mt mode kr rel dom => exact .items mt mode kr rel dom
    | back mt mode hk rel dom => exact .back mt mode hk rel dom
    | reg g L ops draw A rest M td al F0 tm0 k' t' r =>
      have := r.hk
      subst this
      cases hh

theorem settle_post (G : Good W P) (hcP : c.P = W) (hz : ZOk c.z 0) (hex : ∀ n ef, c.ex n = some ef → ExOk W P ef n) : ∀ (n : Nat) {r : AM.R} {fr : Frame} {frs : List Frame} {w : World} {ε : Env} {h : H} {nx : Nat}, Post W P B f0 cs0 0 c.z r fr frs w ε h nx →
    Post W P B f0 cs0 0 c.z (settle c n r) fr frs w ε h nx
  | 0, _, _, _, _, _, _, _, hp => hp
  | n + 1, r, fr, frs, w, ε, h, nx, hp => by
    cases r with
    | go s =>
      show Post W P B f0 cs0 0 c.z (bc (headPlan s.k) (settle c n (step c s)) (.go s)) _ _ _ _ _ _
      cases hh : headPlan s.k with
      | false => exact hp
      | true =>
        rw [bc_true]
        exact Goes.then hp fun hs => settle_post G hcP hz hex n (step_post G hcP hex (hz.mono (Nat.zero_le _)) hs)
    | many l => exact hp
    | done v h nx => exact hp
    | bad k => exact hp
theorem Run.ends (G : Good W P) (hcP : c.P = W) (hz : ZOk c.z 0) (hex : ∀ n ef, c.ex n = some ef → ExOk W P ef n) {s : S} {v : V} (hr : Run c s v) : ∀ {fr : Frame} {frs : List Frame} {w : World} {ε : Env}, SimR W B f0 cs0 0 c.z s fr frs w ε →
    ∃ ε' fr' w' x, Steps P (lone fr frs w) (lone fr' cs0 w') ∧ fr'.fn = f0 ∧ fr'.leaving P w' (.returned x) ∧ conc ε' v = some x ∧ Below B w w' := by
  induction hr with
  | done n hr =>
    intro fr frs w ε hs
    have hp := run2_post G hcP hex n (hz.mono (Nat.zero_le _)) hs
    rw [hr] at hp
    obtain ⟨ε', fr', w', x, g1, g2, g3, g4, _, _, g7, _⟩ := hp
    exact ⟨ε', fr', w', x, g1, g2, g3, g4, g7⟩
  | @cut s s1 v n hr hok hn ih =>
    intro fr frs w ε hs
    have hp := settle_post G hcP hz hex 200 (run2_post G hcP hex n (hz.mono (Nat.zero_le _)) hs)
    cases hq : settle c 200 (run2 c n s) with
    | go s2 =>
      rw [hq] at hp hr
      have hr : R.go ⟨s2.f, s2.k, s2.m, s2.cs, T.keep s1.h s2.h, s2.nx⟩ = .go s1 := hr
      injection hr with hr
      obtain ⟨ε', fr', cs', w', g1, g2, g3, g4, g5, g6⟩ := hp
      have hsim := g2.cut s1.h (by rw [hr]; exact hok)
      rw [hr] at hsim
      obtain ⟨ε2, fr2, w2, x, k1, k2, k3, k4, k5⟩ := ih hsim
      exact ⟨ε2, fr2, w2, x, g1.trans k1, k2, k3, k4, g4.trans k5⟩
    | many l => rw [hq] at hr; cases hr
    | done v h nx => rw [hq] at hr; cases hr
    | bad k => rw [hq] at hr; cases hr
/-- a closed call -/
theorem Run.calls (G : Good W P) (X : List Nat) {n : FuncId} {s : S} {v : V} (he : enter W n [] .normal [] .e 0 = .go s) (hr : Run (cx W X) s v) (w : World) {x : Value} (hv : ∀ ε, conc ε v = some x) :
    Calls P n #[] w fun e w' => e = .returned x ∧ Below w.heap.size w w' := by
  intro cs
  have hex : ∀ n ef, (cx W X).ex n = some ef → ExOk W P ef n := by
    intro n ef hef
    have hef : bc (memN n X) (some (explore W n)) none = some ef := hef
    obtain ⟨_, h2⟩ := bc_some hef
    cases h2
    exact explore_ok G n
  have hz : ZOk (cx W X).z 0 := fun n _ => T.get_e _
  have hw0 : WR W w.heap.size .e (fun _ => none) .e 0 w := ⟨fun b x o hx => (by cases hx), fun b b' x x' hx => (by cases hx), fun n _ => ⟨rfl, T.get_e _⟩, Nat.le_refl _⟩
  have hp := enter_post (P := P) (f0 := n) (cs0 := cs) (bB := 0) (z := .e) (kd := .normal) (cs := []) (frs := cs) (as := []) (args := []) G rfl hw0 ⟨rfl, rfl, Nat.le_refl _⟩
  rw [he] at hp
  obtain ⟨ε1, fr1, cs1, w1, g1, g2, _, g4, _⟩ := hp
  obtain ⟨ε', fr', w', x', k1, k2, k3, k4, k5⟩ := Run.ends G rfl hz hex hr g2
  rw [hv ε'] at k4
  cases k4
  exact ⟨.returned x, w', fr', ⟨rfl, g4.trans k5⟩, g1.trans k1, k2, k3⟩
/-- a call whose arguments lie in memory that it does not write: what the machine leaves is what the model leaves -/
theorem run_frozen (G : Good W P) {n : FuncId} {as : List V} {h : H} {nx : Nat} {s : S} {v : V} {h' : H} {nx' : Nat} {k : Nat} (he : enter W n as .normal [] h nx = .go s) (hr : run2 ⟨W, noEx, h⟩ k s = .done v h' nx')
    {ε : Env} {w : World} {args : List Value} (hw : WR W w.heap.size h ε h nx w) (ha : concL ε as = some args) :
    Calls P n args.toArray w fun e w' => ∃ ε' x, e = .returned x ∧ conc ε' v = some x ∧ WR W w.heap.size h ε' h' nx' w' ∧ Ext ε ε' ∧ Below w.heap.size w w' := by
  intro cs
  have hpost := enter_post (P := P) (f0 := n) (cs0 := cs) (bB := nx) (z := h) (kd := .normal) (cs := []) (frs := cs) G ha hw ⟨rfl, rfl, Nat.le_refl _⟩
  rw [he] at hpost
  have hno : ∀ n ef, (⟨W, noEx, h⟩ : Cx).ex n = some ef → ExOk W P ef n := fun n ef e => (by cases e)
  have hz : ZOk (⟨W, noEx, h⟩ : Cx).z nx := fun m hm => (hw.fresh m hm).2
  have hp2 : Post W P w.heap.size n cs nx h (run2 ⟨W, noEx, h⟩ k s) (Frame.enter P n args.toArray (kdOf .normal)) cs w ε h nx := Goes.then hpost fun hs => run2_post (c := ⟨W, noEx, h⟩) G rfl hno k (hz.mono (by obtain ⟨_, _, _, _, _, _, _, _, _, g⟩ := hpost; exact g)) hs
  rw [hr] at hp2
  obtain ⟨ε', fr', w', x, g1, g2, g3, g4, g5, g6, g7, g8, g9⟩ := hp2
  exact ⟨.returned x, w', fr', ⟨ε', x, rfl, g4, g5, g6.ext, g7⟩, g1, g2, g3⟩
end
end Go.AM
end
end
section
/- A call taken by its contract; memory that is given. -/
noncomputable section
namespace Go.AM
open Go.RowKit (Below)

/-- the call that stands next -/
def nextCall (s : S) : Option (FuncId × List V) := match s.k with
  | .plan (.mk gd _ op _ :: _) e :: _ => match op with
    | .call g => bc (match gd with | .yes => true | .g q w => (match q e s.f with | some v => wantB v w | none => false) | .no => false)
        (match g e s.f with | some (.fn n as) => some (n, as) | _ => none) none
    | _ => none
  | _ => none
/-- the call that stands next has come to a value -/
def callWith (s : S) (v : V) (h : H) (nx : Nat) : R := match s.k with
  | .plan (.mk _ d _ re :: l) e :: k => after re d l k e s.f s.m s.cs h nx v
  | _ => .bad 0

section
variable {W : Wd} {P : Program} {B : Nat} {f0 : FuncId} {cs0 : List Frame} {bB : Nat} {z : H} {fr : Frame} {frs : List Frame} {w : World} {ε : Env}
/-- what a call comes to -/
def Sound (W : Wd) (P : Program) (B : Nat) (z : H) (n : FuncId) (ε : Env) (h : H) (nx : Nat) (w : World) (args : Array Value) (cs : List Frame) (v : V) (h' : H) (nx' : Nat) : Prop :=
  ∃ ε' w' fr x, Steps P (lone (Frame.enter P n args .normal) cs w) (lone fr cs w') ∧ fr.leaving P w' (.returned x) ∧ WR W B z ε' h' nx' w' ∧ Below B w w' ∧ conc ε' v = some x ∧ EvB nx ε h ε' h'
theorem call_core (G : Good W P) {s : S} (hs : SimR W B f0 cs0 bB z s fr frs w ε) {n : FuncId} {as : List V} (hn : nextCall s = some (n, as)) (hbody : ∃ c, bodyOf W n = some c) {Q : V → H → Nat → Env → World → Prop}
    (hsound : ∀ ε1 w1 args, Ext ε ε1 → Below B w w1 → WR W B z ε1 s.h s.nx w1 → concL ε1 as = some args → ∀ cs, ∃ v h' nx' ε2 w2 fr2 x, Q v h' nx' ε2 w2 ∧ s.nx ≤ nx' ∧ Frz z s.h h' ∧ Steps P (lone (Frame.enter P n args.toArray .normal) cs w1) (lone fr2 cs w2) ∧ fr2.leaving P w2 (.returned x) ∧ WR W B z ε2 h' nx' w2 ∧ Below B w1 w2 ∧ conc ε2 v = some x ∧ EvB s.nx ε1 s.h ε2 h') :
    ∃ v h' nx' fr1 frs1 w2 ε2, Q v h' nx' ε2 w2 ∧ Steps P (lone fr frs w) (lone fr1 frs1 w2) ∧ EvB bB ε s.h ε2 h' ∧ Below B w w2 ∧ Frz z s.h h' ∧ s.nx ≤ nx' ∧ WR W B z ε2 h' nx' w2 ∧
      ∀ B' z', WR W B' z' ε2 h' nx' w2 → Post W P B' f0 cs0 bB z' (callWith s v h' nx') fr1 frs1 w2 ε2 h' nx' := by
  obtain ⟨f, k, m, cs, h, nx⟩ := s
  obtain ⟨b0, hb, hw, hfr, hst⟩ := hs.ex
  simp only at hb hw hfr hst hsound ⊢
  cases hfr with
  | items mt mode kr rel dom =>
    cases k with
    | nil => cases hn
    | cons i k => cases i <;> first | (cases hn; done) | exact kr.elim
  | back mt mode hk rel dom => subst hk; cases hn
  | reg g L ops draw A rest M td al F0 tm0 k' t' r =>
    have hk := r.hk
    subst hk
    cases rest with
    | nil => cases hn
    | cons i rest =>
      obtain ⟨hlt, hni⟩ := r.reg.next_not r.rgn
      have ho : ∃ o, g.ops[i]? = some o := by
        rw [r.rgn.en, ← r.rgn.eo] at hlt
        exact ⟨_, List.getElem?_eq_getElem hlt⟩
      obtain ⟨o, ho⟩ := ho
      have hpi := comp_pi (W := W) m.fn (A := A) ho
      rw [planR_cons m.fn g A i rest undef, hpi, r.rgn.eP] at hn
      have hcw : ∀ v h' nx', callWith ⟨f, .plan (planR W m.fn g A (i :: rest)) (A.map (·.2)) :: k', m, cs, h, nx⟩ v h' nx' =
          after (mapL (g.rk (o.dst :: A.map fun x => g.dst x.1) (i :: A.map (·.1))) (g.again (A.map (·.1)) i)) (cKeep (ks W m.fn) o.dst) (planR W m.fn g ((i, v) :: A) rest) k' (A.map (·.2)) f m cs h' nx' v := by
        intro v h' nx'
        rw [planR_cons m.fn g A i rest v, hpi]; rfl
      cases hc : cOp W (cOpd (A.map fun x => g.dst x.1)) o.op with
      | call gq =>
        rw [hc] at hn
        obtain ⟨hgb, hn2⟩ := bc_some (show bc _ (match gq (A.map (·.2)) f with | some (.fn n as) => some (n, as) | _ => none) none = some (n, as) from hn)
        have hv : gq (A.map (·.2)) f = some (.fn n as) := by
          cases hg : gq (A.map (·.2)) f with
          | none => rw [hg] at hn2; cases hn2
          | some tg =>
            rw [hg] at hn2
            cases tg with
            | fn n' as' => cases hn2; rfl
            | yl b as' => cases hn2
        have hgd : GdR g A F0 o true := by
          unfold cGuard at hgb
          unfold GdR
          cases hgd : o.guard with
          | none => rfl
          | some jw =>
            obtain ⟨j, want⟩ := jw
            rw [hgd] at hgb
            simp only [] at hgb ⊢
            cases hp : getL j g.ops with
            | none => rw [hp] at hgb; cases hgb
            | some p =>
              rw [hp] at hgb
              simp only [] at hgb
              cases hd : p.dst with
              | none => rw [hd] at hgb; cases hgb
              | some d =>
                rw [hd] at hgb
                simp only [] at hgb
                obtain ⟨q, h1, h2⟩ := cOpd_eval g A f (.tmp d)
                rw [h1] at hgb
                simp only [bx] at hgb
                have h3 : q (A.map (·.2)) f = slot g A F0 d := h2.trans (r.reg.fsame r.rgn d)
                rw [h3] at hgb
                cases hsl : slot g A F0 d with
                | none => rw [hsl] at hgb; cases hgb
                | some u =>
                  rw [hsl] at hgb
                  exact ⟨d, u, by rw [getL_eq] at hp; rw [Rg.dst_of hp, hd], hsl, hgb⟩
        have hnd : ∀ c', o.op ≠ .defer c' := fun c' e => by
          have := cOp_kin W (cOpd (A.map fun x => g.dst x.1)) o.op
          rw [hc, e] at this
          simp [Kin, kd, kinOf] at this
        obtain ⟨body, hbo⟩ := hbody
        obtain ⟨fnr, g2, g3⟩ := bodyOf_some hbo
        have hops : ops[i]? = some o := by have := ho; rw [r.rgn.eo] at this; simpa using this
        have hloud := loud_of (m := m) (rs := cOpd (A.map fun x => g.dst x.1)) r.rgn ho (by rw [hc]; rfl)
        obtain ⟨ε1, w1, tm1, al1, M1, td', q1, q2, q3, q4, q5⟩ := loud_ready (frs := frs) G r hw hloud
        have hok := q2.next_ok r.rgn
        have hwant := q2.want r.rgn r.ord (a := []) (b := A) rfl rfl hok ho hgd
        obtain ⟨rs', hcc, hopd⟩ := q2.opd r.rgn r.ord (a := []) (b := A) rfl rfl hok ho (q2.opv r.rgn o.op)
        rcases op_call (P := P) (w := w1) hopd (o := o) (by rw [hcc]; exact hc) hv with ⟨n', as', args, e, ha, hrun⟩ | ⟨b, as', args, y, e, _⟩
        · cases e
          have hs := step_enter (P := P) (frs := frs) (w := w1) (fr := { fr with tmps := tm1, todo := .inRegion ops (i :: td') :: t' }) r.mode rfl hops hwant hnd (by rw [eval_opd]; exact hrun fnr (G.fits.funcs n fnr g2) (by rw [g3]; rfl) (G.names n fnr g2))
          obtain ⟨v, h', nx', ε2, w2, fr2, x, hQ, hnx, hF, k1, k2, k3, k4, k5, k6⟩ := hsound ε1 w1 args q5.ext q4 q3 ha ({ fr with tmps := tm1, todo := .inRegion ops (i :: td') :: t' } :: frs)
          have hfin := finish_at (fr := { fr with tmps := tm1, todo := .inRegion ops (i :: td') :: t' }) rfl hops x
          have hlv := step_leave_returned (cs := frs) (c := { fr with tmps := tm1, todo := .inRegion ops (i :: td') :: t' }) k2
          rw [hfin] at hlv
          have hreg := q2.exec r.rgn ho k6 k5 hnx
          refine ⟨v, h', nx', _, frs, w2, ε2, hQ, ((q1.trans (Steps.one hs)).trans k1).trans (Steps.one hlv), (q5.le hst.base).trans (k6.le (Nat.le_trans hst.base hb)), q4.trans k4, hF, hnx, k3, fun B' z' hw2 => ?_⟩
          rw [hcw]
          exact after_go G (((r.mt.mono q5.ext).mono k6.ext).same rfl rfl rfl rfl) r.mode rfl (r.kr.mono (q5.ext.trans k6.ext)) r.rgn r.ord hreg hloud ho rfl hw2 (Nat.le_trans hb hnx) ((hst.mono q5).mono (k6.le hb))
        · cases e
      | _ => rw [hc] at hn; cases hn
theorem call_any (G : Good W P) {s : S} (hs : SimR W B f0 cs0 bB z s fr frs w ε) {n : FuncId} {as : List V} (hn : nextCall s = some (n, as)) (hbody : ∃ c, bodyOf W n = some c) {Q : V → H → Nat → Prop}
    (hsound : ∀ ε1 w1 args, Ext ε ε1 → Below B w w1 → WR W B z ε1 s.h s.nx w1 → concL ε1 as = some args → ∀ cs, ∃ v h' nx', Q v h' nx' ∧ s.nx ≤ nx' ∧ Frz z s.h h' ∧ Sound W P B z n ε1 s.h s.nx w1 args.toArray cs v h' nx') :
    ∃ v h' nx', Q v h' nx' ∧ Post W P B f0 cs0 bB z (callWith s v h' nx') fr frs w ε s.h s.nx := by
  obtain ⟨v, h', nx', fr1, frs1, w2, ε2, hQ, g1, g2, g3, g4, g5, g6, g7⟩ := call_core (Q := fun v h' nx' _ _ => Q v h' nx') G hs hn hbody fun ε1 w1 args k1 k2 k3 k4 cs => by
    obtain ⟨v, h', nx', h1, h2, h3, ε2, w2, fr2, x, j1, j2, j3, j4, j5, j6⟩ := hsound ε1 w1 args k1 k2 k3 k4 cs
    exact ⟨v, h', nx', ε2, w2, fr2, x, h1, h2, h3, j1, j2, j3, j4, j5, j6⟩
  exact ⟨v, h', nx', hQ, Post.trans g1 g2 g3 g4 g5 (g7 B z g6)⟩
theorem call_step (G : Good W P) {s : S} (hs : SimR W B f0 cs0 bB z s fr frs w ε) {n : FuncId} {as : List V} (hn : nextCall s = some (n, as)) (hbody : ∃ c, bodyOf W n = some c) {v : V} {h' : H} {nx' : Nat}
    (hsound : ∀ ε1 w1 args, Ext ε ε1 → Below B w w1 → WR W B z ε1 s.h s.nx w1 → concL ε1 as = some args → ∀ cs, Sound W P B z n ε1 s.h s.nx w1 args.toArray cs v h' nx') (hnx : s.nx ≤ nx') (hF : Frz z s.h h') :
    Post W P B f0 cs0 bB z (callWith s v h' nx') fr frs w ε s.h s.nx := by
  obtain ⟨v1, h1, n1, ⟨e1, e2, e3⟩, hp⟩ := call_any (Q := fun v1 h1 n1 => v1 = v ∧ h1 = h' ∧ n1 = nx') G hs hn hbody fun ε1 w1 args k1 k2 k3 k4 cs => ⟨v, h', nx', ⟨rfl, rfl, rfl⟩, hnx, hF, hsound ε1 w1 args k1 k2 k3 k4 cs⟩
  subst e1; subst e2; subst e3
  exact hp
end

/-! memory that is given and is not written -/
theorem WR.void (W : Wd) (w : World) : WR W w.heap.size .e (fun _ => Option.none) .e 0 w :=
  ⟨fun b x o hx => (by cases hx), fun b b' x x' hx => (by cases hx), fun n _ => ⟨rfl, T.get_e _⟩, Nat.le_refl _⟩
/-- one block more that is given -/
theorem WR.given {W : Wd} {B : Nat} {ε : Env} {h : H} {nx : Nat} {w : World} (hw : WR W B h ε h nx w) {x : Ent} {o : O} {k : Obj} (hk : w.heap[x.cb]? = some k) (hr : OR W (ε.upd (pth nx) x) x o k) (hlo : LoOk x o) :
    WR W B (T.put (pth nx) (some o) h) (ε.upd (pth nx) x) (T.put (pth nx) (some o) h) (nx + 1) w := by
  obtain ⟨f1, f2⟩ := hw.fresh nx (Nat.le_refl _)
  have hext := Env.upd_ext (ε := ε) (b := pth nx) x f1
  refine ⟨fun p y q hy hq => ?_, fun p p' y y' _ _ hp _ hn => (by rw [hn] at hp; cases hp), fun n hn => ?_, hw.base⟩
  · by_cases e : p = pth nx
    · subst e
      rw [T.get_put_same] at hq; cases hq
      rw [Env.upd_same] at hy; cases hy
      exact ⟨k, hk, hr, fun hn => (by rw [T.get_put_same] at hn; cases hn), hlo⟩
    · rw [Env.upd_ne _ _ e] at hy
      have hq' := hq
      rw [T.get_put_ne _ _ fun z => e z.symm] at hq
      obtain ⟨k', h1, h2, h3⟩ := hw.blk p y q hy hq
      exact ⟨k', h1, h2.mono hext, fun hn => (by rw [hq'] at hn; cases hn), h3.2⟩
  · have : pth n ≠ pth nx := fun e => by have := pth_inj e; omega
    rw [Env.upd_ne _ _ this, T.get_put_ne _ _ fun z => this z.symm]
    exact hw.fresh n (by omega)
/-- a path for a block of which nothing is known but where it is -/
theorem WR.path {W : Wd} {B : Nat} {z : H} {ε : Env} {h : H} {nx : Nat} {w : World} (hw : WR W B z ε h nx w) (x : Ent) : WR W B z (ε.upd (pth nx) x) h (nx + 1) w := by
  obtain ⟨f1, f2⟩ := hw.fresh nx (Nat.le_refl _)
  have hext := Env.upd_ext (ε := ε) (b := pth nx) x f1
  have hne : ∀ p o, T.get p h = some o → p ≠ pth nx := fun p o ho e => by rw [e, f2] at ho; cases ho
  refine ⟨fun p y q hy hq => ?_, fun p p' y y' hy hy' hp hp' hz e => ?_, fun n hn => ?_, hw.base⟩
  · rw [Env.upd_ne _ _ (hne p q hq)] at hy
    obtain ⟨k', h1, h2, h3⟩ := hw.blk p y q hy hq
    exact ⟨k', h1, h2.mono hext, h3⟩
  · obtain ⟨o, ho⟩ := Option.isSome_iff_exists.1 hp
    obtain ⟨o', ho'⟩ := Option.isSome_iff_exists.1 hp'
    rw [Env.upd_ne _ _ (hne p o ho)] at hy
    rw [Env.upd_ne _ _ (hne p' o' ho')] at hy'
    exact hw.inj p p' y y' hy hy' hp hp' hz e
  · have : pth n ≠ pth nx := fun e => by have := pth_inj e; omega
    rw [Env.upd_ne _ _ this]
    exact hw.fresh n (by omega)
end Go.AM
end
end
section
/- Runs that part: at calls taken by contract, and at tests both of whose ways are taken. -/
noncomputable section
namespace Go.AM
open Go.RowKit (Below)

/-! a step whose first test is not looked at -/
def stCode2 (t : Bool) (c : Cx) (x : Code) : St :=
  Code.rec (motive := fun _ => St)
    (fun k f m cs h nx => .go ⟨f, k, m, cs, h, nx⟩)
    (fun _ ops draw => stReg c ops draw)
    (fun _ b iha _ k => iha (.code b :: k))
    (fun x a b _ _ k f m cs h nx => oR (bx (cOpd [] x) fun q => q [] f) 20 fun v => match v with
      | .bl _ => bc t (stCode c a k f m cs h nx) (stCode c b k f m cs h nx)
      | _ => .bad 20)
    (fun id _ ih k => ih (.blk id :: k))
    (fun b ih k => ih (.lp b :: k))
    (fun g ps asg bd _ _ => enterRF c g ps asg bd)
    (stExit c.z)
    (fun _ ih k => ih (.scp :: k))
    (fun _ k f m cs h nx => .go ⟨f, k, m, cs, h, nx⟩)
    (fun _ _ _ _ _ _ _ => .bad 22)
    (stRetC c.z)
    (fun _ _ _ _ _ _ _ => .bad 23) x
theorem stCode2_or (c : Cx) : ∀ (x : Code) (k : List It) (f : F) (m : Mt) (cs : List Fr) (h : H) (nx : Nat), stCode c x k f m cs h nx = stCode2 true c x k f m cs h nx ∨ stCode c x k f m cs h nx = stCode2 false c x k f m cs h nx := by
  intro x
  induction x with
  | cond x a b iha ihb =>
    intro k f m cs h nx
    show oR (bx (cOpd [] x) fun q => q [] f) 20 (fun v => stCond v _ _) = oR _ 20 _ ∨ oR (bx (cOpd [] x) fun q => q [] f) 20 (fun v => stCond v _ _) = oR _ 20 _
    cases (bx (cOpd [] x) fun q => q [] f) with
    | none => exact .inl rfl
    | some v =>
      cases v with
      | bl t => cases t with
        | true => exact .inl rfl
        | false => exact .inr rfl
      | _ => exact .inl rfl
  | seq a b iha ihb => intro k f m cs h nx; exact iha (.code b :: k) f m cs h nx
  | block id b ih => intro k f m cs h nx; exact ih (.blk id :: k) f m cs h nx
  | loop b ih => intro k f m cs h nx; exact ih (.lp b :: k) f m cs h nx
  | scope b ih => intro k f m cs h nx; exact ih (.scp :: k) f m cs h nx
  | _ => intro k f m cs h nx; exact .inl rfl
def step2 (t : Bool) (c : Cx) (s : S) : R := match s.k with
  | .code x :: k => stCode2 t c x k s.f s.m s.cs s.h s.nx
  | _ => step c s
theorem step2_or (c : Cx) (s : S) : step c s = step2 true c s ∨ step c s = step2 false c s := by
  obtain ⟨f, k, m, cs, h, nx⟩ := s
  cases k with
  | nil => exact .inl rfl
  | cons i k =>
    cases i with
    | code x => exact stCode2_or c x k f m cs h nx
    | _ => exact .inl rfl

/-- the slot that a test goes by, if a test comes first -/
def condT (x : Code) : Option Tmp := match x with
  | .seq a _ => condT a
  | .cond o _ _ => match o with
    | .tmp t => some t
    | _ => none
  | _ => none
/-- where a run is held: calls of some functions; tests of some functions by some slots; rounds of a loop -/
structure Hold where
  fs : List Nat
  ts : List (Nat × Nat)
  lp : S → Bool
def memNN (a b : Nat) : List (Nat × Nat) → Bool
  | [] => false
  | (x, y) :: l => bc (Nat.beq a x) (bc (Nat.beq b y) true (memNN a b l)) (memNN a b l)
def held (p : Hold) (s : S) : Bool := match s.k with
  | [] => false
  | i :: _ => match i with
    | .code x => match p.ts with
      | [] => false
      | _ :: _ => match condT x with
        | some t => memNN s.m.fn t p.ts
        | none => false
    | .plan l _ => match l with
      | .mk _ _ op _ :: _ => match op with
        | .call _ => match nextCall s with
          | some (n, _) => memN n p.fs
          | none => false
        | _ => false
      | [] => false
    | .lp _ => p.lp s
    | _ => false
/-- at most 2^n steps, none from a state where the run is held -/
def runTo (c : Cx) (p : Hold) (n : Nat) : S → R :=
  Nat.rec (motive := fun _ => S → R) (fun s => bc (held p s) (.go s) (step c s)) (fun _ g s => bc (held p s) (.go s) (R.rec (motive := fun _ => R) g .many (fun v h nx => .done v h nx) .bad (g s))) n

structure An where
  v : V
  h : H
  nx : Nat
/-- all ways through -/
def tree (c : Cx) (p : Hold) (ans : FuncId → List V → H → Nat → Option (List An)) (fin : V → H → Nat → Bool) (hd : S → Bool) (d : Nat) (n : Nat) : S → Bool :=
  Nat.rec (motive := fun _ => S → Bool) (fun _ => false) (fun _ g s => match runTo c p d s with
    | .done v h nx => fin v h nx
    | .go s' => match s'.k with
      | .code _ :: _ => bc (match step2 true c s' with | .go s2 => g s2 | .done v h nx => fin v h nx | _ => false) (match step2 false c s' with | .go s2 => g s2 | .done v h nx => fin v h nx | _ => false) false
      | .plan _ _ :: _ => match nextCall s' with
        | some (f, as) => match ans f as s'.h s'.nx with
          | some l => l.all fun a => match callWith s' a.v a.h a.nx with | .go s2 => g s2 | _ => false
          | none => false
        | none => false
      | .lp _ :: _ => hd s'
      | _ => false
    | _ => false) n
/-- a memory that still holds the frozen blocks -/
def Keeps (z h : H) : Prop := ∀ b o, T.get b z = some o → T.get b h = some o
theorem Keeps.frz {z h h' : H} (k : Keeps z h) (f : Frz z h h') : Keeps z h' := fun b o hb => by
  rw [f b (by rw [hb]; rfl)]; exact k b o hb
section
variable {W : Wd} {P : Program} {B : Nat} {f0 : FuncId} {cs0 : List Frame} {bB : Nat} {c : Cx} {fr : Frame} {frs : List Frame} {w : World} {ε : Env}
theorem step2_post (G : Good W P) (hcP : c.P = W) (hex : ∀ n ef, c.ex n = some ef → ExOk W P ef n) {s : S} (hz : ZOk c.z s.nx) (hs : SimR W B f0 cs0 bB c.z s fr frs w ε) : ∃ t, Post W P B f0 cs0 bB c.z (step2 t c s) fr frs w ε s.h s.nx := by
  have h := step_post G hcP hex hz hs
  rcases step2_or c s with e | e
  · exact ⟨true, by rw [← e]; exact h⟩
  · exact ⟨false, by rw [← e]; exact h⟩
theorem runTo_post (G : Good W P) (hcP : c.P = W) (hex : ∀ n ef, c.ex n = some ef → ExOk W P ef n) (p : Hold) : ∀ (n : Nat) {s : S} {fr : Frame} {frs : List Frame} {w : World} {ε : Env}, ZOk c.z s.nx → SimR W B f0 cs0 bB c.z s fr frs w ε →
    Post W P B f0 cs0 bB c.z (runTo c p n s) fr frs w ε s.h s.nx
  | 0, s, _, _, _, _, hz, hs => by
    show Post W P B f0 cs0 bB c.z (bc (held p s) (.go s) (step c s)) _ _ _ _ _ _
    cases held p s with
    | true => exact Goes.here hs
    | false => exact step_post G hcP hex hz hs
  | n + 1, s, fr, frs, w, ε, hz, hs => by
    have h1 := runTo_post G hcP hex p n hz hs
    show Post W P B f0 cs0 bB c.z (bc (held p s) (.go s) (R.rec (motive := fun _ => R) (fun s' => runTo c p n s') .many (fun v h nx => .done v h nx) .bad (runTo c p n s))) _ _ _ _ _ _
    cases held p s with
    | true => exact Goes.here hs
    | false =>
      rw [bc_false]
      cases hr : runTo c p n s with
      | go s' =>
        rw [hr] at h1
        have hn : s.nx ≤ s'.nx := by obtain ⟨_, _, _, _, _, _, _, _, _, g⟩ := h1; exact g
        exact Goes.then h1 fun h2 => runTo_post G hcP hex p n (hz.mono hn) h2
      | many l => rw [hr] at h1; exact h1
      | done v h nx => rw [hr] at h1; exact h1
      | bad k => trivial
/-- what a run that parts comes to -/
def TreeP (W : Wd) (P : Program) (B : Nat) (f0 : FuncId) (cs0 : List Frame) (bB : Nat) (z : H) (fin : V → H → Nat → Bool) (hd : S → Bool) (fr : Frame) (frs : List Frame) (w : World) (ε : Env) (h : H) (nx : Nat) : Prop :=
  (∃ v h' nx', fin v h' nx' = true ∧ Ends W P B f0 cs0 bB z v h' nx' fr frs w ε h nx) ∨ ∃ s', hd s' = true ∧ Goes W P B f0 cs0 bB z s' fr frs w ε h nx
theorem TreeP.from {z : H} {fin : V → H → Nat → Bool} {hd : S → Bool} {s : S} {h : H} {nx : Nat} (hg : Goes W P B f0 cs0 bB z s fr frs w ε h nx)
    (hp : ∀ {fr1 : Frame} {frs1 : List Frame} {w1 : World} {ε1 : Env}, SimR W B f0 cs0 bB z s fr1 frs1 w1 ε1 → TreeP W P B f0 cs0 bB z fin hd fr1 frs1 w1 ε1 s.h s.nx) : TreeP W P B f0 cs0 bB z fin hd fr frs w ε h nx := by
  obtain ⟨ε1, fr1, frs1, w1, g1, g2, g3, g4, g5, g6⟩ := hg
  rcases hp g2 with ⟨v, h', nx', hf, he⟩ | ⟨s', hh, hs'⟩
  · exact .inl ⟨v, h', nx', hf, Post.trans (r := .done v h' nx') g1 g3 g4 g5 g6 he⟩
  · exact .inr ⟨s', hh, Goes.trans g1 g3 g4 g5 g6 hs'⟩
theorem tree_sound (G : Good W P) (hcP : c.P = W) (hex : ∀ n ef, c.ex n = some ef → ExOk W P ef n) {p : Hold} {ans : FuncId → List V → H → Nat → Option (List An)} {fin : V → H → Nat → Bool} {hd : S → Bool} {d : Nat}
    (hans : ∀ f as h nx l, ans f as h nx = some l → (∃ b, bodyOf W f = some b) ∧ ∀ ε w args, WR W B c.z ε h nx w → Keeps c.z h → concL ε as = some args →
      ∀ cs, ∃ a ∈ l, nx ≤ a.nx ∧ Frz c.z h a.h ∧ Sound W P B c.z f ε h nx w args.toArray cs a.v a.h a.nx) :
    ∀ (n : Nat) {s : S} {fr : Frame} {frs : List Frame} {w : World} {ε : Env}, tree c p ans fin hd d n s = true → Keeps c.z s.h → ZOk c.z s.nx → SimR W B f0 cs0 bB c.z s fr frs w ε → TreeP W P B f0 cs0 bB c.z fin hd fr frs w ε s.h s.nx
  | 0, s, _, _, _, _, ht, _, _, _ => by cases ht
  | n + 1, s, fr, frs, w, ε, ht, hk, hz, hs => by
    have hp := runTo_post G hcP hex p d hz hs
    have ht : (match runTo c p d s with
      | .done v h nx => fin v h nx
      | .go s' => match s'.k with
        | .code _ :: _ => bc (match step2 true c s' with | .go s2 => tree c p ans fin hd d n s2 | .done v h nx => fin v h nx | _ => false) (match step2 false c s' with | .go s2 => tree c p ans fin hd d n s2 | .done v h nx => fin v h nx | _ => false) false
        | .plan _ _ :: _ => match nextCall s' with
          | some (f, as) => match ans f as s'.h s'.nx with
            | some l => l.all fun a => match callWith s' a.v a.h a.nx with | .go s2 => tree c p ans fin hd d n s2 | _ => false
            | none => false
          | none => false
        | .lp _ :: _ => hd s'
        | _ => false
      | _ => false) = true := ht
    have go : ∀ {r : AM.R} {fr1 : Frame} {frs1 : List Frame} {w1 : World} {ε1 : Env} {h : H} {nx : Nat}, Keeps c.z h → ZOk c.z nx → Post W P B f0 cs0 bB c.z r fr1 frs1 w1 ε1 h nx →
        (match r with | .go s2 => tree c p ans fin hd d n s2 | .done v h nx => fin v h nx | _ => false) = true → TreeP W P B f0 cs0 bB c.z fin hd fr1 frs1 w1 ε1 h nx := by
      intro r fr1 frs1 w1 ε1 h nx hkh hzn hpost hb
      cases r with
      | go s2 =>
        have hf : Frz c.z h s2.h ∧ nx ≤ s2.nx := by obtain ⟨_, _, _, _, _, _, _, _, g5, g6⟩ := hpost; exact ⟨g5, g6⟩
        exact TreeP.from hpost fun hs2 => tree_sound G hcP hex hans n hb (hkh.frz hf.1) (hzn.mono hf.2) hs2
      | done v h' nx' => exact .inl ⟨v, h', nx', hb, hpost⟩
      | many l => cases hb
      | bad k => cases hb
    cases hr : runTo c p d s with
    | many l => rw [hr] at ht; cases ht
    | bad k => rw [hr] at ht; cases ht
    | done v h' nx' => rw [hr] at ht hp; exact .inl ⟨v, h', nx', ht, hp⟩
    | go s' =>
      rw [hr] at ht hp
      simp only at ht
      have hk' : Keeps c.z s'.h := hk.frz (by obtain ⟨_, _, _, _, _, _, _, _, g5, _⟩ := hp; exact g5)
      have hz' : ZOk c.z s'.nx := hz.mono (by obtain ⟨_, _, _, _, _, _, _, _, _, g6⟩ := hp; exact g6)
      refine TreeP.from hp fun {fr1 frs1 w1 ε1} hs' => ?_
      split at ht
      · obtain ⟨t1, t2⟩ := bc_and ht
        obtain ⟨t, hpt⟩ := step2_post G hcP hex hz' hs'
        cases t with
        | true => exact go hk' hz' hpt t1
        | false => exact go hk' hz' hpt t2
      · cases hn : nextCall s' with
        | none => rw [hn] at ht; cases ht
        | some fa =>
          obtain ⟨f, as⟩ := fa
          rw [hn] at ht
          simp only at ht
          cases ha : ans f as s'.h s'.nx with
          | none => rw [ha] at ht; cases ht
          | some l =>
            rw [ha] at ht
            simp only [List.all_eq_true] at ht
            obtain ⟨hb, hc⟩ := hans f as s'.h s'.nx l ha
            obtain ⟨v, h', nx', ⟨a, hal, e1, e2, e3⟩, hpost⟩ := call_any (Q := fun v h' nx' => ∃ a, a ∈ l ∧ a.v = v ∧ a.h = h' ∧ a.nx = nx') G hs' hn hb fun ε2 w2 args _ _ hw2 hargs cs => by
              obtain ⟨a, h1, h2, h3, h4⟩ := hc ε2 w2 args hw2 hk' hargs cs
              exact ⟨a.v, a.h, a.nx, ⟨a, h1, rfl, rfl, rfl⟩, h2, h3, h4⟩
            subst e1; subst e2; subst e3
            have := ht a hal
            refine go hk' hz' hpost ?_
            cases hcw : callWith s' a.v a.h a.nx with
            | go s2 => rw [hcw] at this; exact this
            | done _ _ _ => rw [hcw] at this; cases this
            | many _ => rw [hcw] at this; cases this
            | bad _ => rw [hcw] at this; cases this
      · exact .inr ⟨s', ht, Goes.here hs'⟩
      · cases ht
end
end Go.AM
end
end
