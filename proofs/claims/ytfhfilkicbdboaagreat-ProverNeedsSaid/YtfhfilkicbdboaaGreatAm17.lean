/- Parts of the proof, joined: AmMade3 AmMade4. -/
import Derived.Test.YtfhfilkicbdboaaGreatAm16
import Derived.KernelRfl
section
/- The loop of Made: its head in the model and in the machine. -/
noncomputable section
namespace Go.AM
open Go.Proofs
open Go.RowKit (Below)

/-- rows of five small numbers -/
def RowsAt (w : World) (v : Value) (n : Nat) : Prop :=
  (v = .slice none 0 0 ∧ n = 0) ∨ ∃ (cb off cap : Nat), v = .slice (some ⟨cb, off, none⟩) n cap ∧ n ≤ cap ∧ (0 < n → ∃ (pre r : List Value) (c : Nat → Int) (el : TypeId) (fz : Nat × Nat),
    w.heap[cb]? = some (.cells (pre ++ ((List.range (5 * n)).map (fun i => Value.int .i8 (c i)) ++ r)).toArray el fz) ∧ pre.length = off ∧ ∀ i, -128 ≤ c i ∧ c i ≤ 127)
theorem RowsAt.below {w w' : World} {v : Value} {n : Nat} (h : RowsAt w v n) (b : Below w.heap.size w w') : RowsAt w' v n := by
  rcases h with h | ⟨cb, off, cap, h1, h2, h5⟩
  · exact .inl h
  · refine .inr ⟨cb, off, cap, h1, h2, fun hn => ?_⟩
    obtain ⟨pre, r, c, el, fz, h3, h4⟩ := h5 hn
    exact ⟨pre, r, c, el, fz, by rw [b.block _ (Array.getElem?_eq_some_iff.1 h3).1]; exact h3, h4⟩
/-- the model at the head of the loop -/
structure HeadR (cs0 : List Frame) (k : Nat) (fr : Frame) (frs : List Frame) (w : World) (Y X : Value) : Prop where
  fn : fr.fn = 6
  dfs : fr.defers = []
  kd : fr.kind = .normal
  rnd : fr.roundOf = none
  mode : fr.mode = .run
  todo : KR W0 6 (fun _ => none) (KH k) fr.todo
  size : ntOf W0 6 ≤ fr.tmps.size
  s1 : fr.tmps[1]? = some (.int .i64 (.ofNat 2))
  s2 : fr.tmps[2]? = some (.int .i64 (.ofNat 2))
  s3 : fr.tmps[3]? = some (.int .i64 (.ofNat 3))
  s8 : fr.tmps[8]? = some (.slice none 0 0)
  s10 : fr.tmps[10]? = some (.int .i64 (.ofNat k))
  s9 : fr.tmps[9]? = some X
  box : ∃ cb el, fr.tmps[4]? = some (.pointer (some ⟨cb, 0, none⟩)) ∧ w.heap[cb]? = some (.cells #[Y] el (0, 0))
  stack : frs = cs0
/-- nothing to do that goes by a place -/
def noRF : List It → Bool
  | [] => true
  | i :: k => match i with
    | .endRF _ => false
    | _ => noRF k
theorem KR.any {W : Wd} {fn : FuncId} {ε ε' : Env} : ∀ {k : List It} {ts : List Item}, noRF k = true → KR W fn ε k ts → KR W fn ε' k ts
  | [], _, _, h => h
  | i :: k, ts, hn, h => by
    cases i with
    | code c => obtain ⟨t, h1, h2, h3⟩ := h; exact ⟨t, h1, h2, KR.any hn h3⟩
    | blk id => obtain ⟨t, h1, h3⟩ := h; exact ⟨t, h1, KR.any hn h3⟩
    | lp b => obtain ⟨t, h1, h2, h3⟩ := h; exact ⟨t, h1, h2, KR.any hn h3⟩
    | scp => obtain ⟨t, b, h1, h3⟩ := h; exact ⟨t, b, h1, KR.any hn h3⟩
    | begR => obtain ⟨t, h1, h3⟩ := h; exact ⟨t, h1, KR.any hn h3⟩
    | endRF b => cases hn
    | plan _ _ => exact h.elim
    | inRF _ => exact h.elim
    | ret => exact h.elim
theorem noRF0 : noRF K0 = true := by kernel_rfl
theorem noRF6 : noRF K6 = true := by kernel_rfl
theorem noRFk (k : Nat) : noRF (KH k) = true := by
  cases k with
  | zero => exact noRF0
  | succ k => exact noRF6
theorem has6 : ∃ x, W0.fun 6 = some x := by
  have h : (W0.fun 6).isSome = true := by kernel_rfl
  exact Option.isSome_iff_exists.1 h
theorem dom6 : (memN 4 (keepOf W0.keep 6), memN 8 (keepOf W0.keep 6), memN 9 (keepOf W0.keep 6), memN 10 (keepOf W0.keep 6), Nat.ble 4 (npOf W0 6)) = (true, true, true, true, true) := by kernel_rfl
theorem nt6 : Nat.ble 11 (ntOf W0 6) = true := by kernel_rfl
/-- the slots at the head -/
theorem fHD_get {k t : Nat} {v9 v : V} (h : T.get (pth t) (fHD k v9) = some v) :
    (t = 1 ∧ v = .int .i64 (.ofNat 2)) ∨ (t = 2 ∧ v = .int .i64 (.ofNat 2)) ∨ (t = 3 ∧ v = .int .i64 (.ofNat 3)) ∨ (t = 4 ∧ v = .p (pth 1) 0) ∨ (t = 8 ∧ v = .s0) ∨ (t = 9 ∧ v = v9) ∨ (t = 10 ∧ v = .int .i64 (.ofNat k)) := by
  unfold fHD at h
  have peel : ∀ {n : Nat} {u : V} {f : F}, T.get (pth t) (T.put (pth n) (some u) f) = some v → (t = n ∧ v = u) ∨ T.get (pth t) f = some v := by
    intro n u f h
    by_cases e : n = t
    · subst e; rw [T.get_put_same] at h; cases h; exact .inl ⟨rfl, rfl⟩
    · rw [T.get_put_ne _ _ fun q => e (pth_inj q)] at h; exact .inr h
  rcases peel h with h | h
  · exact .inr (.inr (.inr (.inr (.inr (.inr h)))))
  rcases peel h with h | h
  · exact .inr (.inr (.inr (.inr (.inr (.inl h)))))
  rcases peel h with h | h
  · exact .inr (.inr (.inr (.inr (.inl h))))
  rcases peel h with h | h
  · exact .inr (.inr (.inr (.inl h)))
  rcases peel h with h | h
  · exact .inr (.inr (.inl h))
  rcases peel h with h | h
  · exact .inr (.inl h)
  rcases peel h with h | h
  · exact .inl h
  · rw [T.get_e] at h; cases h
section
variable {cs0 : List Frame} {k : Nat} {fr : Frame} {frs : List Frame} {w : World} {Y X : Value}
/-- the machine at the head -/
theorem HeadR.sim (H : HeadR cs0 k fr frs w Y X) {v9 : V} {ε : Env} {cb : Nat} (hcb : fr.tmps[4]? = some (.pointer (some ⟨cb, 0, none⟩)))
    {h : AM.H} (hw : WR W0 w.heap.size h ε h 3 w) (hb : ∃ x, ε (pth 1) = some x ∧ x.cb = cb ∧ x.lo = 0) (hx : conc ε v9 = some X) :
    SimR W0 w.heap.size 6 cs0 0 h ⟨fHD k v9, KH k, ⟨6, [], .normal, none⟩, [], h, 3⟩ fr frs w ε := by
  obtain ⟨x, hx1, hx2, hx3⟩ := hb
  refine ⟨0, Nat.zero_le _, hw, .items ⟨H.fn, ?_, H.kd, ?_, has6, .inl rfl⟩ H.mode (KR.any (noRFk k) H.todo) ⟨H.size, fun t v hv => ?_⟩ (fun t v hv => ?_), ⟨H.stack, rfl, Nat.le_refl _⟩⟩
  · exact H.dfs
  · exact H.rnd
  · rcases fHD_get hv with ⟨rfl, rfl⟩ | ⟨rfl, rfl⟩ | ⟨rfl, rfl⟩ | ⟨rfl, rfl⟩ | ⟨rfl, rfl⟩ | ⟨rfl, rfl⟩ | ⟨rfl, rfl⟩
    · exact ⟨_, rfl, H.s1⟩
    · exact ⟨_, rfl, H.s2⟩
    · exact ⟨_, rfl, H.s3⟩
    · refine ⟨_, conc_p_mk 0 hx1, ?_⟩
      rw [hcb, Ent.ad_at hx3, hx2]
    · exact ⟨_, rfl, H.s8⟩
    · exact ⟨_, hx, H.s9⟩
    · exact ⟨_, rfl, H.s10⟩
  · have hd := dom6
    simp only [Prod.mk.injEq] at hd
    obtain ⟨d4, d8, d9, d10, dn⟩ := hd
    have dn := Nat.le_of_ble_eq_true dn
    rcases fHD_get hv with ⟨rfl, rfl⟩ | ⟨rfl, rfl⟩ | ⟨rfl, rfl⟩ | ⟨rfl, rfl⟩ | ⟨rfl, rfl⟩ | ⟨rfl, rfl⟩ | ⟨rfl, rfl⟩
    · exact .inr (.inl (Nat.lt_of_lt_of_le (show 1 < 4 by decide) dn))
    · exact .inr (.inl (Nat.lt_of_lt_of_le (show 2 < 4 by decide) dn))
    · exact .inr (.inl (Nat.lt_of_lt_of_le (show 3 < 4 by decide) dn))
    · exact .inl d4
    · exact .inl d8
    · exact .inl d9
    · exact .inl d10
/-- the model at the head, out of the machine -/
theorem head_of {B bB : Nat} {z : H} {s : S} {ε : Env} {v9 : V} (hs : SimR W0 B 6 cs0 bB z s fr frs w ε) (hk : s.k = KH k) (hm : s.m = ⟨6, [], .normal, none⟩) (hcs : s.cs = []) (hf : slotsOf s.f = slotsR k v9) (hx : conc ε v9 = some X)
    {b : V} (hbox : T.get (pth 1) s.h = some (.cells [b])) (hb : conc ε b = some Y) : HeadR cs0 k fr frs w Y X := by
  obtain ⟨f, k', m, cs, h, nx⟩ := s
  simp only at hk hm hcs hf hbox
  subst hk; subst hm; subst hcs
  obtain ⟨b0, _, hw, hfr, hst⟩ := hs.ex
  simp only at hw hfr hst
  simp only [slotsOf, slotsR, List.cons.injEq, and_true] at hf
  obtain ⟨f1, f2, f3, f4, f8, f9, f10⟩ := hf
  cases hfr with
  | reg g L ops draw A rest M td al F0 tm0 k1 t' r =>
    have := r.hk
    have hn : headPlan (KH k) = false := by
      cases k with
      | zero => kernel_rfl
      | succ k => show headPlan K6 = false; kernel_rfl
    rw [this] at hn; cases hn
  | back mt mode hk rel dom =>
    have hn : retHead (KH k) = false := by
      cases k with
      | zero => kernel_rfl
      | succ k => show retHead K6 = false; kernel_rfl
    rw [hk] at hn; cases hn
  | items mt mode kr rel dom =>
    have g : ∀ t v u, T.get (pth t) f = some v → conc ε v = some u → fr.tmps[t]? = some u := fun t v u h1 h2 => by
      obtain ⟨x, h3, h4⟩ := rel.get t v h1
      rw [h2] at h3; cases h3
      exact h4
    obtain ⟨u4, h41, h42⟩ := rel.get 4 _ f4
    obtain ⟨y, hy, rfl⟩ := conc_p h41
    obtain ⟨kk, k1, ⟨l, el, k2, rfl⟩, _, k3⟩ := hw.blk _ y _ hy hbox
    obtain ⟨u, us, k4, k5, rfl⟩ := concL_cons k2
    cases k5
    rw [hb] at k4; cases k4
    refine ⟨mt.fn, mt.dfs, mt.kd, mt.rnd, mode, KR.any (noRFk k) kr, rel.size, g _ _ _ f1 rfl, g _ _ _ f2 rfl, g _ _ _ f3 rfl, g _ _ _ f8 rfl, g _ _ _ f10 rfl, g _ _ _ f9 hx, ⟨y.cb, el, ?_, k1⟩, hst.1⟩
    rw [h42, Ent.ad_at k3]
end
end Go.AM
end
end
section
/- One round of Made. -/
noncomputable section
namespace Go.AM
open Go.Proofs
open Go.RowKit (Below)

theorem after_same {re : List RK} {d : Kp} {l : List PI} {k : List It} {e : E} {f : F} {m : Mt} {cs : List Fr} {h : H} {nx : Nat} {v : V} {s : S} (ha : after re d l k e f m cs h nx v = .go s) : s.h = h ∧ s.nx = nx := by
  cases re with
  | nil => cases ha; exact ⟨rfl, rfl⟩
  | cons r re =>
    have ha : bc (chkRe (v :: e) (putK d v f) h (r :: re)) (R.go ⟨putK d v f, plK l (v :: e) k, m, cs, h, nx⟩) (.bad 40) = .go s := ha
    cases hc : chkRe (v :: e) (putK d v f) h (r :: re) with
    | true => rw [hc] at ha; cases ha; exact ⟨rfl, rfl⟩
    | false => rw [hc] at ha; cases ha
theorem callWith_same {s s' : S} {v : V} {h : H} {nx : Nat} (hc : callWith s v h nx = .go s') : s'.h = h ∧ s'.nx = nx := by
  unfold callWith at hc
  split at hc
  · exact after_same hc
  · cases hc
/-- what is known of a round -/
structure RoundOk (k : Nat) : Prop where
  runA : ∀ (m : Nat) (v9 : V) (c : Nat → Int), runTo (rc k m c) rHold 8 (HD k v9 (boxV k m) c (5 * (k + 1))) = .go (stA k m v9 c)
  callA : ∀ (m : Nat) (v9 : V) (c : Nat → Int), nextCall (stA k m v9 c) = some (17, [.int .i8 (c (5 * k + 1))])
  runB : ∀ (m : Nat) (v9 : V) (c : Nat → Int) (a : Nat), a ≤ 128 → goAbs k m c (stA k m v9 c) a = .go (stB k m v9 c (Nat.mod a 3))
  callB : ∀ (m : Nat) (v9 : V) (c : Nat → Int) (x : Nat), x < 3 → nextCall (stB k m v9 c x) = some (17, [.int .i8 (c (5 * k + 2))])
  runC : ∀ (m : Nat) (v9 : V) (c : Nat → Int) (x a : Nat), x < 3 → a ≤ 128 → goAbs k m c (stB k m v9 c x) a = .go (stC k m v9 c x (Nat.mod a (Nat.sub 3 x)))
  argC : ∀ (m : Nat) (v9 : V) (c : Nat → Int) (x y : Nat), x + y ≤ 2 → stC k m v9 c x y = setE0 (qA (c (5 * k))) (stC k m v9 c x y)
  leaf : ∀ (m : Nat) (v9 : V) (c : Nat → Int) (x y : Nat), x + y ≤ 2 → ∀ (v' : V), ∀ q ∈ qs, leafL k m v9 c x y v' q = leafR k m v9 c x y v' q
theorem noEx_ok {h : H} : ∀ n ef, (⟨W0, noEx, h⟩ : Cx).ex n = some ef → ExOk W0 Tryz.prog ef n := fun n ef e => (by cases e)
section
variable {B : Nat} {f0 : FuncId} {cs0 : List Frame} {bB : Nat} {fr : Frame} {frs : List Frame} {w : World} {ε : Env} {h : H} {nx : Nat} {z : H}
/-- a run behind a call -/
def thenRun (c : Cx) (p : Hold) (n : Nat) (r : AM.R) : AM.R := match r with
  | .go s' => runTo c p n s'
  | .many l => .many l
  | .done v h nx => .done v h nx
  | .bad k => .bad k
theorem post_run {p : Hold} {n : Nat} {r : AM.R} (hz : ZOk z nx) (hp : Post W0 Tryz.prog B f0 cs0 bB z r fr frs w ε h nx) :
    Post W0 Tryz.prog B f0 cs0 bB z (thenRun ⟨W0, noEx, z⟩ p n r) fr frs w ε h nx := by
  cases r with
  | go s' =>
    have hn : nx ≤ s'.nx := by obtain ⟨_, _, _, _, _, _, _, _, _, g⟩ := hp; exact g
    exact Goes.then hp fun hs => runTo_post (c := ⟨W0, noEx, z⟩) good0 rfl noEx_ok p n (hz.mono hn) hs
  | many l => exact hp
  | done v h nx => exact hp
  | bad k => exact hp
theorem goAbs_eq (k m : Nat) (c : Nat → Int) (s : S) (a : Nat) : goAbs k m c s a = thenRun (rc k m c) rHold 8 (callWith s (.int .i64 (.ofNat a)) s.h s.nx) := by
  unfold goAbs thenRun
  cases callWith s (.int .i64 (.ofNat a)) s.h s.nx <;> rfl
theorem goH_eq (v' : V) (s : S) : goH v' s = thenRun ⟨W0, noEx, s.h⟩ lHold 8 (callWith s v' s.h (s.nx + 1)) := by
  unfold goH thenRun
  cases callWith s v' s.h (s.nx + 1) <;> rfl
theorem body17 : ∃ b, bodyOf W0 17 = some b := by
  have := allF_below abs_run 0 (by omega)
  exact has_body this
/-- over a call of abs -/
theorem over_abs {s : S} {k m : Nat} {c : Nat → Int} {n : Int} (h1 : -128 ≤ n) (h2 : n ≤ 127) (hn : nextCall s = some (17, [.int .i8 n])) (hz : ZOk (rc k m c).z s.nx) (hs : SimR W0 B f0 cs0 bB (rc k m c).z s fr frs w ε) :
    ∃ a, a ≤ 128 ∧ Post W0 Tryz.prog B f0 cs0 bB (rc k m c).z (goAbs k m c s a) fr frs w ε s.h s.nx := by
  obtain ⟨v, h', nx', ⟨a, ha, rfl, rfl, rfl⟩, hp⟩ := call_any (Q := fun v h' nx' => ∃ a, a ≤ 128 ∧ v = .int .i64 (.ofNat a) ∧ h' = s.h ∧ nx' = s.nx) good0 hs hn body17 fun ε1 w1 args _ _ hw hargs cs => by
    cases hargs
    obtain ⟨a, ha, hsd⟩ := abs_con hw n h1 h2 cs
    exact ⟨_, _, _, ⟨a, ha, rfl, rfl, rfl⟩, Nat.le_refl _, Frz.refl _ _, hsd⟩
  exact ⟨a, ha, by rw [goAbs_eq]; exact post_run hz hp⟩
end
end Go.AM
end
end
