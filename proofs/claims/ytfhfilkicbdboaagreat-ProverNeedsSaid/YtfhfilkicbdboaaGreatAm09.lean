/- Parts of the proof, joined: AmSim7 AmSim8 AmSim9 AmSim10. -/
import Derived.Test.YtfhfilkicbdboaaGreatAm08
section
/- An operation's turn: all kinds but calls and iterators. -/
noncomputable section
namespace Go.AM
open Go.RowKit (Below)

section
variable {W : Wd} {P : Program} {B : Nat} {f0 : FuncId} {cs0 : List Frame} {bB : Nat} {c : Cx} {fr : Frame} {cs : List Fr} {frs : List Frame} {w : World} {ε : Env} {h : H} {nx b0 : Nat} {f : F} {k : List It} {m : Mt}
  {g : Rg} {L : List Nat} {ops : Array Oper} {draw : Bool} {A : List (Nat × V)} {i : Nat} {rest M td : List Nat} {al : Nat → Option Nat} {F0 : F} {tm0 : Array Value} {k' : List It} {t' : List Item} {o : Oper}
/-- what an operation's turn comes to -/
def CoPost (W : Wd) (P : Program) (B : Nat) (f0 : FuncId) (cs0 : List Frame) (bB : Nat) (c : Cx) (fr : Frame) (cs : List Fr) (frs : List Frame) (w : World) (ε : Env) (h : H) (nx : Nat) (f : F) (m : Mt) (g : Rg) (A : List (Nat × V)) (i : Nat) (rest : List Nat) (k' : List It) (o : Oper) (co : CO) : Prop :=
  Post W P B f0 cs0 bB c.z (doCO c co (mapL (g.rk (o.dst :: A.map fun x => g.dst x.1) (i :: A.map (·.1))) (g.again (A.map (·.1)) i)) (cKeep (ks W m.fn) o.dst) (planR W m.fn g ((i, undef) :: A) rest) k' (A.map (·.2)) f m cs h nx
    (g.pi (ks W m.fn) (A.map (·.1)) (A.map fun x => g.dst x.1) i)) fr frs w ε h nx
theorem co_q (G : Good W P) (R : RegF W ε h nx b0 True f k m fr g L ops draw A (i :: rest) M td al F0 tm0 k' t') (ho : g.ops[i]? = some o) (hg : GdR g A F0 o true) (hw : WR W B c.z ε h nx w) (hb : b0 ≤ nx) (hst : StackR W f0 cs0 bB ε h b0 m cs frs)
    {gq : E → F → Option V} (hc : cOp W (cOpd (A.map fun x => g.dst x.1)) o.op = .q gq) : CoPost W P B f0 cs0 bB c fr cs frs w ε h nx f m g A i rest k' o (.q gq) := by
  show Post W P B f0 cs0 bB c.z (oR (gq (A.map (·.2)) f) 1 _) _ _ _ _ _ _
  cases hv : gq (A.map (·.2)) f with
  | none => trivial
  | some v =>
    exact push_go G R ho (v := v) (al' := al) (fun _ _ => rfl) (fun n hn => .inr hn) (fun _ _ h => h) (Nat.le_refl nx) hb
      ⟨o, true, ho, hg, fun e => (by cases e), fun _ => ⟨_, _, _, R.reg.opv R.rgn o.op, .inl ⟨gq, hc, hv⟩⟩⟩ hw (fun b _ => EvB.refl _ _ _) (Frz.refl _ _) hst
theorem co_m (G : Good W P) (R : RegF W ε h nx b0 True f k m fr g L ops draw A (i :: rest) M td al F0 tm0 k' t') (ho : g.ops[i]? = some o) (hg : GdR g A F0 o true) (hw : WR W B c.z ε h nx w) (hb : b0 ≤ nx) (hst : StackR W f0 cs0 bB ε h b0 m cs frs)
    {gq : E → F → H → Option V} (hc : cOp W (cOpd (A.map fun x => g.dst x.1)) o.op = .m gq) : CoPost W P B f0 cs0 bB c fr cs frs w ε h nx f m g A i rest k' o (.m gq) := by
  show Post W P B f0 cs0 bB c.z (oR (gq (A.map (·.2)) f h) 1 _) _ _ _ _ _ _
  cases hv : gq (A.map (·.2)) f h with
  | none => trivial
  | some v =>
    exact push_go G R ho (v := v) (al' := al) (fun _ _ => rfl) (fun n hn => .inr hn) (fun _ _ h => h) (Nat.le_refl nx) hb
      ⟨o, true, ho, hg, fun e => (by cases e), fun _ => ⟨_, _, _, R.reg.opv R.rgn o.op, .inr (.inl ⟨gq, hc, fun _ => hv⟩)⟩⟩ hw (fun b _ => EvB.refl _ _ _) (Frz.refl _ _) hst
theorem co_a (G : Good W P) (hz : ZOk c.z nx) (R : RegF W ε h nx b0 True f k m fr g L ops draw A (i :: rest) M td al F0 tm0 k' t') (ho : g.ops[i]? = some o) (hg : GdR g A F0 o true) (hw : WR W B c.z ε h nx w) (hb : b0 ≤ nx) (hst : StackR W f0 cs0 bB ε h b0 m cs frs)
    {gq : E → F → Pth → Option AV} (hc : cOp W (cOpd (A.map fun x => g.dst x.1)) o.op = .a gq) : CoPost W P B f0 cs0 bB c fr cs frs w ε h nx f m g A i rest k' o (.a gq) := by
  show Post W P B f0 cs0 bB c.z (oR (gq (A.map (·.2)) f (pth nx)) 2 _) _ _ _ _ _ _
  cases hv : gq (A.map (·.2)) f (pth nx) with
  | none => trivial
  | some r =>
    obtain ⟨k1, k2, k3⟩ := hw.grow r.o
    exact push_go G R ho (v := r.v) (al' := fun j => if j = i then some nx else al j) (fun j hj => if_neg hj) (fun n hn => .inl (by simp at hn; omega)) k3 (Nat.le_succ nx) hb
      ⟨o, true, ho, hg, fun e => (by cases e), fun _ => ⟨_, _, _, R.reg.opv R.rgn o.op, .inr (.inr ⟨gq, nx, r.o, hc, if_pos rfl, hv, T.get_put_same _ _ _, (hw.fresh nx (Nat.le_refl _)).1⟩)⟩⟩ k1 k2 (frz_new hz (Nat.le_refl _) _ _) hst
/-- an operation whose guard says no -/
theorem co_not (G : Good W P) (R : RegF W ε h nx b0 True f k m fr g L ops draw A (i :: rest) M td al F0 tm0 k' t') (ho : g.ops[i]? = some o) (hg : GdR g A F0 o false) (hw : WR W B c.z ε h nx w) (hb : b0 ≤ nx) (hst : StackR W f0 cs0 bB ε h b0 m cs frs) :
    Goes W P B f0 cs0 bB c.z ⟨putK (cKeep (ks W m.fn) o.dst) undef f, plK (planR W m.fn g ((i, undef) :: A) rest) (undef :: A.map (·.2)) k', m, cs, h, nx⟩ fr frs w ε h nx :=
  push_go G R ho (v := undef) (al' := al) (fun _ _ => rfl) (fun n hn => .inr hn) (fun _ _ h => h) (Nat.le_refl nx) hb
    ⟨o, false, ho, hg, fun _ => rfl, fun e => (by cases e)⟩ hw (fun b _ => EvB.refl _ _ _) (Frz.refl _ _) hst
theorem frzO_put {z : H} {b : Option Pth} (hz : frzO z b = true) {h h' : H} (hp : h' = h ∨ ∃ p o, b = some p ∧ h' = T.put p (some o) h) : Frz z h h' := by
  rcases hp with rfl | ⟨p, o, rfl, rfl⟩
  · exact Frz.refl _ _
  · exact frz_put h _ hz
theorem frz_mem {z : H} {b : Option Pth} (hz : frzO z b = true) {q : Pth} (hq : (T.get q z).isSome = true) : b ≠ some q := by
  rintro rfl
  unfold frzO frz at hz
  cases z with
  | e => rw [T.get_e] at hq; cases hq
  | n u l r =>
    simp only [] at hz
    cases hg : T.get q (T.n u l r) with
    | none => rw [hg] at hq; cases hq
    | some o => rw [hg] at hz; cases hz
theorem co_s (G : Good W P) (R : RegF W ε h nx b0 True f k m fr g L ops draw A (i :: rest) M td al F0 tm0 k' t') (ho : g.ops[i]? = some o) (hg : GdR g A F0 o true) (hw : WR W B c.z ε h nx w) (hb : b0 ≤ nx) (hst : StackR W f0 cs0 bB ε h b0 m cs frs)
    {gq : E → F → H → Option HV} (hc : cOp W (cOpd (A.map fun x => g.dst x.1)) o.op = .s gq) : CoPost W P B f0 cs0 bB c fr cs frs w ε h nx f m g A i rest k' o (.s gq) := by
  show Post W P B f0 cs0 bB c.z (oR (gq (A.map (·.2)) f h) 3 fun r => bc (frzO c.z r.b) (after _ _ _ _ _ _ _ _ r.h nx r.v) (.bad 41)) _ _ _ _ _ _
  cases hv : gq (A.map (·.2)) f h with
  | none => trivial
  | some r =>
    show Post W P B f0 cs0 bB c.z (bc (frzO c.z r.b) _ _) _ _ _ _ _ _
    cases hz : frzO c.z r.b with
    | false => trivial
    | true =>
      rw [bc_true]
      have hnd : ∀ c', o.op ≠ .defer c' := fun c' e => by
        have := cOp_kin W (cOpd (A.map fun x => g.dst x.1)) o.op
        rw [hc, e] at this
        simp [Kin, kd, kinOf] at this
      -- what is written is old
      have hput : r.h = h ∨ ∃ p o', r.b = some p ∧ r.h = T.put p (some o') h := by
        obtain ⟨ε1, w1, tm1, al1, M1, td', h1, h2, h3, h4, h5⟩ := loud_ready (frs := frs) G R hw (loud_of (m := m) R.rgn ho (by rw [hc]; rfl))
        obtain ⟨rs', hcc, hopd⟩ := h2.opd R.rgn R.ord (a := []) (b := A) rfl rfl (h2.next_ok R.rgn) ho (h2.opv R.rgn o.op)
        obtain ⟨n, w2, z2, _, _, _, k4⟩ := op_s (P := P) G.fits h3 hopd (o := o) (by rw [hcc]; exact hc) hv hz
        rcases k4.put with e | ⟨p, o', e1, _, e2, _⟩
        · exact .inl e
        · exact .inr ⟨p, o', e1, e2⟩
      refine loud_post G R ho hg hw hb hst (by rw [hc]; rfl) rfl rfl (fun ε1 w1 fr1 td' rs' hm ht hops hwant mt1 hw1 hcc hopd => ?_) (Nat.le_refl nx) (frzO_put hz hput)
      obtain ⟨n, w2, z2, k1, k2, k3, k4⟩ := op_s (P := P) G.fits hw1 hopd (o := o) (by rw [hcc]; exact hc) hv hz
      have hs := step_out (P := P) (cs := frs) (w := w1) hm ht hops hwant (.inr hnd) (by rw [eval_opd]; exact k1) k2
      refine ⟨ε1, w2, z2, fr1.defers, Steps.one hs, ⟨Ext.refl _, fun n hn hnone => ⟨hnone, ?_⟩⟩, k3, k4.wr, k4.below, mt1⟩
      rcases k4.put with e | ⟨p, o', _, _, e2, e3⟩
      · rw [e]
      · rw [e2]
        refine T.get_put_ne _ _ fun e => ?_
        rw [e, hnone] at e3; cases e3
theorem co_ap (G : Good W P) (hzo : ZOk c.z nx) (R : RegF W ε h nx b0 True f k m fr g L ops draw A (i :: rest) M td al F0 tm0 k' t') (ho : g.ops[i]? = some o) (hg : GdR g A F0 o true) (hw : WR W B c.z ε h nx w) (hb : b0 ≤ nx) (hst : StackR W f0 cs0 bB ε h b0 m cs frs)
    {gq : E → F → H → Nat → Option HNV} (hc : cOp W (cOpd (A.map fun x => g.dst x.1)) o.op = .ap gq) : CoPost W P B f0 cs0 bB c fr cs frs w ε h nx f m g A i rest k' o (.ap gq) := by
  show Post W P B f0 cs0 bB c.z (oR (gq (A.map (·.2)) f h nx) 4 fun r => bc (frzO c.z r.b) (after _ _ _ _ _ _ _ _ r.h r.nx r.v) (.bad 41)) _ _ _ _ _ _
  cases hv : gq (A.map (·.2)) f h nx with
  | none => trivial
  | some r =>
    show Post W P B f0 cs0 bB c.z (bc (frzO c.z r.b) _ _) _ _ _ _ _ _
    cases hz : frzO c.z r.b with
    | false => trivial
    | true =>
      rw [bc_true]
      have hnd : ∀ c', o.op ≠ .defer c' := fun c' e => by
        have := cOp_kin W (cOpd (A.map fun x => g.dst x.1)) o.op
        rw [hc, e] at this
        simp [Kin, kd, kinOf] at this
      have hfacts : nx ≤ r.nx ∧ Frz c.z h r.h := by
        obtain ⟨ε1, w1, tm1, al1, M1, td', h1, h2, h3, h4, h5⟩ := loud_ready (frs := frs) G R hw (loud_of (m := m) R.rgn ho (by rw [hc]; rfl))
        obtain ⟨rs', hcc, hopd⟩ := h2.opd R.rgn R.ord (a := []) (b := A) rfl rfl (h2.next_ok R.rgn) ho (h2.opv R.rgn o.op)
        obtain ⟨z2, w2, ε2, k1, k2, k3, k4, k5, k6⟩ := op_ap (P := P) G.fits h3 hopd (o := o) (by rw [hcc]; exact hc) hv hz
        refine ⟨k4.le, fun q hq => k6 q (fun e => ?_) (frz_mem hz hq)⟩
        rw [e, hzo nx (Nat.le_refl _)] at hq; cases hq
      refine loud_post G R ho hg hw hb hst (by rw [hc]; rfl) rfl rfl (fun ε1 w1 fr1 td' rs' hm ht hops hwant mt1 hw1 hcc hopd => ?_) hfacts.1 hfacts.2
      obtain ⟨z2, w2, ε2, k1, k2, k3, k4, k5, k6⟩ := op_ap (P := P) G.fits hw1 hopd (o := o) (by rw [hcc]; exact hc) hv hz
      have hs := step_out (P := P) (cs := frs) (w := w1) hm ht hops hwant (.inr hnd) (by rw [eval_opd]; exact k1) (.inl rfl)
      exact ⟨ε2, w2, z2, fr1.defers, Steps.one hs, k4.evb (Nat.le_refl nx), k5, k2, k3, mt1.mono k4.ext⟩
theorem step_defer {fr : Frame} {w : World} {td : List Nat} {k : List Item} {d : Deferred} (hm : fr.mode = .run) (ht : fr.todo = .inRegion ops (i :: td) :: k) (ho : ops[i]? = some o) (hw : Region.wanted o (yielded ops fr.tmps) = true) (hr : fr.roundOf = none)
    (he : (execOp fr.eval o).run P w = .ok (.defer d) w) : Go.step P (lone fr frs w) = .next (lone (({ fr with defers := d :: fr.defers } : Frame).finish Go.undef) frs w) := by
  refine step_lone_go ?_
  rw [stepG_at hm ht ho hw (.inl hr)]
  simp [stepG.apply, he]
theorem co_dfr (G : Good W P) (R : RegF W ε h nx b0 True f k m fr g L ops draw A (i :: rest) M td al F0 tm0 k' t') (ho : g.ops[i]? = some o) (hg : GdR g A F0 o true) (hw : WR W B c.z ε h nx w) (hb : b0 ≤ nx) (hst : StackR W f0 cs0 bB ε h b0 m cs frs)
    {gq : E → F → Option D} (hc : cOp W (cOpd (A.map fun x => g.dst x.1)) o.op = .dfr gq) : CoPost W P B f0 cs0 bB c fr cs frs w ε h nx f m g A i rest k' o (.dfr gq) := by
  unfold CoPost
  show Post W P B f0 cs0 bB c.z (dDfr gq _ _ _ _ _ _ _ _ _ _ (g.pi (ks W m.fn) (A.map (·.1)) (A.map fun x => g.dst x.1) i)) _ _ _ _ _ _
  unfold dDfr
  cases hr : m.rnd with
  | some b => trivial
  | none =>
    simp only []
    cases hv : gq (A.map (·.2)) f with
    | none => trivial
    | some x =>
      show Post W P B f0 cs0 bB c.z (after _ _ _ _ _ _ ⟨m.fn, .call x :: m.dfs, m.kd, none⟩ _ h nx undef) _ _ _ _ _ _
      refine loud_post G R ho hg hw hb hst (by rw [hc]; rfl) (m' := ⟨m.fn, .call x :: m.dfs, m.kd, none⟩) rfl rfl (fun ε1 w1 fr1 td' rs' hm ht hops hwant mt1 hw1 hcc hopd => ?_) (Nat.le_refl nx) (Frz.refl _ _)
      obtain ⟨_, d', k1, k2⟩ := op_dfr (P := P) (w := w1) hopd (o := o) (by rw [hcc]; exact hc) hv
      have hrd := mt1.rnd
      rw [hr] at hrd
      have hs := step_defer (P := P) (frs := frs) (w := w1) hm ht hops hwant hrd (by rw [eval_opd]; exact k1)
      exact ⟨ε1, w1, Go.undef, d' :: fr1.defers, Steps.one hs, EvB.refl _ _ _, rfl, hw1, Below.refl B w1, ⟨mt1.fn, ⟨_, _, rfl, k2, mt1.dfs⟩, mt1.kd, hrd, mt1.has, .inl rfl⟩⟩
theorem step_recover {fr : Frame} {w : World} {td : List Nat} {k : List Item} (hm : fr.mode = .run) (ht : fr.todo = .inRegion ops (i :: td) :: k) (ho : ops[i]? = some o) (hw : Region.wanted o (yielded ops fr.tmps) = true) (hr : fr.roundOf = none)
    (he : (execOp fr.eval o).run P w = .ok .recover w) (htr : tryRecover fr frs = none) : Go.step P (lone fr frs w) = .next (lone (fr.finish .nilIface) frs w) := by
  refine step_lone_go ?_
  rw [stepG_at hm ht ho hw (.inl hr)]
  simp [stepG.apply, he, hr, htr]
theorem co_rc (G : Good W P) (R : RegF W ε h nx b0 True f k m fr g L ops draw A (i :: rest) M td al F0 tm0 k' t') (ho : g.ops[i]? = some o) (hg : GdR g A F0 o true) (hw : WR W B c.z ε h nx w) (hb : b0 ≤ nx) (hst : StackR W f0 cs0 bB ε h b0 m cs frs)
    (hc : cOp W (cOpd (A.map fun x => g.dst x.1)) o.op = .rc) : CoPost W P B f0 cs0 bB c fr cs frs w ε h nx f m g A i rest k' o .rc := by
  unfold CoPost
  show Post W P B f0 cs0 bB c.z (dRc _ _ _ _ _ _ _ _ _ _ (g.pi (ks W m.fn) (A.map (·.1)) (A.map fun x => g.dst x.1) i)) _ _ _ _ _ _
  unfold dRc
  cases hr : m.rnd with
  | some b => trivial
  | none =>
    simp only []
    have key : (∀ fr1 : Frame, fr1.kind = kdOf m.kd → tryRecover fr1 frs = none) → Post W P B f0 cs0 bB c.z (after (mapL (g.rk (o.dst :: A.map fun x => g.dst x.1) (i :: A.map (·.1))) (g.again (A.map (·.1)) i)) (cKeep (ks W m.fn) o.dst)
        (planR W m.fn g ((i, undef) :: A) rest) k' (A.map (·.2)) f m cs h nx .i0) fr frs w ε h nx := by
      intro htr
      refine loud_post G R ho hg hw hb hst (v := .i0) (by rw [hc]; rfl) rfl rfl (fun ε1 w1 fr1 td' rs' hm ht hops hwant mt1 hw1 hcc hopd => ?_) (Nat.le_refl nx) (Frz.refl _ _)
      have hrd := mt1.rnd
      rw [hr] at hrd
      have hs := step_recover (P := P) (frs := frs) (w := w1) hm ht hops hwant hrd (op_rc (W := W) (rs := rs') (by rw [hcc]; exact hc) _ w1).2 (htr fr1 mt1.kd)
      exact ⟨ε1, w1, .nilIface, fr1.defers, Steps.one hs, EvB.refl _ _ _, rfl, hw1, Below.refl B w1, mt1⟩
    cases hk : m.kd with
    | normal =>
      refine key fun fr1 hk1 => ?_
      rw [hk] at hk1
      unfold tryRecover
      rw [hk1]
      rfl
    | deferred =>
      cases cs with
      | nil => trivial
      | cons c0 cs =>
        simp only []
        cases hret : retHead c0.k with
        | false => trivial
        | true =>
          simp only []
          refine key fun fr1 hk1 => ?_
          obtain ⟨fr0, frs', b', rfl, h3, h4, h5, h6⟩ := hst
          have hk0 := h5 hk
          have hmode : fr0.mode = .returning := by
            cases h4 with
            | call g L ops draw A i rest M td al F0 tm0 k' t' r loud => have := r.hk; rw [hk0] at this; cases this
            | loop b y k' t' mt mode hk hy ht kr rel dom => rw [hk0] at hk; cases hk
            | back mt' mode' hk' rel' dom' => exact mode'
          rw [hk] at hk1
          unfold tryRecover
          rw [hk1]
          simp only [kdOf, hmode]
end
end Go.AM
end
end
section
/- An operation's turn: calls, iterators. -/
noncomputable section
namespace Go.AM
open Go.RowKit (Below)

/-- what a call comes to all of whose roads were taken -/
def ExOk (W : Wd) (P : Program) (ef : List V → H → Nat → Option XR) (n : FuncId) : Prop :=
  (∀ as h nx r, ef as h nx = some r → ∃ c, bodyOf W n = some c) ∧
  ∀ (B : Nat) (zf : H) (ε : Env) (as : List V) (args : List Value) (h : H) (nx : Nat) (w : World) (r : XR), WR W B zf ε h nx w → concL ε as = some args → ef as h nx = some r →
    ∀ cs, ∃ ε' w' fr x, Steps P (lone (Frame.enter P n args.toArray .normal) cs w) (lone fr cs w') ∧ fr.leaving P w' (.returned x) ∧ WR W B zf ε' (T.put (pth nx) (some r.o) h) (nx + 1) w' ∧ Below B w w' ∧ conc ε' r.v = some x ∧
      EvB nx ε h ε' (T.put (pth nx) (some r.o) h)

section
variable {W : Wd} {P : Program} {B : Nat} {f0 : FuncId} {cs0 : List Frame} {bB : Nat} {c : Cx} {fr : Frame} {cs : List Fr} {frs : List Frame} {w : World} {ε : Env} {h : H} {nx b0 : Nat} {f : F} {k : List It} {m : Mt}
  {g : Rg} {L : List Nat} {ops : Array Oper} {draw : Bool} {A : List (Nat × V)} {i : Nat} {rest M td : List Nat} {al : Nat → Option Nat} {F0 : F} {tm0 : Array Value} {k' : List It} {t' : List Item} {o : Oper}
theorem step_enter {fr : Frame} {w : World} {td : List Nat} {k : List Item} {n : FuncId} {args : Array Value} (hm : fr.mode = .run) (ht : fr.todo = .inRegion ops (i :: td) :: k) (ho : ops[i]? = some o) (hw : Region.wanted o (yielded ops fr.tmps) = true) (hd : ∀ c, o.op ≠ .defer c)
    (he : (execOp fr.eval o).run P w = .ok (.enter n args) w) : Go.step P (lone fr frs w) = .next (lone (Frame.enter P n args .normal) (fr :: frs) w) := by
  refine step_lone_go ?_
  rw [stepG_at hm ht ho hw (.inr hd)]
  simp [stepG.apply, he, ht]
theorem step_roundE {fr : Frame} {w : World} {td : List Nat} {k : List Item} {l : Nat} {n : FuncId} {tms : Array Value} {asg bd : Code} (hm : fr.mode = .run) (ht : fr.todo = .inRegion ops (i :: td) :: k) (ho : ops[i]? = some o) (hw : Region.wanted o (yielded ops fr.tmps) = true) (hd : ∀ c, o.op ≠ .defer c)
    (he : (execOp fr.eval o).run P w = .ok (.round l n tms asg bd) w) : Go.step P (lone fr frs w) = .next (lone (Frame.round l n tms asg bd .normal) (fr :: frs) w) := by
  refine step_lone_go ?_
  rw [stepG_at hm ht ho hw (.inr hd)]
  simp [stepG.apply, he]
theorem bindP_sound {nt : Nat} : ∀ {ps : List Tmp} {as : List V} {args : List Value} {f f' : F} {tm : Array Value}, FRel ε nt f tm → concL ε as = some args → bindP nt ps as f = some f' →
    ps.length = args.length ∧ FRel ε nt f' ((ps.zip args).foldl (fun tmps (t, a) => tmps.setIfInBounds t a) tm) ∧ ∀ t v, T.get (pth t) f' = some v → T.get (pth t) f = some v ∨ t ∈ ps
  | [], [], args, f, f', tm, h1, h2, h3 => by
    cases h2; cases h3
    exact ⟨rfl, h1, fun t v h => .inl h⟩
  | t :: ps, v :: as, args, f, f', tm, h1, h2, h3 => by
    obtain ⟨a, as', h4, h5, rfl⟩ := concL_cons h2
    obtain ⟨h6, h7⟩ := bc_some (show bc (Nat.blt t nt) (bindP nt ps as (T.put (pth t) (some v) f)) none = some f' from h3)
    have hlt : t < nt := Nat.le_of_ble_eq_true h6
    obtain ⟨g1, g2, g3⟩ := bindP_sound (h1.put hlt h4) h5 h7
    refine ⟨by simp [g1], g2, fun u x hx => ?_⟩
    rcases g3 u x hx with h8 | h8
    · by_cases e : t = u
      · exact .inr (by simp [e])
      · rw [T.get_put_ne _ _ fun k => e (pth_inj k)] at h8; exact .inl h8
    · exact .inr (List.mem_cons_of_mem _ h8)
  | [], _ :: _, _, _, _, _, _, _, h3 => by cases h3
  | _ :: _, [], _, _, _, _, _, _, h3 => by cases h3
theorem co_call (G : Good W P) (hcP : c.P = W) (hz : ZOk c.z nx) (hex : ∀ n ef, c.ex n = some ef → ExOk W P ef n) (R : RegF W ε h nx b0 True f k m fr g L ops draw A (i :: rest) M td al F0 tm0 k' t') (ho : g.ops[i]? = some o) (hg : GdR g A F0 o true)
    (hw : WR W B c.z ε h nx w) (hb : b0 ≤ nx) (hst : StackR W f0 cs0 bB ε h b0 m cs frs)
    {gq : E → F → Option Tg} (hc : cOp W (cOpd (A.map fun x => g.dst x.1)) o.op = .call gq) : CoPost W P B f0 cs0 bB c fr cs frs w ε h nx f m g A i rest k' o (.call gq) := by
  have hnd : ∀ c', o.op ≠ .defer c' := fun c' e => by
    have := cOp_kin W (cOpd (A.map fun x => g.dst x.1)) o.op
    rw [hc, e] at this
    simp [Kin, kd, kinOf] at this
  have hops : ops[i]? = some o := by have := ho; rw [R.rgn.eo] at this; simpa using this
  have hloud := loud_of (m := m) (rs := cOpd (A.map fun x => g.dst x.1)) R.rgn ho (by rw [hc]; rfl)
  unfold CoPost
  show Post W P B f0 cs0 bB c.z (oR (gq (A.map (·.2)) f) 6 _) _ _ _ _ _ _
  cases hv : gq (A.map (·.2)) f with
  | none => trivial
  | some tg =>
    -- the frame that waits
    have hsus : ∀ {ε1 : Env} {tm1 : Array Value} {al1 : Nat → Option Nat} {M1 td' : List Nat}, RegR W m.fn g L ε1 h nx b0 True A (i :: rest) M1 (i :: td') al1 F0 tm0 f tm1 → EvB b0 ε h ε1 h → ∀ m1 : Mt, m1.kd = .normal →
        StackR W f0 cs0 bB ε1 h nx m1 (⟨f, .plan (g.pi (ks W m.fn) (A.map (·.1)) (A.map fun x => g.dst x.1) i :: planR W m.fn g ((i, undef) :: A) rest) (A.map (·.2)) :: k', m⟩ :: cs) ({ fr with tmps := tm1, todo := .inRegion ops (i :: td') :: t' } :: frs) := by
      intro ε1 tm1 al1 M1 td' hR E m1 hm1
      refine ⟨_, _, b0, rfl, hb, .call g L ops draw A i rest M1 td' al1 F0 tm0 k' t' ⟨(R.mt.mono E.ext).same rfl rfl rfl rfl, R.mode, ?_, rfl, R.kr.mono E.ext, R.rgn, R.ord, hR.sleep (EvB.refl _ _ _)⟩ hloud, fun e => ?_, hst.mono E⟩
      · rw [planR_cons m.fn g A i rest undef]
      · rw [hm1] at e; cases e
    cases tg with
    | fn n as =>
      show Post W P B f0 cs0 bB c.z (Option.rec (motive := fun _ => AM.R) _ _ (c.ex n)) _ _ _ _ _ _
      cases hx : c.ex n with
      | none =>
        show Post W P B f0 cs0 bB c.z (enter c.P n as .normal _ h nx) _ _ _ _ _ _
        rw [hcP]
        cases hbo : bodyOf W n with
        | none => unfold enter; rw [hbo]; trivial
        | some body =>
          obtain ⟨fnr, g2, g3⟩ := bodyOf_some hbo
          obtain ⟨ε1, w1, tm1, al1, M1, td', h1, h2, h3, h4, h5⟩ := loud_ready (frs := frs) G R hw hloud
          have hok := h2.next_ok R.rgn
          have hwant := h2.want R.rgn R.ord (a := []) (b := A) rfl rfl hok ho hg
          obtain ⟨rs', hcc, hopd⟩ := h2.opd R.rgn R.ord (a := []) (b := A) rfl rfl hok ho (h2.opv R.rgn o.op)
          rcases op_call (P := P) (w := w1) hopd (o := o) (by rw [hcc]; exact hc) hv with ⟨n', as', args, e, ha, hrun⟩ | ⟨b, as', args, y, e, _⟩
          · cases e
            have hs := step_enter (P := P) (frs := frs) (w := w1) (fr := { fr with tmps := tm1, todo := .inRegion ops (i :: td') :: t' }) R.mode rfl hops hwant hnd (by rw [eval_opd]; exact hrun fnr (G.fits.funcs n fnr g2) (by rw [g3]; rfl) (G.names n fnr g2))
            refine Post.trans (h1.trans (Steps.one hs)) (h5.le hst.base) h4 (Frz.refl _ _) (Nat.le_refl nx) ?_
            exact enter_post G (kd := .normal) ha h3 (hsus h2 h5 _ rfl)
          · cases e
      | some ef =>
        show Post W P B f0 cs0 bB c.z (oR (ef as h nx) 42 _) _ _ _ _ _ _
        obtain ⟨hbody, hexn⟩ := hex n ef hx
        cases hr : ef as h nx with
        | none => trivial
        | some r =>
          obtain ⟨body, hbo⟩ := hbody as h nx r hr
          obtain ⟨fnr, g2, g3⟩ := bodyOf_some hbo
          show Post W P B f0 cs0 bB c.z (after _ _ _ _ _ _ _ _ (T.put (pth nx) (some r.o) h) (nx + 1) r.v) _ _ _ _ _ _
          refine loud_post G R ho hg hw hb hst (by rw [hc]; rfl) rfl rfl (fun ε1 w1 fr1 td' rs' hm ht hops hwant mt1 hw1 hcc hopd => ?_) (Nat.le_succ nx) (frz_new hz (Nat.le_refl _) _ _)
          rcases op_call (P := P) (w := w1) hopd (o := o) (by rw [hcc]; exact hc) hv with ⟨n', as', args, e, ha, hrun⟩ | ⟨b, as', args, y, e, _⟩
          · cases e
            have hs := step_enter (P := P) (frs := frs) (w := w1) hm ht hops hwant hnd (by rw [eval_opd]; exact hrun fnr (G.fits.funcs n fnr g2) (by rw [g3]; rfl) (G.names n fnr g2))
            obtain ⟨ε2, w2, fr2, x, k1, k2, k3, k4, k5, k6⟩ := hexn B c.z ε1 as args h nx w1 r hw1 ha hr (fr1 :: frs)
            exact ⟨ε2, w2, x, fr1.defers, (Steps.head hs k1).trans (Steps.one (step_leave_returned k2)), k6, k5, k3, k4, mt1.mono k6.ext⟩
          · cases e
    | yl b as =>
      show Post W P B f0 cs0 bB c.z (bc (frz c.z b) (yieldTo c.P _ h nx b as) _) _ _ _ _ _ _
      cases hzb : frz c.z b with
      | false => trivial
      | true =>
        rw [bc_true, hcP]
        unfold yieldTo
        split
        · rename_i st pd fn' tm ps asg bd df hl
          cases hbp : bindP (ntOf W fn') ps as tm with
          | none => trivial
          | some f' =>
            simp only []
            obtain ⟨ε1, w1, tm1, al1, M1, td', h1, h2, h3, h4, h5⟩ := loud_ready (frs := frs) G R hw hloud
            have hok := h2.next_ok R.rgn
            have hwant := h2.want R.rgn R.ord (a := []) (b := A) rfl rfl hok ho hg
            obtain ⟨rs', hcc, hopd⟩ := h2.opd R.rgn R.ord (a := []) (b := A) rfl rfl hok ho (h2.opv R.rgn o.op)
            rcases op_call (P := P) (w := w1) hopd (o := o) (by rw [hcc]; exact hc) hv with ⟨n', as', args, e, _⟩ | ⟨b', as', args, y, e, ha, hy, hrun⟩
            · cases e
            · cases e
              obtain ⟨kk, g1, ⟨g2, tmps, yd, g3, g4, rfl⟩, g5⟩ := h3.blk b y _ hy hl
              obtain ⟨j1, j2, j3⟩ := bindP_sound g3 ha hbp
              have hyr : (Instr.yield y.cb args.toArray).run P w1 = .ok (.round y.cb fn' ((ps.zip args).foldl (fun tmps (t, a) => tmps.setIfInBounds t a) tmps) asg bd) w1 := by
                simp only [Instr.yield, Sem.run_bind, getLoop_run g1, Result.andThen_ok]
                have : ¬ (args.toArray.size ≠ ps.toArray.size) := by simp [j1]
                rw [if_neg this]
                simp
              have hs := step_roundE (P := P) (frs := frs) (w := w1) (fr := { fr with tmps := tm1, todo := .inRegion ops (i :: td') :: t' }) R.mode rfl hops hwant hnd (by rw [eval_opd, hrun]; exact hyr)
              refine Post.trans (h1.trans (Steps.one hs)) (h5.le hst.base) h4 (Frz.refl _ _) (Nat.le_refl nx) ?_
              refine Goes.here (s := ⟨f', [.code asg, .begR, .code bd], ⟨fn', [], .normal, some b⟩, _, h, nx⟩) ⟨nx, Nat.le_refl _, h3, .items ⟨rfl, rfl, rfl, ⟨y, hy, rfl⟩, g2.has, .inr rfl⟩ rfl ?_ j2 ?_, hsus h2 h5 _ rfl⟩
              · exact ⟨_, rfl, g2.asg, _, rfl, _, rfl, g2.bd, rfl⟩
              · intro t v ht
                rcases j3 t v ht with h8 | h8
                · exact g2.dom t v h8
                · exact .inr (.inr (List.all_eq_true.1 g2.ps t h8))
        · trivial
end
end Go.AM
end
end
section
/- An operation's turn: iterators. -/
noncomputable section
namespace Go.AM
open Go.RowKit (Below)

theorem memN_contains (n : Nat) (l : List Nat) : memN n l = l.contains n := by
  cases h : memN n l with
  | true => exact (List.contains_iff_mem.2 (memN_iff.1 h)).symm
  | false =>
    cases h2 : l.contains n with
    | false => rfl
    | true => exact absurd (List.contains_iff_mem.1 h2) (memN_false.1 h)
theorem unseen_er {ε : Env} (seen : List Nat) : ∀ {es : List (V × V × Nat)} {xs : List MapEntry}, ER ε es xs → ER ε (unseen seen es) (xs.filter fun e => !seen.contains e.born)
  | [], xs, h => by cases h; rfl
  | (k, v, n) :: es, xs, h => by
    obtain ⟨y, ys, rfl, h1, h2, h3, h4⟩ := h
    have ih := unseen_er seen h4
    show ER ε (bc (memN n seen) (unseen seen es) ((k, v, n) :: unseen seen es)) _
    rw [List.filter_cons, h3, ← memN_contains]
    cases memN n seen with
    | true => simpa [bc] using ih
    | false => exact ⟨y, _, rfl, h1, h2, h3, ih⟩
theorem bornOk_er {ε : Env} {since : Nat} : ∀ {es : List (V × V × Nat)} {xs : List MapEntry}, ER ε es xs → bornOk since es = true → ∀ e ∈ xs, e.born < since
  | [], xs, h, _, e, he => by cases h; cases he
  | (k, v, n) :: es, xs, h, hb, e, he => by
    obtain ⟨y, ys, rfl, h1, h2, h3, h4⟩ := h
    obtain ⟨h5, h6⟩ := bc_and (show bc (Nat.blt n since) (bornOk since es) false = true from hb)
    rcases List.mem_cons.1 he with rfl | he
    · rw [h3]; exact Nat.le_of_ble_eq_true h5
    · exact bornOk_er h4 h6 e he
theorem snocN_eq (n : Nat) : ∀ l : List Nat, snocN l n = l ++ [n]
  | [] => rfl
  | x :: xs => by simp [snocN, snocN_eq n xs]
theorem ER.get {ε : Env} : ∀ {es : List (V × V × Nat)} {xs : List MapEntry} {j : Nat} {e : MapEntry}, ER ε es xs → xs[j]? = some e → ∃ k v, es[j]? = some (k, v, e.born) ∧ conc ε k = some e.key ∧ conc ε v = some e.val
  | [], xs, j, e, h, he => by cases h; simp at he
  | (k, v, n) :: es, xs, j, e, h, he => by
    obtain ⟨y, ys, rfl, h1, h2, h3, h4⟩ := h
    cases j with
    | zero => simp at he; subst he; exact ⟨k, v, by simp [h3], h1, h2⟩
    | succ j =>
      obtain ⟨k', v', h5, h6⟩ := ER.get h4 (by simpa using he)
      exact ⟨k', v', by simpa using h5, h6⟩
section
variable {W : Wd} {P : Program} {B : Nat} {f0 : FuncId} {cs0 : List Frame} {bB : Nat} {c : Cx} {fr : Frame} {cs : List Fr} {frs : List Frame} {w : World} {ε : Env} {h : H} {nx b0 : Nat} {f : F} {k : List It} {m : Mt}
  {g : Rg} {L : List Nat} {ops : Array Oper} {draw : Bool} {A : List (Nat × V)} {i : Nat} {rest M td : List Nat} {al : Nat → Option Nat} {F0 : F} {tm0 : Array Value} {k' : List It} {t' : List Item} {o : Oper}
theorem next_sound (hw : WR W B c.z ε h nx w) {it mp : Pth} {y : Ent} {since : Nat} {seen : List Nat} {es : List (V × V × Nat)} (hy : ε it = some y) (hit : T.get it h = some (.mit mp since seen since)) (hmp : T.get mp h = some (.map es since))
    (hbo : bornOk since es = true) (hzb : T.get it c.z = none) (ty : TypeId) :
    (unseen seen es = [] ∧ (Instr.next (.pointer (some (y.ad 0))) false ty).run P w = .ok (.tuple #[.bool false]) w) ∨
    ∃ (j : Nat) (k v : V) (n : Nat) (kx vx : Value) (w' : World), (unseen seen es)[j]? = some (k, v, n) ∧ conc ε k = some kx ∧ conc ε v = some vx ∧ (Instr.next (.pointer (some (y.ad 0))) false ty).run P w = .ok (.tuple #[.bool true, kx, vx]) w' ∧
      WR W B c.z ε (T.put it (some (.mit mp since (snocN seen n) since)) h) nx w' ∧ Below B w w' := by
  obtain ⟨ko, g1, ⟨ym, hym, rfl⟩, _, hlo⟩ := hw.blk it y _ hy hit
  rw [Ent.ad_at hlo]
  obtain ⟨ko, g2, ⟨xs, hxs, rfl⟩, _⟩ := hw.blk mp ym _ hym hmp
  have hlt := bornOk_er hxs hbo
  have hun := unseen_er seen hxs
  have r1 : ∀ w1 : World, w1.heap = w.heap → (getObj y.cb).run P w1 = .ok (.mapIter (some ym.cb) since seen.toArray since) w1 := fun w1 e => run_getObj (by rw [e]; exact g1) (fun _ _ _ e => by cases e)
  have r2 : ∀ w1 : World, w1.heap = w.heap → (getObj ym.cb).run P w1 = .ok (.map xs.toArray since) w1 := fun w1 e => run_getObj (by rw [e]; exact g2) (fun _ _ _ e => by cases e)
  generalize hleft : (xs.filter fun e => !seen.contains e.born) = left at hun
  have hl1 : xs.toArray.filter (fun e => !seen.toArray.contains e.born) = left.toArray := by
    rw [← hleft]; simp
  have hltl : ∀ e ∈ left, e.born < since := fun e he => hlt e (by rw [← hleft] at he; exact (List.mem_filter.1 he).1)
  have hl2 : left.toArray.filter (fun e => decide (e.born < since)) = left.toArray := by
    simpa using hltl
  have hl3 : left.toArray.filter (fun e => decide (e.born ≥ since)) = #[] := by
    simpa using hltl
  have hcond : (!seen.toArray.isEmpty && !xs.toArray.isEmpty && xs.toArray.all fun e => decide (e.born ≥ since)) = false := by
    cases xs with
    | nil => simp
    | cons x xs =>
      have := hlt x (by simp)
      have h2 : ((x :: xs).toArray.all fun e => decide (e.born ≥ since)) = false := by
        simp only [List.all_toArray', List.all_cons]
        have : decide (x.born ≥ since) = false := by simp; omega
        rw [this]; rfl
      rw [h2, Bool.and_false]
  have hget : ∀ w1 : World, w1.heap = w.heap → (Instr.next (.pointer (some ⟨y.cb, 0, none⟩)) false ty).run P w1 = (do
      let candidates : Array (Option MapEntry) := (if left.toArray.isEmpty then #[none] else #[]) ++ (left.toArray ++ #[]).map some
      match candidates[← choose (.mapNext candidates.size)]? with
      | some (some e) =>
        setObj y.cb (.mapIter (some ym.cb) since (seen.toArray.push e.born) since)
        pure (.tuple #[.bool true, e.key, e.val])
      | some none => pure (.tuple #[.bool false])
      | none => stuck "Next: no such candidate" : Sem Value).run P w1 := by
    intro w1 e1
    simp only [Instr.next, Sem.run_bind, r1 w1 e1, Result.andThen_ok, r2 w1 e1, hcond, Bool.false_eq_true, if_false, hl1, hl2, hl3]
    rfl
  rw [hget w rfl]
  cases left with
  | nil =>
    refine .inl ⟨?_, ?_⟩
    · cases hu : unseen seen es with
      | nil => rfl
      | cons x xs => rw [hu] at hun; obtain ⟨k, v, n⟩ := x; obtain ⟨_, _, e, _⟩ := hun; cases e
    · simp [choose, Sem.run, Question.forced]
  | cons e0 left =>
    refine .inr ?_
    have hch : ∃ j w1, j < (e0 :: left).length ∧ (choose (.mapNext (e0 :: left).length)).run P w = .ok j w1 ∧ (w1 = w ∨ w1 = w.drew) := by
      by_cases hn : (e0 :: left).length ≤ 1
      · exact ⟨0, w, by simp, by simp only [choose, Sem.run, Question.forced, hn, decide_true, if_true], .inl rfl⟩
      · refine ⟨w.tape w.drawn (.mapNext (e0 :: left).length) % (e0 :: left).length, w.drew, Nat.mod_lt _ (by simp), ?_, .inr rfl⟩
        simp only [choose, Sem.run, Question.forced, hn, decide_false, Bool.false_eq_true, if_false, Question.cut]; rfl
    obtain ⟨j, w1, hj, hrun, hw1⟩ := hch
    have hj2 := List.getElem?_eq_getElem hj
    generalize (e0 :: left)[j] = e at hj2
    obtain ⟨k, v, h1, h2, h3⟩ := ER.get hun hj2
    have hh : w1.heap = w.heap := by rcases hw1 with e | e <;> rw [e] <;> rfl
    have hW1 : WR W B c.z ε h nx w1 := by
      rcases hw1 with e | e
      · rw [e]; exact hw
      · rw [e]; exact hw.drew
    have hB1 : Below B w w1 := by
      rcases hw1 with e | e
      · rw [e]; exact Below.refl B w
      · rw [e]; exact Below.drew (Below.refl B w)
    have g1' : w1.heap[y.cb]? = some (.mapIter (some ym.cb) since seen.toArray since) := by rw [hh]; exact g1
    obtain ⟨k1, k2⟩ := hW1.set (o' := .mit mp since (snocN seen e.born) since) (k' := .mapIter (some ym.cb) since (seen.toArray.push e.born) since) hy hit hzb g1' ⟨ym, hym, by rw [snocN_eq]; simp⟩ (fun q => q)
    refine ⟨j, k, v, e.born, e.key, e.val, _, h1, h2, h3, ?_, k1, hB1.trans k2⟩
    have hc : ((if (e0 :: left).toArray.isEmpty then #[none] else #[]) ++ ((e0 :: left).toArray ++ #[]).map some : Array (Option MapEntry)) = ((e0 :: left).map some).toArray := by simp
    simp only [hc, Sem.run_bind]
    have hsz : ((e0 :: left).map some).toArray.size = (e0 :: left).length := by simp
    rw [hsz, hrun, Result.andThen_ok]
    have hgj : ((e0 :: left).map some).toArray[j]? = some (some e) := by
      rw [List.getElem?_toArray, List.getElem?_map, hj2]; rfl
    rw [hgj]
    simp only [Sem.run_bind, setObj_run g1' (fun _ _ _ e => by cases e), Result.andThen_ok, Sem.run_pure]
/-- the machine's next states -/
theorem nexts_get (it mp : Pth) (since : Nat) (seen : List Nat) (d : Kp) (l : List PI) (k : List It) (e : E) (f : F) (mt : Mt) (cs : List Fr) (h : H) (nx : Nat) : ∀ {es : List (V × V × Nat)} {j : Nat} {key v : V} {n : Nat}, es[j]? = some (key, v, n) →
    (⟨putK d (.tu [.bl true, key, v]) f, plK l (.tu [.bl true, key, v] :: e) k, mt, cs, T.put it (some (.mit mp since (snocN seen n) since)) h, nx⟩ : S) ∈ nexts it mp since seen d l k e f mt cs h nx es
  | [], j, _, _, _, hj => by simp at hj
  | (key', v', n') :: es, j, key, v, n, hj => by
    cases j with
    | zero => simp at hj; obtain ⟨rfl, rfl, rfl⟩ := hj; exact List.mem_cons_self
    | succ j => exact List.mem_cons_of_mem _ (nexts_get it mp since seen d l k e f mt cs h nx (by simpa using hj))
theorem co_nx (G : Good W P) (R : RegF W ε h nx b0 True f k m fr g L ops draw A (i :: rest) M td al F0 tm0 k' t') (ho : g.ops[i]? = some o) (hg : GdR g A F0 o true) (hw : WR W B c.z ε h nx w) (hb : b0 ≤ nx) (hst : StackR W f0 cs0 bB ε h b0 m cs frs)
    {gq : E → F → Option V} (hc : cOp W (cOpd (A.map fun x => g.dst x.1)) o.op = .nx gq) : CoPost W P B f0 cs0 bB c fr cs frs w ε h nx f m g A i rest k' o (.nx gq) := by
  have hnd : ∀ c', o.op ≠ .defer c' := fun c' e => by
    have := cOp_kin W (cOpd (A.map fun x => g.dst x.1)) o.op
    rw [hc, e] at this
    simp [Kin, kd, kinOf] at this
  unfold CoPost
  generalize hre : mapL (g.rk (o.dst :: A.map fun x => g.dst x.1) (i :: A.map (·.1))) (g.again (A.map (·.1)) i) = re
  show Post W P B f0 cs0 bB c.z (oR (gq (A.map (·.2)) f) 43 _) _ _ _ _ _ _
  cases hv : gq (A.map (·.2)) f with
  | none => trivial
  | some v =>
    cases re with
    | cons r re => trivial
    | nil =>
      cases v with
      | p it off =>
        cases off with
        | succ n => trivial
        | zero =>
          show Post W P B f0 cs0 bB c.z (match T.get it h with
            | some (.mit mp since seen stepped) => match T.get mp h with
              | some (.map es clock) => bc (Nat.beq clock since) (bc (Nat.beq stepped since) (bc (bornOk since es) (bc (frz c.z it) (match unseen seen es with
                  | [] => .go ⟨putK (cKeep (ks W m.fn) o.dst) (.tu [.bl false]) f, plK (planR W m.fn g ((i, undef) :: A) rest) (.tu [.bl false] :: A.map (·.2)) k', m, cs, h, nx⟩
                  | x :: xs => match xs, nexts it mp since seen (cKeep (ks W m.fn) o.dst) (planR W m.fn g ((i, undef) :: A) rest) k' (A.map (·.2)) f m cs h nx (x :: xs) with
                    | [], s :: _ => .go s
                    | _, ss => .many ss) (.bad 43)) (.bad 43)) (.bad 43)) (.bad 43)
              | _ => .bad 43
            | _ => .bad 43) _ _ _ _ _ _
          split
          · rename_i mp since seen stepped hit
            split
            · rename_i es clock hmp
              cases h1 : Nat.beq clock since with
              | false => trivial
              | true =>
                cases h2 : Nat.beq stepped since with
                | false => trivial
                | true =>
                  cases h3 : bornOk since es with
                  | false => trivial
                  | true =>
                    cases h4 : frz c.z it with
                    | false => trivial
                    | true =>
                      simp only [bc_true]
                      have e1 := Nat.eq_of_beq_eq_true h1
                      have e2 := Nat.eq_of_beq_eq_true h2
                      subst e1; subst e2
                      -- what the model does, given a state of it
                      have key : ∀ (ε1 : Env) (w1 : World) (fr1 : Frame) (rs' : Operand → Bx), cOp W rs' o.op = cOp W (cOpd (A.map fun x => g.dst x.1)) o.op → Opd ε1 rs' (A.map (·.2)) f (AM.opd fr1.tmps) →
                          ∃ y, ε1 it = some y ∧ ∀ {z2 : Value} {w2 : World}, (Instr.next (.pointer (some (y.ad 0))) false o.type).run P w1 = .ok z2 w2 → (execOp (AM.opd fr1.tmps) o).run P w1 = .ok (.value z2) w2 := by
                        intro ε1 w1 fr1 rs' hcc hopd
                        obtain ⟨x, q, e3, e4, e5⟩ := op_nx (W := W) (rs := rs') (by rw [hcc]; exact hc)
                        subst e5
                        have hx := hopd x gq _ e4 hv
                        obtain ⟨y, hy, e6⟩ := conc_p hx
                        refine ⟨y, hy, fun hr => ?_⟩
                        simp only [execOp, e3]
                        exact runV (by rw [e6]; exact hr)
                      have hfr : ∀ o' : O, Frz c.z h (T.put it (some o') h) := fun o' => frz_put h _ h4
                      -- the outcome is settled by the model's state alone
                      have hcase : unseen seen es = [] ∨ unseen seen es ≠ [] := by cases unseen seen es <;> simp
                      rcases hcase with hun | hun
                      · rw [hun]
                        simp only []
                        have := loud_post (z := c.z) G R ho hg hw hb hst (by rw [hc]; rfl) (h' := h) (nx' := nx) (v := .tu [.bl false]) (m' := m) rfl rfl (fun ε1 w1 fr1 td' rs' hm ht hops hwant mt1 hw1 hcc hopd => by
                          obtain ⟨y, hy, hrun⟩ := key ε1 w1 fr1 rs' hcc hopd
                          rcases next_sound (P := P) hw1 hy hit hmp h3 (frz_none h4) o.type with ⟨_, hr⟩ | ⟨j, _, _, _, _, _, _, hj, _⟩
                          · have hs := step_out (P := P) (cs := frs) (w := w1) hm ht hops hwant (.inr hnd) (by rw [eval_opd]; exact hrun hr) (.inl rfl)
                            exact ⟨ε1, w1, .tuple #[.bool false], fr1.defers, Steps.one hs, EvB.refl _ _ _, rfl, hw1, Below.refl B w1, mt1⟩
                          · rw [hun] at hj; simp at hj) (Nat.le_refl nx) (Frz.refl _ _)
                        rw [hre] at this
                        exact this
                      · have hpick : ∀ (x : V × V × Nat) (xs : List (V × V × Nat)) (s : S), s ∈ nexts it mp stepped seen (cKeep (ks W m.fn) o.dst) (planR W m.fn g ((i, undef) :: A) rest) k' (A.map (·.2)) f m cs h nx (x :: xs) → Goes W P B f0 cs0 bB c.z s fr frs w ε h nx →
                            Post W P B f0 cs0 bB c.z (match xs, nexts it mp stepped seen (cKeep (ks W m.fn) o.dst) (planR W m.fn g ((i, undef) :: A) rest) k' (A.map (·.2)) f m cs h nx (x :: xs) with
                              | [], s :: _ => .go s
                              | _, ss => .many ss) fr frs w ε h nx := by
                          intro x xs s hs hgo
                          cases xs with
                          | nil =>
                            obtain ⟨key', v', n'⟩ := x
                            simp only [nexts, List.mem_singleton] at hs ⊢
                            rw [← hs]; exact hgo
                          | cons x' xs => exact ⟨s, hs, hgo⟩
                        obtain ⟨x, xs, hx⟩ : ∃ x xs, unseen seen es = x :: xs := by
                          cases hu : unseen seen es with
                          | nil => exact absurd hu hun
                          | cons x xs => exact ⟨x, xs, rfl⟩
                        rw [hx]
                        simp only []
                        have hops : ops[i]? = some o := by have := ho; rw [R.rgn.eo] at this; simpa using this
                        have hloud := loud_of (m := m) (rs := cOpd (A.map fun x => g.dst x.1)) R.rgn ho (by rw [hc]; rfl)
                        obtain ⟨ε1, w1, tm1, al1, M1, td', q1, q2, q3, q4, q5⟩ := loud_ready (frs := frs) G R hw hloud
                        have hok := q2.next_ok R.rgn
                        have hwant := q2.want R.rgn R.ord (a := []) (b := A) rfl rfl hok ho hg
                        obtain ⟨rs', hcc, hopd⟩ := q2.opd R.rgn R.ord (a := []) (b := A) rfl rfl hok ho (q2.opv R.rgn o.op)
                        obtain ⟨y, hy, hrun⟩ := key ε1 w1 { fr with tmps := tm1, todo := .inRegion ops (i :: td') :: t' } rs' hcc hopd
                        rcases next_sound (P := P) q3 hy hit hmp h3 (frz_none h4) o.type with ⟨hj, _⟩ | ⟨j, kv, vv, n, kx, vx, w2, hj, hk1, hk2, hr, hw2, hb2⟩
                        · exact absurd hj hun
                        · rw [hx] at hj
                          refine hpick x xs _ (nexts_get it mp stepped seen (cKeep (ks W m.fn) o.dst) (planR W m.fn g ((i, undef) :: A) rest) k' (A.map (·.2)) f m cs h nx hj) ?_
                          have hs := step_out (P := P) (cs := frs) (w := w1) (fr := { fr with tmps := tm1, todo := .inRegion ops (i :: td') :: t' }) R.mode rfl hops hwant (.inr hnd) (by rw [eval_opd]; exact hrun hr) (.inl rfl)
                          rw [finish_at rfl hops] at hs
                          have E : ∀ b, EvB b ε1 h ε1 (T.put it (some (.mit mp stepped (snocN seen n) stepped)) h) := fun b => evb_put hy _
                          have hval : conc ε1 (.tu [.bl true, kv, vv]) = some (.tuple #[.bool true, kx, vx]) := conc_tu_mk (concL_mk rfl (concL_mk hk1 (concL_mk hk2 rfl)))
                          have hreg := q2.exec R.rgn ho (E nx) hval (Nat.le_refl nx)
                          refine Goes.trans (q1.trans (Steps.one hs)) ((q5.le hst.base).trans (E bB)) (q4.trans hb2) (hfr _) (Nat.le_refl nx) ?_
                          exact after_go (re := []) (z := c.z) G ((R.mt.mono q5.ext).same rfl rfl rfl rfl) R.mode rfl (R.kr.mono q5.ext) R.rgn R.ord hreg hloud ho hre.symm hw2 hb ((hst.mono q5).mono (E b0))
            · trivial
          · trivial
      | _ => trivial
end
end Go.AM
end
end
section
/- One step of the machine, many steps. -/
noncomputable section
namespace Go.AM
open Go.RowKit (Below)

section
variable {W : Wd} {P : Program} {B : Nat} {f0 : FuncId} {cs0 : List Frame} {bB : Nat} {c : Cx} {fr : Frame} {cs : List Fr} {frs : List Frame} {w : World} {ε : Env} {h : H} {nx b0 : Nat} {f : F} {k : List It} {m : Mt}
  {g : Rg} {L : List Nat} {ops : Array Oper} {draw : Bool} {A : List (Nat × V)} {i : Nat} {rest M td : List Nat} {al : Nat → Option Nat} {F0 : F} {tm0 : Array Value} {k' : List It} {t' : List Item} {o : Oper}
theorem co_post (G : Good W P) (hcP : c.P = W) (hz : ZOk c.z nx) (hex : ∀ n ef, c.ex n = some ef → ExOk W P ef n) (R : RegF W ε h nx b0 True f k m fr g L ops draw A (i :: rest) M td al F0 tm0 k' t') (ho : g.ops[i]? = some o) (hg : GdR g A F0 o true)
    (hw : WR W B c.z ε h nx w) (hb : b0 ≤ nx) (hst : StackR W f0 cs0 bB ε h b0 m cs frs) : CoPost W P B f0 cs0 bB c fr cs frs w ε h nx f m g A i rest k' o (cOp W (cOpd (A.map fun x => g.dst x.1)) o.op) := by
  cases hc : cOp W (cOpd (A.map fun x => g.dst x.1)) o.op with
  | q gq => exact co_q G R ho hg hw hb hst hc
  | m gq => exact co_m G R ho hg hw hb hst hc
  | a gq => exact co_a G hz R ho hg hw hb hst hc
  | s gq => exact co_s G R ho hg hw hb hst hc
  | ap gq => exact co_ap G hz R ho hg hw hb hst hc
  | call gq => exact co_call G hcP hz hex R ho hg hw hb hst hc
  | dfr gq => exact co_dfr G R ho hg hw hb hst hc
  | nx gq => exact co_nx G R ho hg hw hb hst hc
  | rc => exact co_rc G R ho hg hw hb hst hc
  | bad => trivial
theorem plan_post (G : Good W P) (hcP : c.P = W) (hz : ZOk c.z nx) (hex : ∀ n ef, c.ex n = some ef → ExOk W P ef n) (R : RegF W ε h nx b0 True f k m fr g L ops draw A rest M td al F0 tm0 k' t')
    (hw : WR W B c.z ε h nx w) (hb : b0 ≤ nx) (hst : StackR W f0 cs0 bB ε h b0 m cs frs) : Post W P B f0 cs0 bB c.z (stPlan c (planR W m.fn g A rest) (A.map (·.2)) k' f m cs h nx) fr frs w ε h nx := by
  cases rest with
  | nil => exact reg_go (z := c.z) G R.mt R.mode R.ht R.kr R.rgn R.ord R.reg hw hb hst
  | cons i rest =>
    obtain ⟨hlt, hni⟩ := R.reg.next_not R.rgn
    have ho : ∃ o, g.ops[i]? = some o := by
      rw [R.rgn.en, ← R.rgn.eo] at hlt
      exact ⟨_, List.getElem?_eq_getElem hlt⟩
    obtain ⟨o, ho⟩ := ho
    have hpi := comp_pi (W := W) m.fn (A := A) ho
    have hst' : stPlan c (g.pi (ks W m.fn) (A.map (·.1)) (A.map fun x => g.dst x.1) i :: planR W m.fn g ((i, undef) :: A) rest) (A.map (·.2)) k' f m cs h nx =
        Gd.rec (motive := fun _ => AM.R)
          (doCO c (cOp g.P (cOpd (A.map fun x => g.dst x.1)) o.op) (mapL (g.rk (o.dst :: A.map fun x => g.dst x.1) (i :: A.map (·.1))) (g.again (A.map (·.1)) i)) (cKeep (ks W m.fn) o.dst) (planR W m.fn g ((i, undef) :: A) rest) k' (A.map (·.2)) f m cs h nx (g.pi (ks W m.fn) (A.map (·.1)) (A.map fun x => g.dst x.1) i))
          (fun q w => oR (q (A.map (·.2)) f) 19 fun v => bc (wantB v w) (doCO c (cOp g.P (cOpd (A.map fun x => g.dst x.1)) o.op) (mapL (g.rk (o.dst :: A.map fun x => g.dst x.1) (i :: A.map (·.1))) (g.again (A.map (·.1)) i)) (cKeep (ks W m.fn) o.dst) (planR W m.fn g ((i, undef) :: A) rest) k' (A.map (·.2)) f m cs h nx (g.pi (ks W m.fn) (A.map (·.1)) (A.map fun x => g.dst x.1) i))
            (.go ⟨putK (cKeep (ks W m.fn) o.dst) undef f, plK (planR W m.fn g ((i, undef) :: A) rest) (undef :: A.map (·.2)) k', m, cs, h, nx⟩))
          (.bad 19) (cGuard g.ops (A.map fun x => g.dst x.1) o) := by
      generalize g.pi (ks W m.fn) (A.map (·.1)) (A.map fun x => g.dst x.1) i = pi at hpi ⊢
      subst hpi
      rfl
    rw [planR_cons m.fn g A i rest undef, hst', R.rgn.eP]
    have hco : GdR g A F0 o true → Post W P B f0 cs0 bB c.z (doCO c (cOp W (cOpd (A.map fun x => g.dst x.1)) o.op) (mapL (g.rk (o.dst :: A.map fun x => g.dst x.1) (i :: A.map (·.1))) (g.again (A.map (·.1)) i)) (cKeep (ks W m.fn) o.dst) (planR W m.fn g ((i, undef) :: A) rest) k' (A.map (·.2)) f m cs h nx
        (g.pi (ks W m.fn) (A.map (·.1)) (A.map fun x => g.dst x.1) i)) fr frs w ε h nx := fun hg => co_post G hcP hz hex R ho hg hw hb hst
    unfold cGuard
    cases hgd : o.guard with
    | none =>
      refine hco ?_
      unfold GdR; rw [hgd]
    | some jw =>
      obtain ⟨j, want⟩ := jw
      simp only []
      cases hp : getL j g.ops with
      | none => trivial
      | some p =>
        simp only []
        cases hd : p.dst with
        | none => trivial
        | some d =>
          simp only []
          obtain ⟨q, h1, h2⟩ := cOpd_eval g A f (.tmp d)
          rw [h1]
          show Post W P B f0 cs0 bB c.z (oR (q (A.map (·.2)) f) 19 _) _ _ _ _ _ _
          rw [h2]
          have h3 : opv g A f (.tmp d) = slot g A F0 d := R.reg.fsame R.rgn d
          rw [h3]
          have hdj : g.dst j = some d := by
            rw [getL_eq] at hp
            rw [Rg.dst_of hp, hd]
          cases hs : slot g A F0 d with
          | none => trivial
          | some u =>
            show Post W P B f0 cs0 bB c.z (bc (wantB u want) _ _) _ _ _ _ _ _
            cases hwb : wantB u want with
            | true =>
              refine hco ?_
              unfold GdR; rw [hgd]
              exact ⟨d, u, hdj, hs, hwb⟩
            | false =>
              refine co_not (c := c) G R ho ?_ hw hb hst
              unfold GdR; rw [hgd]
              exact ⟨d, u, hdj, hs, hwb⟩
theorem step_post (G : Good W P) (hcP : c.P = W) (hex : ∀ n ef, c.ex n = some ef → ExOk W P ef n) {s : S} (hz : ZOk c.z s.nx) (hs : SimR W B f0 cs0 bB c.z s fr frs w ε) : Post W P B f0 cs0 bB c.z (step c s) fr frs w ε s.h s.nx := by
  obtain ⟨f, k, m, cs, h, nx⟩ := s
  obtain ⟨b0, hb, hw, hfr, hst⟩ := hs.ex
  simp only at hb hw hfr hst hz
  show Post W P B f0 cs0 bB c.z (List.rec (motive := fun _ => R) (leave c.z none f m cs h nx) (fun i k _ => stIt c i k f m cs h nx) k) _ _ _ _ _ _
  cases hfr with
  | reg g L ops draw A rest M td al F0 tm0 k' t' r =>
    have hk := r.hk
    subst hk
    exact plan_post G hcP hz hex r hw hb hst
  | back mt mode hk rel dom =>
    subst hk
    exact ret_post G hcP mt mode rel dom hw hb hst
  | items mt mode kr rel dom =>
    cases k with
    | nil => exact leave_post G mt mode (.none kr) (fun _ id e => by cases e) rel dom hw hb hst
    | cons i k =>
      cases i with
      | code x => obtain ⟨t, h1, h2, h3⟩ := kr; exact code_post G hcP hz x mt mode h1 h2 h3 rel dom hw hb hst
      | blk id =>
        obtain ⟨t, h1, h3⟩ := kr
        refine Post.one (s_blk mode h1) ?_
        exact Goes.here (s := ⟨f, k, m, cs, h, nx⟩) ⟨b0, hb, hw, .items (mt.same rfl rfl rfl rfl) mode h3 rel dom, hst⟩
      | lp b =>
        obtain ⟨t, h1, h2, h3⟩ := kr
        refine Post.one (s_inLoop mode h1) ?_
        exact code_post G hcP hz b (k := .lp b :: k) (t := .inLoop b :: t) (mt.same rfl rfl rfl rfl) mode rfl h2 ⟨t, rfl, h2, h3⟩ rel dom hw hb hst
      | scp =>
        obtain ⟨t, b, h1, h3⟩ := kr
        refine Post.one (s_scp mode h1) ?_
        exact Goes.here (s := ⟨f, k, m, cs, h, nx⟩) ⟨b0, hb, hw, .items (mt.same rfl rfl rfl rfl) mode h3 rel dom, hst⟩
      | plan l e => exact kr.elim
      | inRF b => exact kr.elim
      | endRF b => obtain ⟨t, y, h1, h2, h3⟩ := kr; exact endRF_post mt mode h1 h2 h3 rel dom hw hb hst
      | begR => obtain ⟨t, h1, h3⟩ := kr; exact begR_post mt mode h1 h3 rel dom hw hb hst
      | ret => exact kr.elim
theorem Goes.then {z : H} {r : AM.R} {s : S} (hg : Goes W P B f0 cs0 bB z s fr frs w ε h nx) (hp : ∀ {ε1 : Env} {fr1 : Frame} {frs1 : List Frame} {w1 : World}, SimR W B f0 cs0 bB z s fr1 frs1 w1 ε1 → Post W P B f0 cs0 bB z r fr1 frs1 w1 ε1 s.h s.nx) :
    Post W P B f0 cs0 bB z r fr frs w ε h nx := by
  obtain ⟨ε', fr', cs', w', g1, g2, g3, g4, g5, g6⟩ := hg
  exact Post.trans g1 g3 g4 g5 g6 (hp g2)
theorem run2_post (G : Good W P) (hcP : c.P = W) (hex : ∀ n ef, c.ex n = some ef → ExOk W P ef n) : ∀ (n : Nat) {s : S} {fr : Frame} {frs : List Frame} {w : World} {ε : Env}, ZOk c.z s.nx → SimR W B f0 cs0 bB c.z s fr frs w ε → Post W P B f0 cs0 bB c.z (run2 c n s) fr frs w ε s.h s.nx
  | 0, _, _, _, _, _, hz, hs => step_post G hcP hex hz hs
  | n + 1, s, fr, frs, w, ε, hz, hs => by
    have h1 := run2_post G hcP hex n hz hs
    show Post W P B f0 cs0 bB c.z (R.rec (motive := fun _ => R) (fun s' => run2 c n s') .many (fun v h nx => .done v h nx) .bad (run2 c n s)) _ _ _ _ _ _
    cases hr : run2 c n s with
    | go s' =>
      rw [hr] at h1
      have hn : s.nx ≤ s'.nx := by obtain ⟨_, _, _, _, _, _, _, _, _, g⟩ := h1; exact g
      exact Goes.then h1 fun h2 => run2_post G hcP hex n (hz.mono hn) h2
    | many l => rw [hr] at h1; exact h1
    | done v h nx => rw [hr] at h1; exact h1
    | bad k => trivial
end
end Go.AM
end
end
