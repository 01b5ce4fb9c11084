/- Parts of the proof, joined: AmSim3 AmSim4 AmSim5 AmSim6. -/
import Derived.Test.YtfhfilkicbdboaaGreatAm07
section
/- Steps through a function's text; leaving; walks over functions. -/
noncomputable section
namespace Go.AM
open Go.RowKit (Below)

/-! the model's steps -/
section
variable {P : Program} {fr : Frame} {cs : List Frame} {w : World} {t : List Item}
theorem s_skip (hm : fr.mode = .run) (ht : fr.todo = .code .skip :: t) : Go.step P (lone fr cs w) = .next (lone { fr with todo := t } cs w) := by
  refine step_lone_go ?_
  obtain ⟨fn, tm, todo, dfs, mode, kind, rnd⟩ := fr
  simp only at hm ht; subst hm; subst ht; simp [stepG, stepG.exec]
theorem s_label {l : Nat} (hm : fr.mode = .run) (ht : fr.todo = .code (.label l) :: t) : Go.step P (lone fr cs w) = .next (lone { fr with todo := t } cs w) := by
  refine step_lone_go ?_
  obtain ⟨fn, tm, todo, dfs, mode, kind, rnd⟩ := fr
  simp only at hm ht; subst hm; subst ht; simp [stepG, stepG.exec]
theorem s_blk {id : Nat} (hm : fr.mode = .run) (ht : fr.todo = .inBlock id :: t) : Go.step P (lone fr cs w) = .next (lone { fr with todo := t } cs w) := by
  refine step_lone_go ?_
  obtain ⟨fn, tm, todo, dfs, mode, kind, rnd⟩ := fr
  simp only at hm ht; subst hm; subst ht; simp [stepG, stepG.exec]
theorem s_scp {b : Code} (hm : fr.mode = .run) (ht : fr.todo = .inScope b :: t) : Go.step P (lone fr cs w) = .next (lone { fr with todo := t } cs w) := by
  refine step_lone_go ?_
  obtain ⟨fn, tm, todo, dfs, mode, kind, rnd⟩ := fr
  simp only at hm ht; subst hm; subst ht; simp [stepG, stepG.exec]
theorem s_seq {a b : Code} (hm : fr.mode = .run) (ht : fr.todo = .code (.seq a b) :: t) : Go.step P (lone fr cs w) = .next (lone { fr with todo := .code a :: .code b :: t } cs w) := by
  refine step_lone_go ?_
  obtain ⟨fn, tm, todo, dfs, mode, kind, rnd⟩ := fr
  simp only at hm ht; subst hm; subst ht; simp [stepG, stepG.exec]
theorem s_cond {x : Operand} {a b : Code} {v : Bool} (hm : fr.mode = .run) (ht : fr.todo = .code (.cond x a b) :: t) (hv : opd fr.tmps x = .bool v) :
    Go.step P (lone fr cs w) = .next (lone { fr with todo := .code (if v then a else b) :: t } cs w) := by
  refine step_lone_go ?_
  rw [← eval_opd] at hv
  obtain ⟨fn, tm, todo, dfs, mode, kind, rnd⟩ := fr
  simp only at hm ht; subst hm; subst ht; simp [stepG, stepG.exec, hv]
theorem s_block {id : Nat} {b : Code} (hm : fr.mode = .run) (ht : fr.todo = .code (.block id b) :: t) : Go.step P (lone fr cs w) = .next (lone { fr with todo := .code b :: .inBlock id :: t } cs w) := by
  refine step_lone_go ?_
  obtain ⟨fn, tm, todo, dfs, mode, kind, rnd⟩ := fr
  simp only at hm ht; subst hm; subst ht; simp [stepG, stepG.exec]
theorem s_loop {b : Code} (hm : fr.mode = .run) (ht : fr.todo = .code (.loop b) :: t) : Go.step P (lone fr cs w) = .next (lone { fr with todo := .code b :: .inLoop b :: t } cs w) := by
  refine step_lone_go ?_
  obtain ⟨fn, tm, todo, dfs, mode, kind, rnd⟩ := fr
  simp only at hm ht; subst hm; subst ht; simp [stepG, stepG.exec]
theorem s_inLoop {b : Code} (hm : fr.mode = .run) (ht : fr.todo = .inLoop b :: t) : Go.step P (lone fr cs w) = .next (lone { fr with todo := .code b :: .inLoop b :: t } cs w) := by
  refine step_lone_go ?_
  obtain ⟨fn, tm, todo, dfs, mode, kind, rnd⟩ := fr
  simp only at hm ht; subst hm; subst ht; simp [stepG, stepG.exec]
theorem s_scope {b : Code} (hm : fr.mode = .run) (ht : fr.todo = .code (.scope b) :: t) : Go.step P (lone fr cs w) = .next (lone { fr with todo := .code b :: .inScope b :: t } cs w) := by
  refine step_lone_go ?_
  obtain ⟨fn, tm, todo, dfs, mode, kind, rnd⟩ := fr
  simp only at hm ht; subst hm; subst ht; simp [stepG, stepG.exec]
theorem s_exit {id : Nat} {t' : List Item} (hm : fr.mode = .run) (ht : fr.todo = .code (.exit id) :: t) (he : Go.exitTo id t = some t') : Go.step P (lone fr cs w) = .next (lone { fr with todo := t' } cs w) := by
  refine step_lone_go ?_
  obtain ⟨fn, tm, todo, dfs, mode, kind, rnd⟩ := fr
  simp only at hm ht; subst hm; subst ht; simp [stepG, stepG.exec, he]
theorem s_region {id : Nat} {ops : Array Oper} (hm : fr.mode = .run) (ht : fr.todo = .code (.region id ops false) :: t) :
    Go.step P (lone fr cs w) = .next (lone { fr with todo := .inRegion ops (List.range ops.size) :: t } cs w) := by
  refine step_lone_go ?_
  obtain ⟨fn, tm, todo, dfs, mode, kind, rnd⟩ := fr
  simp only at hm ht; subst hm; subst ht; simp [stepG, stepG.exec]
theorem s_draw {id : Nat} {ops : Array Oper} (hm : fr.mode = .run) (ht : fr.todo = .code (.region id ops true) :: t) :
    Go.step P (lone fr cs w) = .next (lone { fr with todo := .inRegion ops (Region.schedule (P.follows .mixedOrders) ops (w.tape w.drawn (.order fr.fn id))) :: t } cs w.drew) := by
  refine step_lone_go ?_
  obtain ⟨fn, tm, todo, dfs, mode, kind, rnd⟩ := fr
  simp only at hm ht; subst hm; subst ht
  simp [stepG, stepG.exec, choose, Sem.run, Question.forced, Question.cut]
/-- leaving a frame that is no round -/
theorem s_ret (hm : fr.mode = .run) (hr : fr.roundOf = none) (ht : fr.todo = .code .ret :: t ∨ fr.todo = []) : Go.step P (lone fr cs w) = .next (lone { fr with mode := .returning } cs w) := by
  refine step_lone_go ?_
  obtain ⟨fn, tm, todo, dfs, mode, kind, rnd⟩ := fr
  simp only at hm ht hr; subst hm; subst hr
  rcases ht with ht | ht <;> subst ht <;> simp [stepG, stepG.exec]
/-- how a round ends -/
inductive Jump (fr : Frame) : Option Code → Prop where
  | none (h : fr.todo = []) : Jump fr none
  | ret (t : List Item) (h : fr.todo = .code .ret :: t) : Jump fr (some .ret)
  | exit (id : Nat) (t : List Item) (h : fr.todo = .code (.exit id) :: t) (he : Go.exitTo id t = Option.none) : Jump fr (some (.exit id))
theorem s_round {c : Frame} {l : Nat} {jump : Option Code} {w' : World} {v : Value} (hm : fr.mode = .run) (hk : fr.kind = .normal) (hr : fr.roundOf = some l) (hj : Jump fr jump)
    (he : (Instr.endRound l jump).run P w = .ok v w') : Go.step P (lone fr (c :: cs) w) = .next (lone (c.finish v) cs w') := by
  refine step_lone_go ?_
  obtain ⟨fn, tm, todo, dfs, mode, kind, rnd⟩ := fr
  simp only at hm hr hk; subst hm; subst hr; subst hk
  cases hj with
  | none h => simp only at h; subst h; simp [stepG, stepG.exec, he, doReturn]
  | ret t h => simp only at h; subst h; simp [stepG, stepG.exec, he, doReturn]
  | exit id t h he' => simp only at h; subst h; simp [stepG, stepG.exec, he, he', doReturn]
theorem s_begR {l : Nat} {w' : World} (hm : fr.mode = .run) (hr : fr.roundOf = some l) (ht : fr.todo = .beginRound :: t) (he : (Instr.beginRound l).run P w = .ok () w') :
    Go.step P (lone fr cs w) = .next (lone { fr with todo := t } cs w') := by
  refine step_lone_go ?_
  obtain ⟨fn, tm, todo, dfs, mode, kind, rnd⟩ := fr
  simp only at hm hr ht; subst hm; subst hr; subst ht
  simp [stepG, stepG.exec, stepG.apply, he, Frame.finish]
theorem s_endRF {l : Nat} {w' : World} {j : Option Code} (hm : fr.mode = .run) (ht : fr.todo = .endRangeFunc l :: t) (he : (Instr.endLoop l).run P w = .ok j w') :
    Go.step P (lone fr cs w) = .next (lone { fr with todo := (j.map Item.code).toList ++ t } cs w') := by
  refine step_lone_go ?_
  obtain ⟨fn, tm, todo, dfs, mode, kind, rnd⟩ := fr
  simp only at hm ht; subst hm; subst ht
  simp [stepG, stepG.exec, he]
end

/-! exits -/
theorem exitTo_kr {W : Wd} {fn : FuncId} {ε : Env} {id : Nat} : ∀ {k : List It} {ts : List Item}, KR W fn ε k ts →
    (∀ k', AM.exitTo id k = some k' → ∃ t', Go.exitTo id ts = some t' ∧ KR W fn ε k' t') ∧ (AM.exitTo id k = none → Go.exitTo id ts = none)
  | [], ts, h => by cases h; exact ⟨fun k' e => (by cases e), fun _ => rfl⟩
  | i :: k, ts, h => by
    cases i with
    | code c => obtain ⟨t, rfl, h2, h3⟩ := h; exact ⟨fun k' e => (exitTo_kr h3).1 k' e, fun e => (exitTo_kr h3).2 e⟩
    | blk j =>
      obtain ⟨t, rfl, h3⟩ := h
      show (∀ k', bc (Nat.beq j id) (some k) (AM.exitTo id k) = some k' → _) ∧ (bc (Nat.beq j id) (some k) (AM.exitTo id k) = none → _)
      cases hb : Nat.beq j id with
      | true =>
        have := Nat.eq_of_beq_eq_true hb
        subst this
        exact ⟨fun k' e => (by cases e; exact ⟨t, by simp [Go.exitTo], h3⟩), fun e => (by cases e)⟩
      | false =>
        have hne := Nat.ne_of_beq_eq_false hb
        have he : Go.exitTo id (.inBlock j :: t) = Go.exitTo id t := by simp [Go.exitTo, hne]
        rw [he]
        exact exitTo_kr h3
    | lp b => obtain ⟨t, rfl, h2, h3⟩ := h; exact ⟨fun k' e => (exitTo_kr h3).1 k' e, fun e => (exitTo_kr h3).2 e⟩
    | scp => obtain ⟨t, b, rfl, h3⟩ := h; exact ⟨fun k' e => (exitTo_kr h3).1 k' e, fun e => (exitTo_kr h3).2 e⟩
    | begR => obtain ⟨t, rfl, h3⟩ := h; exact ⟨fun k' e => (exitTo_kr h3).1 k' e, fun e => (exitTo_kr h3).2 e⟩
    | endRF b => obtain ⟨t, y, rfl, h2, h3⟩ := h; exact ⟨fun k' e => (exitTo_kr h3).1 k' e, fun e => (exitTo_kr h3).2 e⟩
    | plan _ _ => exact h.elim
    | inRF _ => exact h.elim
    | ret => exact h.elim

/-! blocks of walks over functions -/
section
variable {W : Wd} {P : Program} {B : Nat} {zf : H} {ε : Env} {h : H} {nx : Nat} {w : World}
theorem getLoop_run {r : Nat} {l : Loop} (hb : w.heap[r]? = some (.loop l)) : (Instr.getLoop r).run P w = .ok l w := by
  simp [Instr.getLoop, run_getObj hb (fun _ _ _ e => by cases e)]
theorem setObj_run {r : Nat} {o o' : Obj} (hb : w.heap[r]? = some o) (ho : ∀ c el fz, o ≠ .cells c el fz) : (setObj r o').run P w = .ok () { w with heap := w.heap.setIfInBounds r o' } := by
  cases o with
  | cells c el fz => exact absurd rfl (ho c el fz)
  | _ => simp [setObj, Sem.run, hb]
/-- a block that is no row of cells is turned -/
theorem WR.set (hw : WR W B zf ε h nx w) {b : Pth} {x : Ent} {o o' : O} {k k' : Obj} (hx : ε b = some x) (ho : T.get b h = some o) (hzb : T.get b zf = none) (hk : w.heap[x.cb]? = some k) (hr : OR W ε x o' k') (hlo : LoOk x o → LoOk x o') :
    WR W B zf ε (T.put b (some o') h) nx { w with heap := w.heap.setIfInBounds x.cb k' } ∧ Below B w { w with heap := w.heap.setIfInBounds x.cb k' } := by
  have hlt := (Array.getElem?_eq_some_iff.1 hk).1
  have hb : B ≤ x.cb := by obtain ⟨_, _, _, h3, _⟩ := hw.blk b x o hx ho; exact h3 hzb
  have hl : LoOk x o := by obtain ⟨_, _, _, _, h4⟩ := hw.blk b x o hx ho; exact h4
  have hs : (w.heap.setIfInBounds x.cb k').size = w.heap.size := by simp
  have hq : ∀ i, i ≠ x.cb → (w.heap.setIfInBounds x.cb k')[i]? = w.heap[i]? := fun i hi => setObj_other w x.cb k' i hi
  exact ⟨hw.turn (w' := { w with heap := w.heap.setIfInBounds x.cb k' }) hx ho hzb hs (Array.getElem?_setIfInBounds_self_of_lt hlt) hr (hlo hl) hq, Below.of_turn hb rfl rfl rfl hs hq⟩
theorem evb_put {b0 : Nat} {b : Pth} {x : Ent} (hx : ε b = some x) (v : Option O) : EvB b0 ε h ε (T.put b v h) :=
  ⟨Ext.refl ε, fun n _ hn => ⟨hn, T.get_put_ne _ _ fun e => by rw [← e, hx] at hn; cases hn⟩⟩
end

section
variable {W : Wd} {P : Program} {B : Nat} {f0 : FuncId} {cs0 : List Frame} {bB : Nat} {z : H} {r : R} {fr : Frame} {cs : List Fr} {frs : List Frame} {w : World} {ε : Env} {h : H} {nx b0 : Nat} {f : F} {k : List It} {m : Mt}
theorem okIn_has (G : Good W P) {n : FuncId} : npOf W n ≤ ntOf W n ∨ bodyOf W n = none := by
  have hok := G.ok n
  unfold okFn at hok
  unfold bodyOf
  cases hf : W.fun n with
  | none => exact .inr rfl
  | some fn =>
    rw [hf] at hok
    simp only [] at hok ⊢
    cases hb : fn.body with
    | none => exact .inr rfl
    | some c =>
      rw [hb] at hok
      exact .inl (Nat.le_of_ble_eq_true (bc_and hok).1)
/-- leaving -/
theorem leave_post (G : Good W P) {jump : Option Code} (mt : MtR W ε m fr) (mode : fr.mode = .run) (hj : Jump fr jump) (hjk : m.rnd = none → ∀ id, jump ≠ some (.exit id))
    (rel : FRel ε (ntOf W m.fn) f fr.tmps) (dom : Doms W m.fn f) (hw : WR W B z ε h nx w) (hb : b0 ≤ nx) (hst : StackR W f0 cs0 bB ε h b0 m cs frs) :
    Post W P B f0 cs0 bB z (leave z jump f m cs h nx) fr frs w ε h nx := by
  obtain ⟨fn, dfs, kd, rnd⟩ := m
  cases rnd with
  | none =>
    have hs : Go.step P (lone fr frs w) = .next (lone { fr with mode := .returning } frs w) := by
      cases hj with
      | none h => exact s_ret mode mt.rnd (t := []) (.inr h)
      | ret t h => exact s_ret mode mt.rnd (.inl h)
      | exit id t h he => exact absurd rfl (hjk rfl id)
    refine Post.one hs ?_
    exact Goes.here (s := ⟨f, [.ret], ⟨fn, dfs, kd, none⟩, cs, h, nx⟩) ⟨b0, hb, hw, .back (mt.same rfl rfl rfl rfl) rfl rfl rel dom, hst⟩
  | some b =>
    show Post W P B f0 cs0 bB z (bc (frz z b) _ _) _ _ _ _ _ _
    cases hz : frz z b with
    | false => trivial
    | true =>
      rw [bc_true]
      split
      · rename_i st pd fn' tm ps asg bd df c cs' hl
        obtain ⟨y, hy, hr⟩ := mt.rnd
        obtain ⟨kk, h1, ⟨h2, tmps, yd, h3, h4, rfl⟩, h5⟩ := hw.blk b y _ hy hl
        have hkn : fr.kind = .normal := by
          rw [mt.kd]
          rcases mt.rk with h | h
          · cases h
          · rw [h]; rfl
        obtain ⟨c0, frs', b', rfl, hb', hsus, _, hst'⟩ := hst
        -- the round's end in the model
        have hend : ∀ st' : LoopState, ∀ pd' : Option Code, st' = (if jump.isNone then .ready else .done) → pd' = jump →
            (Instr.endRound y.cb jump).run P w = .ok (.bool jump.isNone) { w with heap := w.heap.setIfInBounds y.cb (.loop { state := st', pending := pd', fn := fn', tmps := tmps, params := ps.toArray, assign := asg, body := bd, defers := yd.cb }) } := by
          intro st' pd' e1 e2
          subst e1; subst e2
          simp only [Instr.endRound, Sem.run_bind, getLoop_run h1, Result.andThen_ok, setObj_run h1 (fun _ _ _ e => by cases e), Sem.run_pure]
        have key : ∀ (st' : LoopState) (bv : Bool), st' = (if jump.isNone then LoopState.ready else .done) → bv = jump.isNone → (∀ c, jump = some c → c = .ret ∨ ∃ id, c = .exit id) →
            Post W P B f0 cs0 bB z (finish c (.bl bv) cs' (T.put b (some (.loop st' jump fn' tm ps asg bd df)) h) nx) fr (c0 :: frs') w ε h nx := by
          intro st' bv e1 e2 hokj
          obtain ⟨g1, g2⟩ := hw.set (o' := .loop st' jump fn' tm ps asg bd df) hy hl (frz_none hz) h1 ⟨⟨h2.dom, h2.ps, h2.asg, h2.bd, hokj, h2.has⟩, tmps, yd, h3, h4, rfl⟩ (fun q => q)
          have hs := s_round (P := P) (cs := frs') (c := c0) mode hkn hr hj (hend st' jump e1 rfl)
          have E : ∀ n, EvB n ε h ε (T.put b (some (.loop st' jump fn' tm ps asg bd df)) h) := fun n => evb_put hy _
          refine Post.trans (Steps.one hs) (E _) g2 (frz_put h _ hz) (Nat.le_refl _) ?_
          exact finish_post G (ε := ε) (by rw [e2]; rfl) g1 hb hb' (hsus.mono (E _)) (hst'.mono (E _))
        have hfn : ∀ c, jump = some c → c = .ret ∨ ∃ id, c = .exit id := by
          intro c hc
          cases hj with
          | none h => cases hc
          | ret t h => cases hc; exact .inl rfl
          | exit id t h he => cases hc; exact .inr ⟨id, rfl⟩
        cases jump with
        | none => exact key .ready true rfl rfl hfn
        | some j => exact key .done false rfl rfl hfn
      · trivial
end
end Go.AM
end
end
section
/- Steps through a function's text. -/
noncomputable section
namespace Go.AM
open Go.RowKit (Below)

section
variable {W : Wd} {P : Program} {B : Nat} {f0 : FuncId} {cs0 : List Frame} {bB : Nat} {c : Cx} {fr : Frame} {cs : List Fr} {frs : List Frame} {w : World} {ε : Env} {h : H} {nx b0 : Nat} {f : F} {k : List It} {m : Mt} {t : List Item}
/-- an operand outside of regions -/
theorem opd_out {nt : Nat} {tm : Array Value} (rel : FRel ε nt f tm) {x : Operand} {q : Q} {v : V} (hq : cOpd [] x = .mk q) (hv : q [] f = some v) : conc ε v = some (opd tm x) := by
  cases x with
  | tmp t =>
    simp only [cOpd, ixOf] at hq
    cases hq
    obtain ⟨y, h1, h2⟩ := rel.get t v hv
    rw [h1]; simp [opd, Array.getD_eq_getD_getElem?, h2]
  | const c => cases hq; exact cV_conc hv
  | global _ => cases hq; cases hv
  | func n => cases hq; cases hv; rfl
theorem Post.from {z : H} {r : R} {fr1 : Frame} {w1 : World} (hs : Go.step P (lone fr frs w) = .next (lone fr1 frs w1)) (hb : Below B w w1) (hp : Post W P B f0 cs0 bB z r fr1 frs w1 ε h nx) : Post W P B f0 cs0 bB z r fr frs w ε h nx :=
  Post.trans (Steps.one hs) (EvB.refl _ _ _) hb (Frz.refl _ _) (Nat.le_refl _) hp
/-- a region begins -/
theorem region_post (G : Good W P) (hc : c.P = W) {id : Nat} {ops : Array Oper} {draw : Bool} (mt : MtR W ε m fr) (mode : fr.mode = .run) (ht : fr.todo = .code (.region id ops draw) :: t) (hok : okIn W m.fn (.region id ops draw) = true)
    (kr : KR W m.fn ε k t) (rel : FRel ε (ntOf W m.fn) f fr.tmps) (dom : Doms W m.fn f) (hw : WR W B c.z ε h nx w) (hb : b0 ≤ nx) (hst : StackR W f0 cs0 bB ε h b0 m cs frs) :
    Post W P B f0 cs0 bB c.z (stReg c ops draw k f m cs h nx) fr frs w ε h nx := by
  obtain ⟨g, hg, hp⟩ := okReg_rgn hok
  have hr : stReg c ops draw k f m cs h nx = .go ⟨f, .plan (plan c.P m.fn ops draw) [] :: k, m, cs, h, nx⟩ := by cases m; rfl
  rw [hr, hc, hp]
  have hn : g.n = ops.size := by rw [hg.en]; simp
  have fin : ∀ {L : List Nat} {w1 : World}, Ord g L → WR W B c.z ε h nx w1 → Goes W P B f0 cs0 bB c.z ⟨f, .plan (g.comp (keepOf W.keep m.fn) [] [] (orderOf g)) [] :: k, m, cs, h, nx⟩ { fr with todo := .inRegion ops L :: t } frs w1 ε h nx := by
    intro L w1 O hw1
    exact Goes.here (s := ⟨f, .plan (g.comp (keepOf W.keep m.fn) [] [] (orderOf g)) [] :: k, m, cs, h, nx⟩) ⟨b0, hb, hw1, .reg g L ops draw [] (orderOf g) [] L (fun _ => none) f fr.tmps k t
      ⟨mt.same rfl rfl rfl rfl, mode, rfl, rfl, kr, hg, O, RegR.start rel dom⟩, hst⟩
  cases draw with
  | false =>
    refine Post.from (s_region mode ht) (Below.refl B w) (fin ?_ hw)
    rw [← hn]; exact Ord.range hg.dr
  | true =>
    refine Post.from (s_draw mode ht) (Below.drew (Below.refl B w)) (fin ?_ hw.drew)
    rw [G.mixed]; exact Ord.drawn hg _
/-- what may not be written is old -/
def ZOk (z : H) (b : Nat) : Prop := ∀ n, b ≤ n → T.get (pth n) z = none
theorem ZOk.mono {z : H} {b c : Nat} (h : ZOk z b) (k : b ≤ c) : ZOk z c := fun n hn => h n (Nat.le_trans k hn)
theorem frz_new {z : H} {b n : Nat} (hz : ZOk z b) (hn : b ≤ n) (h : H) (v : Option O) : Frz z h (T.put (pth n) v h) := fun p hp =>
  T.get_put_ne _ _ fun e => by rw [← e, hz n hn] at hp; cases hp
/-- a walk over a function begins -/
theorem enterRF_post (G : Good W P) (hc : c.P = W) (hz : ZOk c.z nx) {x : Operand} {ps : Array Tmp} {asg bd : Code} (mt : MtR W ε m fr) (mode : fr.mode = .run) (ht : fr.todo = .code (.rangeFunc x ps asg bd) :: t) (hok : okIn W m.fn (.rangeFunc x ps asg bd) = true)
    (kr : KR W m.fn ε k t) (rel : FRel ε (ntOf W m.fn) f fr.tmps) (dom : Doms W m.fn f) (hw : WR W B c.z ε h nx w) (hb : b0 ≤ nx) (hst : StackR W f0 cs0 bB ε h b0 m cs frs) :
    Post W P B f0 cs0 bB c.z (enterRF c x ps asg bd k f m cs h nx) fr frs w ε h nx := by
  obtain ⟨mfn, mdfs, mkd, mrnd⟩ := m
  unfold enterRF
  cases mrnd with
  | some b => trivial
  | none =>
    simp only []
    cases hq : cOpd [] x with
    | mk q =>
      simp only [bx]
      cases hv : q [] f with
      | none => trivial
      | some v =>
        cases v with
        | fn n fst cap =>
          simp only []
          rw [hc]
          have hx := opd_out rel hq hv
          obtain ⟨fa, ca, h1, h2, h3⟩ := conc_fn hx
          simp only [okIn, okCode] at hok
          obtain ⟨hps, hok2⟩ := bc_and hok
          obtain ⟨hasg, hbd⟩ := bc_and hok2
          -- the two blocks
          have f1 := (hw.fresh nx (Nat.le_refl _)).1
          obtain ⟨k1, k2, k3⟩ := hw.make (o := .dfr []) (k := .deferred (some [])) 0 0 ⟨[], rfl, rfl⟩
          have hw1 : (w.alloc (.deferred (some []))).heap.size = w.heap.size + 1 := by simp
          obtain ⟨j1, j2, j3⟩ := k1.make (o := .loop .ready none mfn f ps.toList asg bd (pth nx))
            (k := .loop { state := .ready, pending := none, fn := mfn, tmps := fr.tmps, params := ps, assign := asg, body := bd, defers := w.heap.size }) 0 0
            ⟨⟨dom, hps, hasg, hbd, fun c e => (by cases e), mt.has⟩, fr.tmps, ⟨w.heap.size, 0, 0, 0⟩, (rel.mono k3.ext).mono (Env.upd_ext _ (k1.fresh _ (Nat.le_refl _)).1),
              by rw [Env.upd_ne _ _ fun e => by have := pth_inj e; omega]; exact Env.upd_same _ _ _, by simp⟩
          have hy := Env.upd_same (ε.upd (pth nx) ⟨w.heap.size, 0, 0, 0⟩) (pth (nx + 1)) ⟨(w.alloc (.deferred (some []))).heap.size, 0, 0, 0⟩
          have hyd : (ε.upd (pth nx) ⟨w.heap.size, 0, 0, 0⟩).upd (pth (nx + 1)) ⟨(w.alloc (.deferred (some []))).heap.size, 0, 0, 0⟩ (pth nx) = some ⟨w.heap.size, 0, 0, 0⟩ := by
            rw [Env.upd_ne _ _ fun e => by have := pth_inj e; omega]; exact Env.upd_same _ _ _
          generalize hε : (ε.upd (pth nx) ⟨w.heap.size, 0, 0, 0⟩).upd (pth (nx + 1)) ⟨(w.alloc (.deferred (some []))).heap.size, 0, 0, 0⟩ = ε2 at *
          have hext : Ext ε ε2 := k3.ext.trans j3.ext
          have E : ∀ b, b ≤ nx → EvB b ε h ε2 (T.put (pth (nx + 1)) (some (.loop .ready none mfn f ps.toList asg bd (pth nx))) (T.put (pth nx) (some (.dfr [])) h)) := fun b hb =>
            (k3.evb hb).trans (j3.evb (Nat.le_succ_of_le hb))
          -- the model's step
          cases hbo : bodyOf W n with
          | none => unfold enter; rw [hbo]; trivial
          | some body =>
            obtain ⟨fnr, g1, g2⟩ := bodyOf_some hbo
            have hrun : ∀ w', (callFunc n (fa.toArray ++ #[.func (.yield (w.heap.size + 1)) #[] #[]] ++ ca.toArray)).run P w' = .ok (.enter n (fa.toArray ++ #[.func (.yield (w.heap.size + 1)) #[] #[]] ++ ca.toArray)) w' :=
              fun w' => callFunc_run (G.fits.funcs n fnr g1) (by rw [g2]; rfl) (G.names n fnr g1) _ w'
            have hs : Go.step P (lone fr frs w) = .next (lone (Frame.enter P n (fa.toArray ++ #[.func (.yield (w.heap.size + 1)) #[] #[]] ++ ca.toArray) .normal)
                ({ fr with todo := .inRangeFunc (w.heap.size + 1) :: t, defers := { target := .collected w.heap.size, args := #[] } :: fr.defers } :: frs)
                ((w.alloc (.deferred (some []))).alloc (.loop { state := .ready, pending := none, fn := mfn, tmps := fr.tmps, params := ps, assign := asg, body := bd, defers := w.heap.size }))) := by
              refine step_lone_go ?_
              have hfn := mt.fn
              have hrd := mt.rnd
              rw [← eval_opd] at h3
              obtain ⟨fn, tm, todo, dfs, mode, kind, rnd⟩ := fr
              simp only [RndR] at mode ht hfn hrd; subst mode; subst ht; subst hfn; subst hrd
              have hev : ∀ (todo : List Item) (dfs : List Deferred), Frame.eval { fn := fn, tmps := tm, todo := todo, defers := dfs, mode := .run, kind := kind, roundOf := none } x = .func (.func n) fa.toArray ca.toArray := fun todo dfs => by
                rw [← h3, eval_opd, eval_opd]
              have hinv : ∀ (todo : List Item) (dfs : List Deferred) (w' : World), (do
                  let d ← resolve (Frame.eval { fn := fn, tmps := tm, todo := todo, defers := dfs, mode := .run, kind := kind, roundOf := none }) { callee := .value x, args := #[.const (.func (.yield (w.heap.size + 1)) #[] #[])], argTypes := #[] } 0
                  invoke d.target d.args : Sem Next).run P w' = .ok (.enter n (fa.toArray ++ #[.func (.yield (w.heap.size + 1)) #[] #[]] ++ ca.toArray)) w' := by
                intro todo dfs w'
                rw [← hrun w']
                have ha : Array.map (Frame.eval { fn := fn, tmps := tm, todo := todo, defers := dfs, mode := .run, kind := kind, roundOf := none }) #[.const (.func (.yield (w.heap.size + 1)) #[] #[])] = #[.func (.yield (w.heap.size + 1)) #[] #[]] := by
                  simp [Frame.eval]
                simp only [resolve, hev todo dfs, ha]
                rfl
              have hel : (Instr.enterLoop fn tm ps asg bd none).run P w = .ok (w.heap.size + 1, [{ target := .collected w.heap.size, args := #[] }])
                  ((w.alloc (.deferred (some []))).alloc (.loop { state := .ready, pending := none, fn := fn, tmps := tm, params := ps, assign := asg, body := bd, defers := w.heap.size })) := by
                simp [Instr.enterLoop]
              simp [stepG, stepG.exec, hel, stepG.apply, hinv]
            have hb1 : Below B w ((w.alloc (.deferred (some []))).alloc (.loop { state := .ready, pending := none, fn := mfn, tmps := fr.tmps, params := ps, assign := asg, body := bd, defers := w.heap.size })) := k2.trans j2
            refine Post.trans (nx1 := nx + 2) (Steps.one hs) (E bB (Nat.le_trans hst.base hb)) hb1 ?_ (Nat.le_add_right _ _) ?_
            · exact (frz_new hz (Nat.le_refl _) h _).trans (frz_new hz (Nat.le_succ _) _ _)
            · have hargs : concL ε2 (fst ++ (.yl (pth (nx + 1)) :: cap)) = some (fa ++ (.func (.yield (w.heap.size + 1)) #[] #[] :: ca)) := by
                refine concL_append (concL_mono hext _ _ h1) (concL_mk ?_ (concL_mono hext _ _ h2))
                rw [conc, hy, hw1]; rfl
              have hargs2 : (fa ++ (.func (.yield (w.heap.size + 1)) #[] #[] :: ca)).toArray = fa.toArray ++ #[.func (.yield (w.heap.size + 1)) #[] #[]] ++ ca.toArray := by simp
              have := enter_post (z := c.z) (f0 := f0) (cs0 := cs0) (bB := bB) (kd := .normal) (n := n) (cs := ⟨f, .inRF (pth (nx + 1)) :: k, ⟨mfn, .coll (pth nx) :: mdfs, mkd, none⟩⟩ :: cs)
                (frs := { fr with todo := .inRangeFunc (w.heap.size + 1) :: t, defers := { target := .collected w.heap.size, args := #[] } :: fr.defers } :: frs) G hargs j1
                ⟨_, _, b0, rfl, by omega, .loop (pth (nx + 1)) _ k t ⟨mt.fn, ⟨_, _, rfl, ⟨_, hyd, rfl⟩, mt.dfs.mono hext⟩, mt.kd, mt.rnd, mt.has, mt.rk⟩ mode rfl hy (by rw [hw1]) (kr.mono hext) (rel.mono hext) dom, fun e => (by cases e), StackR.ofMt (m := ⟨mfn, mdfs, mkd, none⟩) (m' := ⟨mfn, .coll (pth nx) :: mdfs, mkd, none⟩) rfl rfl (hst.mono (E b0 hb))⟩
              rw [hargs2] at this
              exact this
        | _ => trivial
/-- a text -/
theorem code_post (G : Good W P) (hc : c.P = W) (hz : ZOk c.z nx) (x : Code) : ∀ {k : List It} {fr : Frame} {t : List Item} {w : World}, MtR W ε m fr → fr.mode = .run → fr.todo = .code x :: t → okIn W m.fn x = true → KR W m.fn ε k t →
    FRel ε (ntOf W m.fn) f fr.tmps → Doms W m.fn f → WR W B c.z ε h nx w → b0 ≤ nx → StackR W f0 cs0 bB ε h b0 m cs frs → Post W P B f0 cs0 bB c.z (stCode c x k f m cs h nx) fr frs w ε h nx := by
  induction x with
  | skip =>
    intro k fr t w mt mode ht hok kr rel dom hw hb hst
    refine Post.one (s_skip mode ht) ?_
    exact Goes.here (s := ⟨f, k, m, cs, h, nx⟩) ⟨b0, hb, hw, .items (mt.same rfl rfl rfl rfl) mode kr rel dom, hst⟩
  | label l =>
    intro k fr t w mt mode ht hok kr rel dom hw hb hst
    refine Post.one (s_label mode ht) ?_
    exact Goes.here (s := ⟨f, k, m, cs, h, nx⟩) ⟨b0, hb, hw, .items (mt.same rfl rfl rfl rfl) mode kr rel dom, hst⟩
  | region id ops draw =>
    intro k fr t w mt mode ht hok kr rel dom hw hb hst
    exact region_post G hc mt mode ht hok kr rel dom hw hb hst
  | seq a b iha ihb =>
    intro k fr t w mt mode ht hok kr rel dom hw hb hst
    obtain ⟨h1, h2⟩ := bc_and (show bc _ _ _ = _ from hok)
    refine Post.one (s_seq mode ht) ?_
    exact iha (k := .code b :: k) (t := .code b :: t) (mt.same rfl rfl rfl rfl) mode rfl h1 ⟨t, rfl, h2, kr⟩ rel dom hw hb hst
  | cond x a b iha ihb =>
    intro k fr t w mt mode ht hok kr rel dom hw hb hst
    obtain ⟨h1, h2⟩ := bc_and (show bc _ _ _ = _ from hok)
    show Post W P B f0 cs0 bB c.z (oR (bx (cOpd [] x) fun q => q [] f) 20 fun v => stCond v (stCode c a k f m cs h nx) (stCode c b k f m cs h nx)) _ _ _ _ _ _
    cases hq : cOpd [] x with
    | mk q =>
      simp only [bx]
      cases hv : q [] f with
      | none => trivial
      | some v =>
        show Post W P B f0 cs0 bB c.z (stCond v _ _) _ _ _ _ _ _
        cases v with
        | bl v =>
          have hx : conc ε (.bl v) = some (opd fr.tmps x) := opd_out rel hq hv
          have hs := s_cond (P := P) (cs := frs) (w := w) mode ht (v := v) (Option.some.inj hx).symm
          refine Post.one hs ?_
          cases v with
          | true => exact iha (mt.same rfl rfl rfl rfl) mode rfl h1 kr rel dom hw hb hst
          | false => exact ihb (mt.same rfl rfl rfl rfl) mode rfl h2 kr rel dom hw hb hst
        | _ => trivial
  | block id b ih =>
    intro k fr t w mt mode ht hok kr rel dom hw hb hst
    refine Post.one (s_block mode ht) ?_
    exact ih (k := .blk id :: k) (t := .inBlock id :: t) (mt.same rfl rfl rfl rfl) mode rfl hok ⟨t, rfl, kr⟩ rel dom hw hb hst
  | loop b ih =>
    intro k fr t w mt mode ht hok kr rel dom hw hb hst
    refine Post.one (s_loop mode ht) ?_
    exact ih (k := .lp b :: k) (t := .inLoop b :: t) (mt.same rfl rfl rfl rfl) mode rfl hok ⟨t, rfl, hok, kr⟩ rel dom hw hb hst
  | rangeFunc x ps asg bd _ _ =>
    intro k fr t w mt mode ht hok kr rel dom hw hb hst
    exact enterRF_post G hc hz mt mode ht hok kr rel dom hw hb hst
  | exit id =>
    intro k fr t w mt mode ht hok kr rel dom hw hb hst
    show Post W P B f0 cs0 bB c.z (stExit c.z id k f m cs h nx) _ _ _ _ _ _
    unfold stExit
    obtain ⟨e1, e2⟩ := exitTo_kr (id := id) kr
    cases he : AM.exitTo id k with
    | some k' =>
      obtain ⟨t', h1, h2⟩ := e1 k' he
      refine Post.one (s_exit mode ht h1) ?_
      exact Goes.here (s := ⟨f, k', m, cs, h, nx⟩) ⟨b0, hb, hw, .items (mt.same rfl rfl rfl rfl) mode h2 rel dom, hst⟩
    | none =>
      simp only []
      cases hr : m.rnd with
      | none => trivial
      | some b => exact leave_post G mt mode (.exit id t ht (e2 he)) (fun h => by rw [hr] at h; cases h) rel dom hw hb hst
  | scope b ih =>
    intro k fr t w mt mode ht hok kr rel dom hw hb hst
    refine Post.one (s_scope mode ht) ?_
    exact ih (k := .scp :: k) (t := .inScope b :: t) (mt.same rfl rfl rfl rfl) mode rfl hok ⟨t, b, rfl, kr⟩ rel dom hw hb hst
  | goto l => intros; trivial
  | ret =>
    intro k fr t w mt mode ht hok kr rel dom hw hb hst
    show Post W P B f0 cs0 bB c.z (stRetC c.z k f m cs h nx) _ _ _ _ _ _
    unfold stRetC
    have hl := leave_post (z := c.z) G (jump := some .ret) mt mode (.ret t ht) (fun _ id e => by cases e) rel dom hw hb hst
    cases hr : m.rnd with
    | some b => exact hl
    | none =>
      unfold leave at hl
      rw [hr] at hl
      exact hl
  | refuse w => intros; trivial

/-! rounds, the end of a walk, the end of a function -/
theorem begR_post (mt : MtR W ε m fr) (mode : fr.mode = .run) (ht : fr.todo = .beginRound :: t) (kr : KR W m.fn ε k t) (rel : FRel ε (ntOf W m.fn) f fr.tmps) (dom : Doms W m.fn f) (hw : WR W B c.z ε h nx w) (hb : b0 ≤ nx)
    (hst : StackR W f0 cs0 bB ε h b0 m cs frs) : Post W P B f0 cs0 bB c.z (begRound c.z k f m cs h nx) fr frs w ε h nx := by
  unfold begRound
  cases hr : m.rnd with
  | none => trivial
  | some b =>
    simp only []
    split
    · rename_i pd fn' tm ps asg bd df hl
      cases hz : frz c.z b with
      | false => trivial
      | true =>
        rw [bc_true]
        have hrnd := mt.rnd
        rw [hr] at hrnd
        obtain ⟨y, hy, hro⟩ := hrnd
        obtain ⟨kk, h1, ⟨h2, tmps, yd, h3, h4, rfl⟩, h5⟩ := hw.blk b y _ hy hl
        obtain ⟨g1, g2⟩ := hw.set (o' := .loop .busy pd fn' tm ps asg bd df) (k' := .loop { state := .busy, pending := pd, fn := fn', tmps := tmps, params := ps.toArray, assign := asg, body := bd, defers := yd.cb }) hy hl (frz_none hz) h1
          ⟨h2, tmps, yd, h3, h4, rfl⟩ (fun q => q)
        have hs := s_begR (P := P) (cs := frs) (w := w) (t := t) mode hro ht (w' := { w with heap := w.heap.setIfInBounds y.cb (.loop { state := .busy, pending := pd, fn := fn', tmps := tmps, params := ps.toArray, assign := asg, body := bd, defers := yd.cb }) }) (by
          simp only [Instr.beginRound, Sem.run_bind, getLoop_run h1, Result.andThen_ok, setObj_run h1 (fun _ _ _ e => by cases e), Sem.run_pure])
        have E : ∀ n, EvB n ε h ε (T.put b (some (.loop .busy pd fn' tm ps asg bd df)) h) := fun n => evb_put hy _
        refine Post.trans (Steps.one hs) (E _) g2 (frz_put h _ hz) (Nat.le_refl nx) ?_
        exact Goes.here (s := ⟨f, k, m, cs, T.put b (some (.loop .busy pd fn' tm ps asg bd df)) h, nx⟩) ⟨b0, hb, g1, .items (mt.same rfl rfl rfl rfl) mode kr rel dom, hst.mono (E _)⟩
    · trivial
theorem endRF_post {b : Pth} {y : Ent} (mt : MtR W ε m fr) (mode : fr.mode = .run) (ht : fr.todo = .endRangeFunc y.cb :: t) (hy : ε b = some y) (kr : KR W m.fn ε k t) (rel : FRel ε (ntOf W m.fn) f fr.tmps) (dom : Doms W m.fn f)
    (hw : WR W B c.z ε h nx w) (hb : b0 ≤ nx) (hst : StackR W f0 cs0 bB ε h b0 m cs frs) : Post W P B f0 cs0 bB c.z (endLoop c.z b k f m cs h nx) fr frs w ε h nx := by
  unfold endLoop
  split
  · rename_i st pd fn' tm ps asg bd df hl
    have key : ∀ k2 : List It, ((∀ c, pd = some c → c = .ret ∨ ∃ id, c = .exit id) → KR W m.fn ε k2 ((pd.map Item.code).toList ++ t)) → (st == .busy) = false →
        Post W P B f0 cs0 bB c.z (bc (frz c.z b) (.go ⟨f, k2, m, cs, T.put b (some (.loop .exhausted pd fn' tm ps asg bd df)) h, nx⟩) (.bad 41)) fr frs w ε h nx := by
      intro k2 hk2 hst'
      cases hz : frz c.z b with
      | false => trivial
      | true =>
        rw [bc_true]
        obtain ⟨kk, h1, ⟨h2, tmps, yd, h3, h4, rfl⟩, h5⟩ := hw.blk b y _ hy hl
        obtain ⟨g1, g2⟩ := hw.set (o' := .loop .exhausted pd fn' tm ps asg bd df) (k' := .loop { state := .exhausted, pending := pd, fn := fn', tmps := tmps, params := ps.toArray, assign := asg, body := bd, defers := yd.cb }) hy hl (frz_none hz) h1
          ⟨h2, tmps, yd, h3, h4, rfl⟩ (fun q => q)
        have hs := s_endRF (P := P) (cs := frs) (w := w) (t := t) (j := pd) mode ht (w' := { w with heap := w.heap.setIfInBounds y.cb (.loop { state := .exhausted, pending := pd, fn := fn', tmps := tmps, params := ps.toArray, assign := asg, body := bd, defers := yd.cb }) }) (by
          simp only [Instr.endLoop, Sem.run_bind, getLoop_run h1, Result.andThen_ok, hst', setObj_run h1 (fun _ _ _ e => by cases e), Sem.run_pure, Bool.false_eq_true, if_false])
        have E : ∀ n, EvB n ε h ε (T.put b (some (.loop .exhausted pd fn' tm ps asg bd df)) h) := fun n => evb_put hy _
        refine Post.trans (Steps.one hs) (E _) g2 (frz_put h _ hz) (Nat.le_refl nx) ?_
        exact Goes.here (s := ⟨f, k2, m, cs, T.put b (some (.loop .exhausted pd fn' tm ps asg bd df)) h, nx⟩) ⟨b0, hb, g1, .items (mt.same rfl rfl rfl rfl) mode (hk2 h2.pd) rel dom, hst.mono (E _)⟩
    cases st with
    | busy => trivial
    | _ =>
      refine key _ (fun hp => ?_) rfl
      clear key hl
      cases pd with
      | none => exact kr
      | some j => exact ⟨t, rfl, (by rcases hp j rfl with e | ⟨id, e⟩ <;> rw [e] <;> rfl), kr⟩
  · trivial
end
end Go.AM
end
end
section
/- The end of a function: results, deferred calls. -/
noncomputable section
namespace Go.AM
open Go.RowKit (Below)

section
variable {W : Wd} {P : Program} {B : Nat} {f0 : FuncId} {cs0 : List Frame} {bB : Nat} {c : Cx} {fr : Frame} {cs : List Fr} {frs : List Frame} {w : World} {ε : Env} {h : H} {nx b0 : Nat} {f : F} {k : List It} {m : Mt} {t : List Item}
theorem loadVar_sound (hf : Fits W P) (hw : WR W B c.z ε h nx w) {t : TypeId} (hk : okT W t = true) {b : Pth} {y : Ent} {off : Nat} {v : V} (hy : ε b = some y)
    (hv : bc (isAgg W t) (ob (rdN h b off (szOf W t)) fun l => some (V.ag l)) (rd1 h b off) = some v) : ∃ u, (loadVar t (y.ad off)).run P w = .ok u w ∧ conc ε v = some u := by
  have hia := run_isAggOk hf hk w
  have hsz := run_szOk hf hk w
  cases hag : isAgg W t with
  | true =>
    rw [hag, bc_true] at hv
    obtain ⟨l, hl, h4⟩ := ob_eq hv
    cases h4
    obtain ⟨us, h5, _, h7⟩ := rdN_run (P := P) hw hy hl
    refine ⟨.agg us.toArray, ?_, conc_ag_mk h5⟩
    simp [loadVar, hia, hag, hsz, h7]
  | false =>
    rw [hag, bc_false] at hv
    obtain ⟨z, h5, h6⟩ := rd1_run (P := P) hw hy hv
    refine ⟨z, ?_, h5⟩
    simp only [Sem.run_bind, Result.andThen_ok, loadVar, hia, hag]
    exact h6
/-- a result -/
def resF (tm : Array Value) : ResultVar → Sem Value
  | .tmp t => pure (tm.getD t Go.undef)
  | .cell a t => do loadVar t (← asAddr (tm.getD a Go.undef))
theorem resV_sound (hf : Fits W P) (hw : WR W B c.z ε h nx w) {nt : Nat} {tm : Array Value} (rel : FRel ε nt f tm) : ∀ {rs : List ResultVar} {vs : List V}, resV h W f rs = some vs →
    ∃ us, concL ε vs = some us ∧ (rs.mapM (resF tm)).run P w = .ok us w
  | [], vs, hv => by cases hv; exact ⟨[], rfl, by simp⟩
  | .tmp t :: rs, vs, hv => by
    obtain ⟨v, h1, h2⟩ := ob_eq (show ob (T.get (pth t) f) (fun v => ob (resV h W f rs) fun vs => some (v :: vs)) = some vs from hv)
    obtain ⟨vs', h3, h4⟩ := ob_eq h2
    cases h4
    obtain ⟨x, h5, h6⟩ := rel.get t v h1
    obtain ⟨us, h7, h8⟩ := resV_sound hf hw rel h3
    refine ⟨x :: us, concL_mk h5 h7, ?_⟩
    have : tm.getD t Go.undef = x := by simp [Array.getD_eq_getD_getElem?, h6]
    simp only [List.mapM_cons, Sem.run_bind, Sem.run_pure, Result.andThen_ok, resF, this, h8]
  | .cell a t :: rs, vs, hv => by
    obtain ⟨av, h1, h2⟩ := ob_eq (show ob (T.get (pth a) f) (fun av => onP av fun b off => bc (okT W t) (bc (isAgg W t)
      (ob (rdN h b off (szOf W t)) fun l => ob (resV h W f rs) fun vs => some (.ag l :: vs))
      (ob (rd1 h b off) fun v => ob (resV h W f rs) fun vs => some (v :: vs))) none) = some vs from hv)
    obtain ⟨b, off, rfl, h3⟩ := onP_some h2
    obtain ⟨hk, h4⟩ := bc_some h3
    obtain ⟨x, h5, h6⟩ := rel.get a _ h1
    obtain ⟨y, hy, rfl⟩ := conc_p h5
    have hex : ∃ v vs', bc (isAgg W t) (ob (rdN h b off (szOf W t)) fun l => some (V.ag l)) (rd1 h b off) = some v ∧ resV h W f rs = some vs' ∧ vs = v :: vs' := by
      cases hag : isAgg W t with
      | true =>
        rw [hag, bc_true] at h4
        obtain ⟨l, g1, g2⟩ := ob_eq h4
        obtain ⟨vs', g3, g4⟩ := ob_eq g2
        cases g4
        exact ⟨.ag l, vs', by rw [bc_true, g1]; rfl, g3, rfl⟩
      | false =>
        rw [hag, bc_false] at h4
        obtain ⟨v, g1, g2⟩ := ob_eq h4
        obtain ⟨vs', g3, g4⟩ := ob_eq g2
        cases g4
        exact ⟨v, vs', by rw [bc_false, g1], g3, rfl⟩
    obtain ⟨v, vs', g1, g2, rfl⟩ := hex
    obtain ⟨u, g3, g4⟩ := loadVar_sound hf hw hk hy g1
    obtain ⟨us, h7, h8⟩ := resV_sound hf hw rel g2
    refine ⟨u :: us, concL_mk g4 h7, ?_⟩
    have : tm.getD a Go.undef = .pointer (some (y.ad off)) := by simp [Array.getD_eq_getD_getElem?, h6]
    have ha : (resF tm (.cell a t)).run P w = .ok u w := by simp only [resF, this, asAddr, Sem.run_bind, Sem.run_pure, Result.andThen_ok, g3]
    simp only [List.mapM_cons, Sem.run_bind, Sem.run_pure, Result.andThen_ok, ha, h8]
theorem tup_conc {vs : List V} {us : List Value} (h : concL ε vs = some us) : conc ε (tup vs) = some (if h : us.toArray.size = 1 then us.toArray[0] else .tuple us.toArray) := by
  have hl := concL_length h
  match vs, us, h, hl with
  | [], [], _, _ => rfl
  | [v], [u], h, _ =>
    obtain ⟨a, as, h1, h2, h3⟩ := concL_cons h
    cases h3
    exact h1
  | v :: v' :: vs, u :: u' :: us, h, _ =>
    show conc ε (.tu _) = _
    rw [conc_tu_mk h]
    simp
theorem results_eq (fnr : Func) (tm : Array Value) : results fnr tm = (do let vs ← fnr.results.mapM (resF tm); pure (if h : vs.size = 1 then vs[0] else .tuple vs)) := by
  unfold results
  congr
theorem results_run {fnr : Func} {us : List Value} {tm : Array Value} (h : (fnr.results.toList.mapM (resF tm)).run P w = .ok us w) :
    (results fnr tm).run P w = .ok (if h : us.toArray.size = 1 then us.toArray[0] else .tuple us.toArray) w := by
  rw [results_eq, ← Array.toArray_toList (xs := fnr.results), List.mapM_toArray]
  simp only [map_eq_pure_bind, Sem.run_bind, h, Result.andThen_ok, Sem.run_pure]

/-- the frames below a deferred call go on as they were -/
theorem s_back {c0 : Frame} {v : Value} (hm : fr.mode = .returning) (hd : fr.defers = []) (hk : fr.kind = .deferred) (hc : c0.mode = .returning) {fnr : Func} (hfn : P.funcs[fr.fn]? = some fnr) (hr : (results fnr fr.tmps).run P w = .ok v w) :
    Go.step P (lone fr (c0 :: frs) w) = .next (lone c0 frs w) := by
  refine step_lone_go ?_
  obtain ⟨fn, tm, todo, dfs, mode, kind, rnd⟩ := fr
  simp only at hm hd hk hfn hr; subst hm; subst hd; subst hk
  simp [stepG, unwind, hfn, hr, doReturn, hc]
theorem s_take {y : Nat} {ds : List Deferred} {w' : World} {calls : List Deferred} (hm : fr.mode = .returning) (hd : fr.defers = { target := .collected y, args := #[] } :: ds) (hr : (Instr.takeDeferred y).run P w = .ok calls w') :
    Go.step P (lone fr frs w) = .next (lone { fr with defers := calls ++ ds } frs w') := by
  refine step_lone_go ?_
  obtain ⟨fn, tm, todo, dfs, mode, kind, rnd⟩ := fr
  simp only at hm hd; subst hm; subst hd
  simp [stepG, unwind, hr]
theorem s_defer {n : FuncId} {cap : Array Value} {args : Array Value} {ds : List Deferred} {as : Array Value} (hm : fr.mode = .returning) (hd : fr.defers = { target := .fn (.func n) cap, args := args } :: ds) (hr : (callFunc n (args ++ cap)).run P w = .ok (.enter n as) w) :
    Go.step P (lone fr frs w) = .next (lone (Frame.enter P n as .deferred) ({ fr with defers := ds } :: frs) w) := by
  refine step_lone_go ?_
  obtain ⟨fn, tm, todo, dfs, mode, kind, rnd⟩ := fr
  simp only at hm hd; subst hm; subst hd
  simp [stepG, unwind, callDeferred, invoke, hr]
theorem DfsR.calls {ds' : List Df} {xs' : List Deferred} (hd : DfsR ε ds' xs') : ∀ {ds : List D} {xs : List Deferred}, DsR ε ds xs → DfsR ε (dCalls ds ds') (xs ++ xs')
  | [], xs, h => by cases h; exact hd
  | d :: ds, xs, h => by
    obtain ⟨y, ys, rfl, h1, h2⟩ := h
    exact ⟨y, ys ++ xs', rfl, h1, DfsR.calls hd h2⟩
theorem ret_post (G : Good W P) (hc : c.P = W) (mt : MtR W ε m fr) (mode : fr.mode = .returning) (rel : FRel ε (ntOf W m.fn) f fr.tmps) (dom : Doms W m.fn f) (hw : WR W B c.z ε h nx w) (hb : b0 ≤ nx) (hst : StackR W f0 cs0 bB ε h b0 m cs frs) :
    Post W P B f0 cs0 bB c.z (stRet c f m cs h nx) fr frs w ε h nx := by
  obtain ⟨mfn, mdfs, mkd, mrnd⟩ := m
  unfold stRet
  rw [hc]
  cases mrnd with
  | some b => trivial
  | none =>
    simp only []
    obtain ⟨fnr, hfr⟩ := mt.has
    have hP := G.fits.funcs _ fnr hfr
    have hfn := mt.fn
    cases mdfs with
    | nil =>
      simp only []
      have hro : resOf W mfn = some fnr.results.toList := by
        unfold resOf
        have : W.fun mfn = some fnr := hfr
        rw [this]
      rw [hro]
      show Post W P B f0 cs0 bB c.z (oR (resV h W f fnr.results.toList) 17 _) _ _ _ _ _ _
      cases hv : resV h W f fnr.results.toList with
      | none => trivial
      | some vs =>
        obtain ⟨us, h1, h2⟩ := resV_sound G.fits hw rel hv
        have hx := tup_conc h1
        have hres := results_run h2
        have hdf : fr.defers = [] := mt.dfs
        have hP' : P.funcs[fr.fn]? = some fnr := by rw [hfn]; exact hP
        cases mkd with
        | normal =>
          show Post W P B f0 cs0 bB c.z (back (tup vs) cs h nx) _ _ _ _ _ _
          have hl : fr.leaving P w (.returned (if h : us.toArray.size = 1 then us.toArray[0] else .tuple us.toArray)) := ⟨mode, hdf, mt.kd, fnr, hP', hres⟩
          cases cs with
          | nil =>
            obtain ⟨rfl, h3, h4⟩ := hst
            exact ⟨ε, fr, w, _, Steps.refl P _, hfn.trans h3, hl, hx, hw, EvB.refl _ _ _, Below.refl B w, Frz.refl _ _, Nat.le_refl _⟩
          | cons r cs =>
            obtain ⟨c0, frs', b', rfl, h3, h4, h5, h6⟩ := hst
            exact Post.trans (Steps.one (step_leave_returned hl)) (EvB.refl _ _ _) (Below.refl B w) (Frz.refl _ _) (Nat.le_refl _) (finish_post G hx hw hb h3 h4 h6)
        | deferred =>
          cases cs with
          | nil => trivial
          | cons r cs =>
            obtain ⟨c0, frs', b', rfl, h3, h4, h5, h6⟩ := hst
            have hrk := h5 rfl
            obtain ⟨rf, rk, rm⟩ := r
            simp only at hrk; subst hrk
            cases h4 with
            | call g L ops draw A i rest M td al F0 tm0 k' t' r loud => have := r.hk; cases this
            | loop b y k' t' mt mode hk hy ht kr rel dom => cases hk
            | back mt' mode' hk' rel' dom' =>
              exact Post.trans (Steps.one (s_back mode hdf mt.kd mode' hP' hres)) (EvB.refl _ _ _) (Below.refl B w) (Frz.refl _ _) (Nat.le_refl _)
                (Goes.here (s := ⟨rf, [.ret], rm, cs, h, nx⟩) ⟨b', Nat.le_trans h3 hb, hw, .back mt' mode' rfl rel' dom', h6⟩)
    | cons d ds =>
      simp only []
      obtain ⟨x, xs, hdf, h1, h2⟩ := mt.dfs
      cases d with
      | coll b =>
        simp only []
        obtain ⟨y, hy, rfl⟩ := h1
        split
        · rename_i calls hl
          cases hz : frz c.z b with
          | false => trivial
          | true =>
            rw [bc_true]
            obtain ⟨kk, g1, ⟨ys, g2, rfl⟩, g3⟩ := hw.blk b y _ hy hl
            obtain ⟨g4, g5⟩ := hw.set (o' := .dfr0) (k' := .deferred none) hy hl (frz_none hz) g1 rfl (fun q => q)
            have hs := s_take (P := P) (frs := frs) (w := w) mode hdf (w' := { w with heap := w.heap.setIfInBounds y.cb (.deferred none) }) (calls := ys) (by
              simp only [Instr.takeDeferred, Sem.run_bind, run_getObj g1 (fun _ _ _ e => by cases e), Result.andThen_ok, setObj_run g1 (fun _ _ _ e => by cases e), Sem.run_pure])
            have E : ∀ n, EvB n ε h ε (T.put b (some .dfr0) h) := fun n => evb_put hy _
            refine Post.trans (Steps.one hs) (E _) g5 (frz_put h _ hz) (Nat.le_refl nx) ?_
            refine Goes.here (s := ⟨f, [.ret], ⟨mfn, dCalls calls ds, mkd, none⟩, cs, T.put b (some .dfr0) h, nx⟩) ⟨b0, hb, g4, .back ⟨mt.fn, h2.calls g2, mt.kd, mt.rnd, mt.has, mt.rk⟩ mode rfl rel dom, ?_⟩
            exact StackR.ofMt (m := ⟨mfn, .coll b :: ds, mkd, none⟩) (m' := ⟨mfn, dCalls calls ds, mkd, none⟩) rfl rfl (hst.mono (E _))
        · trivial
      | call x' =>
        simp only []
        obtain ⟨as, cap, g1, rfl⟩ := h1
        cases hbo : bodyOf W x'.f with
        | none => unfold enter; rw [hbo]; trivial
        | some body =>
          obtain ⟨fn', g2, g3⟩ := bodyOf_some hbo
          have hrun := callFunc_run (P := P) (G.fits.funcs _ fn' g2) (by rw [g3]; rfl) (G.names _ fn' g2) (as.toArray ++ cap.toArray) w
          have hs := s_defer (frs := frs) mode hdf hrun
          refine Post.trans (Steps.one hs) (EvB.refl _ _ _) (Below.refl B w) (Frz.refl _ _) (Nat.le_refl nx) ?_
          have := enter_post (z := c.z) (f0 := f0) (cs0 := cs0) (bB := bB) (kd := .deferred) (n := x'.f) (cs := ⟨f, [.ret], ⟨mfn, ds, mkd, none⟩⟩ :: cs) (frs := { fr with defers := xs } :: frs) G g1 hw
            ⟨_, _, b0, rfl, hb, .back ⟨mt.fn, h2, mt.kd, mt.rnd, mt.has, mt.rk⟩ mode rfl rel dom, fun _ => rfl, StackR.ofMt (m := ⟨mfn, .call x' :: ds, mkd, none⟩) (m' := ⟨mfn, ds, mkd, none⟩) rfl rfl hst⟩
          simpa [kdOf] using this
end
end Go.AM
end
end
section
/- An operation's turn: quiet ones, writing, appending. -/
noncomputable section
namespace Go.AM
open Go.RowKit (Below)

/-- a block is made by the machine alone -/
theorem WR.grow {W : Wd} {B : Nat} {zf : H} {ε : Env} {h : H} {nx : Nat} {w : World} (hw : WR W B zf ε h nx w) (o : O) : WR W B zf ε (T.put (pth nx) (some o) h) (nx + 1) w ∧ (∀ b, b ≤ nx → EvB b ε h ε (T.put (pth nx) (some o) h)) ∧ Sub h (T.put (pth nx) (some o) h) := by
  obtain ⟨f1, f2⟩ := hw.fresh nx (Nat.le_refl _)
  have hne : ∀ p x, ε p = some x → T.get p (T.put (pth nx) (some o) h) = T.get p h := fun p x hp => T.get_put_ne _ _ fun e => by rw [← e, f1] at hp; cases hp
  refine ⟨⟨fun p x q hx hq => ?_, fun p p' x x' hx hx' hp hp' hzp e => ?_, fun n hn => ?_, hw.base⟩, fun b hb => ⟨Ext.refl ε, fun n hn hnone => ⟨hnone, T.get_put_ne _ _ fun e => by have := pth_inj e; omega⟩⟩, fun p q hq => ?_⟩
  · rw [hne p x hx] at hq; exact hw.blk p x q hx hq
  · rw [hne p x hx] at hp; rw [hne p' x' hx'] at hp'
    exact hw.inj p p' x x' hx hx' hp hp' hzp e
  · have : pth nx ≠ pth n := fun e => by have := pth_inj e; omega
    rw [T.get_put_ne _ _ this]
    exact hw.fresh n (by omega)
  · by_cases e : p = pth nx
    · subst e; rw [f2] at hq; cases hq
    · rw [T.get_put_ne _ _ fun k => e k.symm]; exact hq

section
variable {W : Wd} {P : Program} {B : Nat} {f0 : FuncId} {cs0 : List Frame} {bB : Nat} {z : H} {fr : Frame} {cs : List Fr} {frs : List Frame} {w : World} {ε : Env} {h : H} {nx b0 : Nat} {f : F} {k : List It} {m : Mt}
  {g : Rg} {L : List Nat} {ops : Array Oper} {draw : Bool} {A : List (Nat × V)} {i : Nat} {rest M td : List Nat} {al : Nat → Option Nat} {F0 : F} {tm0 : Array Value} {k' : List It} {t' : List Item} {o : Oper}
theorem RegR.opv {fn : FuncId} {act : Prop} {tm : Array Value} (R : RegR W fn g L ε h nx b0 act A rest M td al F0 tm0 f tm) (H : Rgn W fn ops draw g) (op : Op) : OpV g A F0 op (cOpd (A.map fun x => g.dst x.1)) (A.map (·.2)) f := by
  intro x _ q v hq hv
  obtain ⟨q', h1, h2⟩ := cOpd_eval g A f x
  rw [hq] at h1; cases h1
  rw [h2, R.opv_same H] at hv; exact hv
/-- the machine does a quiet operation -/
theorem push_go (G : Good W P) (R : RegF W ε h nx b0 True f k m fr g L ops draw A (i :: rest) M td al F0 tm0 k' t') (ho : g.ops[i]? = some o) {v : V} {h' : AM.H} {nx' : Nat} {al' : Nat → Option Nat}
    (hal : ∀ j, j ≠ i → al' j = al j) (hal' : ∀ n, al' i = some n → n = nx ∧ nx < nx' ∨ al i = some n) (hs : Sub h h') (hnx : nx ≤ nx') (hb : b0 ≤ nx) (hpd : Pd W g ε h' True al' F0 A (i, v)) (hw : WR W B z ε h' nx' w)
    (E : ∀ b, b ≤ nx → EvB b ε h ε h') (hF : Frz z h h') (hst : StackR W f0 cs0 bB ε h b0 m cs frs) :
    Goes W P B f0 cs0 bB z ⟨putK (cKeep (ks W m.fn) o.dst) v f, plK (planR W m.fn g ((i, v) :: A) rest) (v :: A.map (·.2)) k', m, cs, h', nx'⟩ fr frs w ε h nx := by
  have hreg := R.reg.push R.rgn ho hal hal' hs hnx hb hpd
  refine Goes.trans (Steps.refl P _) (E bB (Nat.le_trans hst.base hb)) (Below.refl B w) hF hnx ?_
  exact reg_go G R.mt R.mode R.ht R.kr R.rgn R.ord hreg hw (Nat.le_trans hb hnx) (hst.mono (E b0 hb))
/-- the model comes to a loud operation -/
theorem loud_ready (G : Good W P) (R : RegF W ε h nx b0 True f k m fr g L ops draw A (i :: rest) M td al F0 tm0 k' t') (hw : WR W B z ε h nx w) (loud : g.loud i = true) :
    ∃ ε1 w1 tm1 al1 M1 td', Steps P (lone fr frs w) (lone { fr with tmps := tm1, todo := .inRegion ops (i :: td') :: t' } frs w1) ∧ RegR W m.fn g L ε1 h nx b0 True A (i :: rest) M1 (i :: td') al1 F0 tm0 f tm1 ∧
      WR W B z ε1 h nx w1 ∧ Below B w w1 ∧ EvB b0 ε h ε1 h := by
  obtain ⟨q, td', h1, h2⟩ := R.reg.before R.rgn R.ord loud
  obtain ⟨ε1, w1, tm1, al1, h3, h4, h5, h6, h7⟩ := RegR.drain G trivial R.rgn R.ord (cs := frs) (k := t') q R.reg hw h1 h2 R.mode R.ht rfl
  exact ⟨ε1, w1, tm1, al1, _, td', h3, h4, h5, h6, h7⟩
theorem loud_of (R : Rgn W m.fn ops draw g) (ho : g.ops[i]? = some o) {rs : Operand → Bx} (hk : kindC (cOp W rs o.op) = 3) : g.loud i = true := by
  unfold Rg.loud Rg.kind
  rw [getL_eq, ho, R.eP]
  simp only []
  rw [kind_rs W _ rs, hk]; rfl

/-- a loud operation that hands on a value -/
theorem loud_post (G : Good W P) (R : RegF W ε h nx b0 True f k m fr g L ops draw A (i :: rest) M td al F0 tm0 k' t') (ho : g.ops[i]? = some o) (hg : GdR g A F0 o true) (hw : WR W B z ε h nx w) (hb : b0 ≤ nx)
    (hst : StackR W f0 cs0 bB ε h b0 m cs frs) (hk : kindC (cOp W (cOpd (A.map fun x => g.dst x.1)) o.op) = 3) {h' : AM.H} {nx' : Nat} {v : V} {m' : Mt} (hfn : m'.fn = m.fn) (hkd : m'.kd = m.kd)
    (hex : ∀ (ε1 : Env) (w1 : World) (fr1 : Frame) (td' : List Nat) (rs' : Operand → Bx), fr1.mode = .run → fr1.todo = .inRegion ops (i :: td') :: t' → ops[i]? = some o → Region.wanted o (yielded ops fr1.tmps) = true → MtR W ε1 m fr1 → WR W B z ε1 h nx w1 →
      cOp W rs' o.op = cOp W (cOpd (A.map fun x => g.dst x.1)) o.op → Opd ε1 rs' (A.map (·.2)) f (AM.opd fr1.tmps) →
      ∃ ε2 w2 z2 dfs, Steps P (lone fr1 frs w1) (lone (({ fr1 with defers := dfs } : Frame).finish z2) frs w2) ∧ EvB nx ε1 h ε2 h' ∧ conc ε2 v = some z2 ∧ WR W B z ε2 h' nx' w2 ∧ Below B w1 w2 ∧ MtR W ε2 m' { fr1 with defers := dfs })
    (hnx : nx ≤ nx') (hF : Frz z h h') :
    Post W P B f0 cs0 bB z (after (mapL (g.rk (o.dst :: A.map fun x => g.dst x.1) (i :: A.map (·.1))) (g.again (A.map (·.1)) i)) (cKeep (ks W m.fn) o.dst) (planR W m.fn g ((i, v) :: A) rest) k' (A.map (·.2)) f m' cs h' nx' v) fr frs w ε h nx := by
  have hops : ops[i]? = some o := by have := ho; rw [R.rgn.eo] at this; simpa using this
  have hloud := loud_of (m := m) R.rgn ho hk
  obtain ⟨ε1, w1, tm1, al1, M1, td', h1, h2, h3, h4, h5⟩ := loud_ready (frs := frs) G R hw hloud
  have hok := h2.next_ok R.rgn
  have hwant := h2.want R.rgn R.ord (a := []) (b := A) rfl rfl hok ho hg
  obtain ⟨rs', hcc, hopd⟩ := h2.opd R.rgn R.ord (a := []) (b := A) rfl rfl hok ho (h2.opv R.rgn o.op)
  have mt1 : MtR W ε1 m { fr with tmps := tm1, todo := .inRegion ops (i :: td') :: t' } := (R.mt.mono h5.ext).same rfl rfl rfl rfl
  obtain ⟨ε2, w2, z2, dfs, h6, h7, h8, h9, h10, h11⟩ := hex ε1 w1 { fr with tmps := tm1, todo := .inRegion ops (i :: td') :: t' } td' rs' R.mode rfl hops hwant mt1 h3 hcc hopd
  have hreg := h2.exec R.rgn ho h7 h8 hnx
  rw [finish_at rfl hops] at h6
  have hbB := hst.base
  refine Post.trans (h1.trans h6) ((h5.le hbB).trans (h7.le (Nat.le_trans hbB hb))) (h4.trans h10) hF hnx ?_
  have hst' : StackR W f0 cs0 bB ε2 h' b0 m' cs frs := StackR.ofMt hfn hkd ((hst.mono h5).mono (h7.le hb))
  have := after_go (W := W) (P := P) (B := B) (f0 := f0) (cs0 := cs0) (bB := bB) (z := z) (fr := { fr with tmps := putT o.dst z2 tm1, todo := .inRegion ops td' :: t', defers := dfs }) (cs := cs) (frs := frs) (w := w2) (ε := ε2) (h := h') (nx := nx') G (m := m')
    (k' := k') (t' := t') (g := g) (L := L) (ops := ops) (draw := draw) (A := A) (i := i) (rest := rest) (v := v) (re := mapL (g.rk (o.dst :: A.map fun x => g.dst x.1) (i :: A.map (·.1))) (g.again (A.map (·.1)) i))
    (h11.same rfl rfl rfl rfl) R.mode rfl (by rw [hfn]; exact R.kr.mono (h5.ext.trans h7.ext)) (by rw [hfn]; exact R.rgn) R.ord (by rw [hfn]; exact hreg) hloud ho rfl h9 (Nat.le_trans hb hnx) hst'
  rw [hfn] at this
  exact this
end
end Go.AM
end
end
