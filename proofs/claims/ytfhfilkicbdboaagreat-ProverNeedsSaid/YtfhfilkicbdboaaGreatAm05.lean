/- Parts of the proof, joined: AmSnd20 AmSnd21 AmSnd22 AmReg1. -/
import Derived.Test.YtfhfilkicbdboaaGreatAm04
section
/- The operations as a whole: reading, making, writing, calling. -/
namespace Go.AM
open Go.RowKit (Below)

section
variable {W : Wd} {P : Program} (hf : Fits W P) {B : Nat} {zf : H} {ε : Env} {h : H} {nx : Nat} {w : World}
include hf in
theorem op_m (hw : WR W B zf ε h nx w) {rs : Operand → Bx} {e : E} {f : F} {ρ : Operand → Value} (hr : Opd ε rs e f ρ) {o : Oper} {g : E → F → H → Option V} {v : V}
    (hc : cOp W rs o.op = .m g) (hv : g e f h = some v) : ∃ z, (execOp ρ o).run P w = .ok (.value z) w ∧ conc ε v = some z := by
  have fin : ∀ {s : Sem Value} {z : Value}, s.run P w = .ok z w → conc ε v = some z → ∃ z, (do pure (Next.value (← s)) : Sem Next).run P w = .ok (.value z) w ∧ conc ε v = some z :=
    fun h k => ⟨_, runV h, k⟩
  have hk := cOp_kin W rs o.op
  rw [hc] at hk
  cases hop : o.op with
  | load t a =>
    rw [hop] at hc
    obtain ⟨q, hq, ha⟩ := opd_at hr a
    simp only [cOp, hq] at hc
    obtain ⟨z, h1, h2⟩ := loadAt_sound (P := P) hf hw hc hv ha
    simp only [execOp, hop]
    exact fin h1 h2
  | lookup t x i ok =>
    rw [hop] at hc
    obtain ⟨q, hq, ha⟩ := opd_at hr x
    obtain ⟨q2, hq2, hb⟩ := opd_at hr i
    simp only [cOp, hq, hq2] at hc
    obtain ⟨z, h1, h2⟩ := lookup_sound (P := P) hf hw hc hv ha hb
    simp only [execOp, hop]
    exact fin h1 h2
  | entry x =>
    rw [hop] at hc
    obtain ⟨q, hq, ha⟩ := opd_at hr x
    simp only [cOp, hq] at hc
    obtain ⟨z, h1, h2⟩ := entry_sound (P := P) hw hc hv ha
    simp only [execOp, hop]
    exact fin h1 h2
  | slice t x l hi m =>
    rw [hop] at hc
    obtain ⟨q, hq, ha⟩ := opd_at hr x
    simp only [cOp, hq] at hc
    obtain ⟨z, h1, h2⟩ := slice_sound (P := P) hf hw hc hv ha (OQ.map hr l) (OQ.map hr hi) (OQ.map hr m)
    simp only [execOp, hop]
    exact fin h1 h2
  | call c =>
    rw [hop] at hk
    cases hcal : c.callee with
    | value x => simp [Kin, kd, kinOf, hcal] at hk
    | invoke _ _ => simp [Kin, kd, kinOf, hcal] at hk
    | builtin b =>
      rw [hop] at hc
      simp only [cOp, cCall, hcal] at hc
      obtain ⟨K, hex⟩ := exec_builtin hop hcal ρ
      rw [hex]
      cases b <;> simp only [] at hc <;> try (simp [Kin, kd, kinOf, hcal] at hk; done)
      case len =>
        unfold cLen at hc
        split at hc
        · rename_i t ts x xs h1 h2
          cases x with
          | mk q =>
            obtain ⟨a, as, h3, h4, h5⟩ := bxs_cons h2
            simp only [bx] at hc
            split at hc
            · cases hc
            · rename_i d hna hu
              cases hc
              obtain ⟨u, hu1, h6⟩ := ob_eq hv
              obtain ⟨hko, h7⟩ := bc_some h6
              obtain ⟨n, h8, h9⟩ := ob_eq h7
              cases h9
              have hx := hr a q u h4 hu1
              have e1 : c.argTypes = (t :: ts).toArray := by rw [← h1]
              have e2 : c.args = (a :: as).toArray := by rw [← h3]
              refine fin (z := goInt n) ?_ rfl
              rw [e1, e2]
              unfold kindOk at hko
              split at hko
              all_goals try (cases hko; done)
              · cases h8; obtain ⟨_, _, e⟩ := conc_sl hx
                simp [Builtin.len_, run_und hf hu w, e]
              · cases h8; obtain ⟨_, _, _, _, e⟩ := conc_so hx
                simp [Builtin.len_, run_und hf hu w, e]
              · cases h8; obtain ⟨_, _, e⟩ := eqT_conc_sl hx
                simp [Builtin.len_, run_und hf hu w, e]
              · cases h8; have e : Value.slice none 0 0 = ρ a := Option.some.inj hx
                simp [Builtin.len_, run_und hf hu w, ← e]
              · rename_i s
                cases h8; have e : Value.string s = ρ a := Option.some.inj hx
                simp [Builtin.len_, run_und hf hu w, ← e]
              · cases h8; have e : Value.map none = ρ a := Option.some.inj hx
                simp [Builtin.len_, run_und hf hu w, ← e]
              · rename_i b
                rcases lenV_sound hw (show lenV h (.mp b) = some n from h8) hx with ⟨_, _, e⟩ | ⟨e, _⟩ | ⟨r, es, ck, e, h10, h11⟩
                · obtain ⟨_, _, e'⟩ := conc_mp hx; rw [e] at e'; cases e'
                · obtain ⟨_, _, e'⟩ := conc_mp hx; rw [e] at e'; cases e'
                · simp [Builtin.len_, run_und hf hu w, e, run_getObj h10 (fun _ _ _ e => by cases e), h11]
            · cases hc
        · cases hc
  | _ =>
    rw [hop] at hk
    simp [Kin, kd, kinOf] at hk
include hf in
theorem op_a {p : Pth} (hp : ε p = none) {rs : Operand → Bx} {e : E} {f : F} {ρ : Operand → Value} (hr : Opd ε rs e f ρ) {o : Oper} {g : E → F → Pth → Option AV} {r : AV}
    (hc : cOp W rs o.op = .a g) (hv : g e f p = some r) :
    ∃ z k csz esz, (execOp ρ o).run P w = .ok (.value z) (w.alloc k) ∧ OR W (ε.upd p ⟨w.heap.size, csz, esz, 0⟩) ⟨w.heap.size, csz, esz, 0⟩ r.o k ∧ conc (ε.upd p ⟨w.heap.size, csz, esz, 0⟩) r.v = some z := by
  have fin : ∀ {s : Sem Value}, Mkd W P ε w s p r → ∃ z k csz esz, (do pure (Next.value (← s)) : Sem Next).run P w = .ok (.value z) (w.alloc k) ∧ OR W (ε.upd p ⟨w.heap.size, csz, esz, 0⟩) ⟨w.heap.size, csz, esz, 0⟩ r.o k ∧ conc (ε.upd p ⟨w.heap.size, csz, esz, 0⟩) r.v = some z :=
    fun ⟨z, k, c, s, h1, h2, h3⟩ => ⟨z, k, c, s, runV h1, h2, h3⟩
  have hk := cOp_kin W rs o.op
  rw [hc] at hk
  cases hop : o.op with
  | alloc t =>
    rw [hop] at hc
    simp only [execOp, hop]
    exact fin (alloc_sound hf hp hc hv)
  | box t x =>
    rw [hop] at hc
    obtain ⟨q, hq, ha⟩ := opd_at hr x
    simp only [cOp, hq] at hc
    simp only [execOp, hop]
    exact fin (box_sound hp hc hv ha)
  | buildSlice t n ps =>
    rw [hop] at hc
    simp only [cOp] at hc
    simp only [execOp, hop]
    exact fin (buildSlice_sound hf hp hr hc hv)
  | makeMap t x =>
    rw [hop] at hc
    simp only [execOp, hop]
    cases x with
    | none => cases hc; cases hv; exact fin makeMap_sound
    | some _ => cases hc
  | makeSlice t l c =>
    rw [hop] at hc
    obtain ⟨q, hq, ha⟩ := opd_at hr l
    obtain ⟨q2, hq2, hb⟩ := opd_at hr c
    simp only [cOp, hq, hq2] at hc
    simp only [execOp, hop]
    exact fin (makeSlice_sound hf hp hc hv ha hb)
  | call c =>
    rw [hop] at hk
    cases hcal : c.callee with
    | value x => simp [Kin, kd, kinOf, hcal] at hk
    | invoke _ _ => simp [Kin, kd, kinOf, hcal] at hk
    | builtin b => cases b <;> simp [Kin, kd, kinOf, hcal] at hk
  | _ =>
    rw [hop] at hk
    simp [Kin, kd, kinOf] at hk
include hf in
theorem op_s (hw : WR W B zf ε h nx w) {rs : Operand → Bx} {e : E} {f : F} {ρ : Operand → Value} (hr : Opd ε rs e f ρ) {o : Oper} {g : E → F → H → Option HV} {v : HV}
    (hc : cOp W rs o.op = .s g) (hv : g e f h = some v) (hzb : frzO zf v.b = true) : ∃ n w' z, (execOp ρ o).run P w = .ok n w' ∧ Out z n ∧ conc ε v.v = some z ∧ Wrote W B zf ε h nx w v.h v.b w' := by
  have fin : ∀ {s : Sem Unit} {w' : World}, s.run P w = .ok () w' → v.v = undef → Wrote W B zf ε h nx w v.h v.b w' → ∃ n w' z, (do s; pure Next.skip : Sem Next).run P w = .ok n w' ∧ Out z n ∧ conc ε v.v = some z ∧ Wrote W B zf ε h nx w v.h v.b w' :=
    fun h k l => ⟨_, _, Go.undef, runU h, .inr ⟨rfl, rfl⟩, by rw [k]; rfl, l⟩
  have fin' : ∀ {s : Sem Value} {z : Value} {w' : World}, s.run P w = .ok z w' → conc ε v.v = some z → Wrote W B zf ε h nx w v.h v.b w' → ∃ n w' z, (do pure (Next.value (← s)) : Sem Next).run P w = .ok n w' ∧ Out z n ∧ conc ε v.v = some z ∧ Wrote W B zf ε h nx w v.h v.b w' :=
    fun h k l => ⟨_, _, _, runV h, .inl rfl, k, l⟩
  have hk := cOp_kin W rs o.op
  rw [hc] at hk
  cases hop : o.op with
  | store t a x =>
    rw [hop] at hc
    obtain ⟨q, hq, ha⟩ := opd_at hr a
    obtain ⟨q2, hq2, hb⟩ := opd_at hr x
    simp only [cOp, hq, hq2] at hc
    obtain ⟨w', h1, h2, h3⟩ := store_sound (P := P) hf hw hc hv ha hb hzb
    simp only [execOp, hop]
    exact fin h1 h2 h3
  | mapUpdate t m k x =>
    rw [hop] at hc
    obtain ⟨q, hq, ha⟩ := opd_at hr m
    obtain ⟨q2, hq2, hb⟩ := opd_at hr k
    obtain ⟨q3, hq3, hd⟩ := opd_at hr x
    simp only [cOp, hq, hq2, hq3] at hc
    obtain ⟨w', h1, h2, h3⟩ := mapSet_sound (P := P) hf hw hc hv ha hb hd hzb
    simp only [execOp, hop]
    exact fin h1 h2 h3
  | insert t m k x =>
    rw [hop] at hc
    obtain ⟨q, hq, ha⟩ := opd_at hr m
    obtain ⟨q2, hq2, hb⟩ := opd_at hr k
    obtain ⟨q3, hq3, hd⟩ := opd_at hr x
    simp only [cOp, hq, hq2, hq3] at hc
    obtain ⟨w', h1, h2, h3⟩ := mapSet_sound (P := P) hf hw hc hv ha hb hd hzb
    simp only [execOp, hop]
    exact fin h1 h2 h3
  | call c =>
    rw [hop] at hk
    cases hcal : c.callee with
    | value x => simp [Kin, kd, kinOf, hcal] at hk
    | invoke _ _ => simp [Kin, kd, kinOf, hcal] at hk
    | builtin b =>
      rw [hop] at hc
      simp only [cOp, cCall, hcal] at hc
      obtain ⟨K, hex⟩ := exec_builtin hop hcal ρ
      rw [hex]
      cases b <;> simp only [] at hc <;> try (simp [Kin, kd, kinOf, hcal] at hk; done)
      case copy =>
        obtain ⟨z, w', h1, h2, h3⟩ := copy_sound (P := P) (ty := o.type) hf hw hr hc hv hzb
        exact fin' h1 h2 h3
      case clear =>
        obtain ⟨z, w', h1, h2, h3⟩ := clear_sound (P := P) (ty := o.type) hf hw hr hc hv hzb
        exact fin' h1 h2 h3
  | _ =>
    rw [hop] at hk
    simp [Kin, kd, kinOf] at hk
include hf in
theorem op_ap (hw : WR W B zf ε h nx w) {rs : Operand → Bx} {e : E} {f : F} {ρ : Operand → Value} (hr : Opd ε rs e f ρ) {o : Oper} {g : E → F → H → Nat → Option HNV} {v : HNV}
    (hc : cOp W rs o.op = .ap g) (hv : g e f h nx = some v) (hzb : frzO zf v.b = true) : ∃ z w' ε', (execOp ρ o).run P w = .ok (.value z) w' ∧ WR W B zf ε' v.h v.nx w' ∧ Below B w w' ∧ Ev ε h nx ε' v.h v.nx ∧ conc ε' v.v = some z ∧
      ∀ q, q ≠ pth nx → v.b ≠ some q → T.get q v.h = T.get q h := by
  have hk := cOp_kin W rs o.op
  rw [hc] at hk
  cases hop : o.op with
  | range t x =>
    rw [hop] at hc
    obtain ⟨q, hq, ha⟩ := opd_at hr x
    simp only [cOp, hq] at hc
    obtain ⟨z, w', ε', h1, h2, h3, h4, h5, h6, ob, h7⟩ := range_sound (P := P) hf hw hc hv ha
    refine ⟨z, w', ε', ?_, h2, h3, h4, h5, fun q hq _ => ?_⟩
    · simp only [execOp, hop]; exact runV h1
    · rw [h7]; exact T.get_put_ne _ _ (fun e => hq e.symm)
  | call c =>
    rw [hop] at hk
    cases hcal : c.callee with
    | value x => simp [Kin, kd, kinOf, hcal] at hk
    | invoke _ _ => simp [Kin, kd, kinOf, hcal] at hk
    | builtin b =>
      rw [hop] at hc
      simp only [cOp, cCall, hcal] at hc
      obtain ⟨K, hex⟩ := exec_builtin hop hcal ρ
      rw [hex]
      cases b <;> simp only [] at hc <;> try (simp [Kin, kd, kinOf, hcal] at hk; done)
      case append =>
        unfold cAppend at hc
        split at hc
        · rename_i t u ts x y xs h1 h2
          cases x with
          | mk q =>
          cases y with
          | mk q' =>
            obtain ⟨a, as, h3, h4, h5⟩ := bxs_cons h2
            obtain ⟨a', as', h6, h7, h8⟩ := bxs_cons h5
            simp only [bx] at hc
            split at hc
            · rename_i el el' he he'
              split at hc
              · rename_i zt hz
                cases hok : okT W el with
                | false => rw [hok] at hc; cases hc
                | true =>
                  rw [hok, bc_true] at hc
                  cases hs : Nat.beq (szOf W el) 0 with
                  | true => rw [hs] at hc; cases hc
                  | false =>
                    rw [hs, bc_false] at hc
                    cases hc
                    obtain ⟨xv, k1, k2⟩ := ob_eq hv
                    obtain ⟨yv, k3, k4⟩ := ob_eq k2
                    obtain ⟨n, k5, k6⟩ := ob_eq k4
                    obtain ⟨new, k7, k8⟩ := ob_eq k6
                    have hs := Nat.pos_of_ne_zero (Nat.ne_of_beq_eq_false hs)
                    obtain ⟨z, w', ε', g1, g2⟩ := app_sound (P := P) hf (ty := o.type) (ts := ts) (xs := as'.map ρ) hw he he' hz hs (hr a q xv h4 k1) (hr a' q' yv h7 k3) k5 k7 k8 hzb
                    have e1 : c.argTypes = (t :: u :: ts).toArray := by rw [← h1]
                    have e2 : c.args = (a :: a' :: as').toArray := by rw [← h6, ← h3]
                    refine ⟨z, w', ε', ?_, g2⟩
                    rw [e1, e2]
                    exact runV (by simpa using g1)
              · cases hc
            · cases hc
        · cases hc
  | _ =>
    rw [hop] at hk
    simp [Kin, kd, kinOf] at hk
end
end Go.AM
end
section
/- Calls and deferred calls; an operation looks at its operands alone; its kind does not hang on them; what is read stays read when blocks are added. -/
namespace Go.AM
open Go.RowKit (Below)

section
variable {W : Wd} {P : Program} {B : Nat} {zf : H} {ε : Env} {h : H} {nx : Nat} {w : World}
theorem callFunc_run {n : FuncId} {fn : Func} (hfn : P.funcs[n]? = some fn) (hb : fn.body.isSome = true) (hn : (fn.name == "runtime.NumGoroutine") = false) (args : Array Value) (w : World) :
    (callFunc n args).run P w = .ok (.enter n args) w := by
  have h1 : fn.body ≠ none := fun e => by rw [e] at hb; cases hb
  have h2 : fn.name ≠ "runtime.NumGoroutine" := by simpa using hn
  simp [callFunc, hfn, h1, h2]
theorem op_call {rs : Operand → Bx} {e : E} {f : F} {ρ : Operand → Value} (hr : Opd ε rs e f ρ) {o : Oper} {g : E → F → Option Tg} {t : Tg}
    (hc : cOp W rs o.op = .call g) (hv : g e f = some t) :
    (∃ n as args, t = .fn n as ∧ concL ε as = some args ∧ ∀ fn, P.funcs[n]? = some fn → fn.body.isSome = true → (fn.name == "runtime.NumGoroutine") = false → (execOp ρ o).run P w = .ok (.enter n args.toArray) w) ∨
    ∃ b as args y, t = .yl b as ∧ concL ε as = some args ∧ ε b = some y ∧ (execOp ρ o).run P w = (Instr.yield y.cb args.toArray).run P w := by
  have hk := cOp_kin W rs o.op
  rw [hc] at hk
  cases hop : o.op with
  | call c =>
    rw [hop] at hk
    cases hcal : c.callee with
    | invoke _ _ => simp [Kin, kd, kinOf, hcal] at hk
    | builtin b => cases b <;> simp [Kin, kd, kinOf, hcal] at hk
    | value x =>
      rw [hop] at hc
      obtain ⟨q, hq, ha⟩ := opd_at hr x
      simp only [cOp, cCall, hcal, hq, bx] at hc
      cases hc
      obtain ⟨u, hu, h2⟩ := ob_eq hv
      obtain ⟨as, h3, h4⟩ := ob_eq h2
      have has := evs_sound hr _ _ h3
      have hx := ha u hu
      unfold callV at h4
      split at h4
      · rename_i n fst cap
        cases h4
        obtain ⟨c', d', h5, h6, e⟩ := conc_fn hx
        refine .inl ⟨n, _, _, rfl, concL_append h5 (concL_append has h6), fun fn h7 h8 h9 => ?_⟩
        have he : execOp ρ o = invoke (.fn (.func n) d'.toArray) (c'.toArray ++ c.args.map ρ) := by
          simp only [execOp, hop, resolve, hcal, e]; rfl
        have hin : invoke (.fn (.func n) d'.toArray) (c'.toArray ++ c.args.map ρ) = callFunc n ((c'.toArray ++ c.args.map ρ) ++ d'.toArray) := rfl
        rw [he, hin, callFunc_run h7 h8 h9]
        congr 2
        simp [← Array.toList_map]
      · rename_i b
        cases h4
        obtain ⟨y, h5, e⟩ := conc_yl hx
        refine .inr ⟨b, as, _, y, rfl, has, h5, ?_⟩
        have he : execOp ρ o = Instr.yield y.cb (#[] ++ c.args.map ρ) := by
          simp only [execOp, hop, resolve, hcal, e]; rfl
        rw [he]
        congr 2
        simp [← Array.toList_map]
      · cases h4
  | _ =>
    rw [hop] at hk
    simp [Kin, kd, kinOf] at hk
theorem op_dfr {rs : Operand → Bx} {e : E} {f : F} {ρ : Operand → Value} (hr : Opd ε rs e f ρ) {o : Oper} {g : E → F → Option D} {d : D}
    (hc : cOp W rs o.op = .dfr g) (hv : g e f = some d) : (∃ c, o.op = .defer c) ∧ ∃ d', (execOp ρ o).run P w = .ok (.defer d') w ∧ DR ε d d' := by
  have hk := cOp_kin W rs o.op
  rw [hc] at hk
  cases hop : o.op with
  | call c =>
    rw [hop] at hk
    cases hcal : c.callee with
    | value _ => simp [Kin, kd, kinOf, hcal] at hk
    | invoke _ _ => simp [Kin, kd, kinOf, hcal] at hk
    | builtin b => cases b <;> simp [Kin, kd, kinOf, hcal] at hk
  | defer c =>
    refine ⟨⟨c, rfl⟩, ?_⟩
    rw [hop] at hc
    cases hcal : c.callee with
    | invoke _ _ => simp only [cOp, cDefer, hcal] at hc; cases hc
    | builtin b => simp only [cOp, cDefer, hcal] at hc; cases hc
    | value x =>
      obtain ⟨q, hq, ha⟩ := opd_at hr x
      simp only [cOp, cDefer, hcal, hq, bx] at hc
      cases hc
      obtain ⟨u, hu, h2⟩ := ob_eq hv
      obtain ⟨as, h3, h4⟩ := ob_eq h2
      have has := evs_sound hr _ _ h3
      have hx := ha u hu
      unfold dfrV at h4
      split at h4
      · rename_i n fst cap
        cases h4
        obtain ⟨c', d', h5, h6, e⟩ := conc_fn hx
        refine ⟨{ target := .fn (.func n) d'.toArray, args := c'.toArray ++ c.args.map ρ }, ?_, c' ++ c.args.toList.map ρ, d', ?_, ?_⟩
        · simp only [execOp, hop, resolve, hcal, e]; rfl
        · rw [← List.append_assoc]
          exact concL_append (concL_append h5 has) h6
        · simp [← Array.toList_map]
      · cases h4
  | _ =>
    rw [hop] at hk
    simp [Kin, kd, kinOf] at hk
/-- the iterator's step, and recover: which operation it is -/
theorem op_nx {rs : Operand → Bx} {o : Oper} {g : E → F → Option V} (hc : cOp W rs o.op = .nx g) : ∃ x q, o.op = .next x false ∧ rs x = .mk q ∧ g = q := by
  have hk := cOp_kin W rs o.op
  rw [hc] at hk
  cases hop : o.op with
  | call c =>
    rw [hop] at hk
    cases hcal : c.callee with
    | value _ => simp [Kin, kd, kinOf, hcal] at hk
    | invoke _ _ => simp [Kin, kd, kinOf, hcal] at hk
    | builtin b => cases b <;> simp [Kin, kd, kinOf, hcal] at hk
  | next x s =>
    rw [hop] at hc
    cases s with
    | true => cases hc
    | false =>
      cases hq : rs x with
      | mk q => simp only [cOp, hq, bx] at hc; cases hc; exact ⟨x, g, rfl, hq, rfl⟩
  | _ =>
    rw [hop] at hk
    simp [Kin, kd, kinOf] at hk
theorem op_rc {rs : Operand → Bx} {o : Oper} (hc : cOp W rs o.op = .rc) (ρ : Operand → Value) (w : World) : (∀ c, o.op ≠ .defer c) ∧ (execOp ρ o).run P w = .ok .recover w := by
  have hk := cOp_kin W rs o.op
  rw [hc] at hk
  cases hop : o.op with
  | call c =>
    refine ⟨fun _ e => (by cases e), ?_⟩
    rw [hop] at hk
    cases hcal : c.callee with
    | value _ => simp [Kin, kd, kinOf, hcal] at hk
    | invoke _ _ => simp [Kin, kd, kinOf, hcal] at hk
    | builtin b =>
      obtain ⟨K, hex⟩ := exec_builtin hop hcal ρ
      rw [hex]
      cases b <;> first | (simp [Kin, kd, kinOf, hcal] at hk; done) | rfl
  | _ =>
    rw [hop] at hk
    simp [Kin, kd, kinOf] at hk
end

/-! operands alone -/
theorem bxs_congr {rs rs' : Operand → Bx} : ∀ {l : List Operand}, (∀ x ∈ l, rs x = rs' x) → bxs rs l = bxs rs' l
  | [], _ => rfl
  | x :: xs, h => by simp only [bxs]; rw [h x (by simp), bxs_congr (l := xs) (fun y hy => h y (by simp [hy]))]
theorem bxps_congr {rs rs' : Operand → Bx} : ∀ {l : List (Nat × Operand)}, (∀ x ∈ l.map (·.2), rs x = rs' x) → bxps rs l = bxps rs' l
  | [], _ => rfl
  | (i, x) :: xs, h => by simp only [bxps]; rw [h x (by simp), bxps_congr (l := xs) (fun y hy => h y (by simp only [List.map_cons, List.mem_cons]; exact .inr hy))]
theorem omap_congr {rs rs' : Operand → Bx} {o : Option Operand} (h : ∀ x, o = some x → rs x = rs' x) : o.map rs = o.map rs' := by
  cases o with
  | none => rfl
  | some x => simp [h x rfl]
theorem cOp_congr (W : Wd) {rs rs' : Operand → Bx} (op : Op) (h : ∀ x ∈ op.operands, rs x = rs' x) : cOp W rs op = cOp W rs' op := by
  cases op with
  | call c =>
    simp only [Op.operands, Call.operands] at h
    have h1 : bxs rs c.args.toList = bxs rs' c.args.toList := bxs_congr fun x hx => h x (by simp at hx ⊢; exact .inr hx)
    simp only [cOp, cCall]
    cases hc : c.callee with
    | value x => rw [hc] at h; simp only [h1, h x (by simp)]
    | invoke r n => rfl
    | builtin b => simp only [h1]
  | defer c =>
    simp only [Op.operands, Call.operands] at h
    have h1 : bxs rs c.args.toList = bxs rs' c.args.toList := bxs_congr fun x hx => h x (by simp at hx ⊢; exact .inr hx)
    simp only [cOp, cDefer]
    cases hc : c.callee with
    | value x => rw [hc] at h; simp only [h1, h x (by simp)]
    | invoke r n => rfl
    | builtin b => rfl
  | build t ps =>
    simp only [cOp]
    rw [bxps_congr (rs := rs) (rs' := rs') fun x hx => h x (by simpa [Op.operands] using hx)]
  | buildSlice t n ps =>
    simp only [cOp]
    rw [bxps_congr (rs := rs) (rs' := rs') fun x hx => h x (by simpa [Op.operands] using hx)]
  | makeFunc fn fst cap =>
    cases fn <;> try rfl
    simp only [cOp]
    rw [bxs_congr (rs := rs) (rs' := rs') (l := fst.toList) fun x hx => h x (by simp [Op.operands]; exact .inl (by simpa using hx)),
      bxs_congr (rs := rs) (rs' := rs') (l := cap.toList) fun x hx => h x (by simp [Op.operands]; exact .inr (by simpa using hx))]
  | slice t x l hi m =>
    simp only [Op.operands] at h
    simp only [cOp]
    rw [h x (by simp), omap_congr (rs := rs) (rs' := rs') (o := l) (fun y hy => h y (by simp [hy])), omap_congr (rs := rs) (rs' := rs') (o := hi) (fun y hy => h y (by simp [hy])),
      omap_congr (rs := rs) (rs' := rs') (o := m) (fun y hy => h y (by simp [hy]))]
  | pick c a b => simp only [cOp]; rw [h c (by simp [Op.operands]), h a (by simp [Op.operands]), h b (by simp [Op.operands])]
  | mapUpdate t m k v => simp only [cOp]; rw [h m (by simp [Op.operands]), h k (by simp [Op.operands]), h v (by simp [Op.operands])]
  | insert t m k v => simp only [cOp]; rw [h m (by simp [Op.operands]), h k (by simp [Op.operands]), h v (by simp [Op.operands])]
  | makeMap t r => cases r <;> rfl
  | next x s => cases s with | true => rfl | false => simp only [cOp]; rw [h x (by simp [Op.operands])]
  | store t x y | binOp _ t x y _ | makeSlice t x y | indexAddr t x y | index t x y | lookup t x y _ => simp only [cOp]; rw [h x (by simp [Op.operands]), h y (by simp [Op.operands])]
  | move x | assign x | box _ x | load _ x | nilCheck x | unOp _ _ x | convert _ _ x | makeInterface _ x | fieldAddr _ x _ | field _ x _ | range _ x | entry x | extract x _ => simp only [cOp]; rw [h x (by simp [Op.operands])]
  | _ => rfl
end Go.AM
end
section
/- The kind of an operation does not hang on its operands; what is read stays read when blocks are added; equal values. -/
namespace Go.AM

theorem bx_eta {α : Type} (b : Bx) (g : Q → α) : bx b g = g b.1 := rfl
theorem kindC_bc (b : Bool) (x y : CO) : kindC (bc b x y) = bc b (kindC x) (kindC y) := by cases b <;> rfl
theorem bxs_shape (rs rs' : Operand → Bx) : ∀ l : List Operand, (bxs rs l).map (fun _ => ()) = (bxs rs' l).map (fun _ => ())
  | [] => rfl
  | x :: xs => by simp only [bxs, List.map_cons]; rw [bxs_shape rs rs' xs]
theorem kind_rs (W : Wd) (rs rs' : Operand → Bx) (op : Op) : kindC (cOp W rs op) = kindC (cOp W rs' op) := by
  have hmk : ∀ x, ∃ q q', rs x = .mk q ∧ rs' x = .mk q' := fun x => ⟨_, _, rfl, rfl⟩
  cases op with
  | call c =>
    simp only [cOp, cCall]
    cases c.callee with
    | value x => rfl
    | invoke r n => rfl
    | builtin b =>
      cases b <;> try rfl
      · simp only [cAppend]
        cases c.argTypes.toList with
        | nil => rfl
        | cons t ts =>
          cases ts with
          | nil => rfl
          | cons u us =>
            cases c.args.toList with
            | nil => rfl
            | cons x xs =>
              cases xs with
              | nil => rfl
              | cons y ys =>
                simp only [bxs, bx_eta]
                cases elemOf W t with
                | none => rfl
                | some el => cases elemOf W u with
                  | none => rfl
                  | some el' =>
                    cases hz : zeroN W el with
                    | none => simp only [hz]
                    | some z => simp only [hz, kindC_bc]; rfl
      · simp only [cClear]
        cases c.argTypes.toList with
        | nil => rfl
        | cons t ts =>
          cases c.args.toList with
          | nil => rfl
          | cons x xs =>
            simp only [bxs, bx_eta]
            cases elemOf W t with
            | none => rfl
            | some el =>
              cases hz : zeroN W el with
              | none => simp only [hz]
              | some z => simp only [hz, kindC_bc]; rfl
      · simp only [cCopy]
        cases c.argTypes.toList with
        | nil => rfl
        | cons t ts =>
          cases c.args.toList with
          | nil => rfl
          | cons x xs =>
            cases xs with
            | nil => rfl
            | cons y ys =>
              simp only [bxs, bx_eta]
              cases elemOf W t with
              | none => rfl
              | some el => simp only [kindC_bc]; rfl
      · simp only [cLen]
        cases c.argTypes.toList with
        | nil => rfl
        | cons t ts =>
          cases c.args.toList with
          | nil => rfl
          | cons x xs =>
            simp only [bxs, bx_eta]
            cases W.und t with
            | none => rfl
            | some d => cases d <;> rfl
  | defer c => simp only [cOp, cDefer]; cases c.callee <;> rfl
  | build t ps =>
    simp only [cOp, cBuild, kindC_bc]
    cases zeroC W t <;> rfl
  | buildSlice t n ps =>
    simp only [cOp, cBuildSlice]
    cases elemOf W t with
    | none => rfl
    | some el => cases hz : zeroN W el with
      | none => simp only [hz]
      | some z => simp only [hz, kindC_bc]; rfl
  | makeFunc fn fst cap => cases fn <;> rfl
  | slice t x l hi m =>
    have : hm (hi.map rs) (m.map rs) = hm (hi.map rs') (m.map rs') := by cases hi <;> cases m <;> rfl
    simp only [cOp, cSlice, kindC_bc, this, bx_eta]
    cases W.und t with
    | none => rfl
    | some d => cases d <;> try rfl
                all_goals (simp only [kindC_bc]; rfl)
  | makeMap t r => cases r <;> rfl
  | next x s => cases s <;> rfl
  | load t a => simp only [cOp, cLoad, bx_eta, kindC_bc]; rfl
  | store t a x => simp only [cOp, cStore, bx_eta, kindC_bc]; rfl
  | unOp op t x => cases op <;> rfl
  | convert s d x =>
    simp only [cOp, cConvert, bx_eta]
    cases W.und d with
    | none => rfl
    | some dd => cases dd <;> try rfl
                 cases W.und s <;> rfl
  | makeInterface t x =>
    simp only [cOp, bx_eta]
    cases W.und t with
    | none => rfl
    | some d => cases d <;> rfl
  | makeSlice t l c =>
    simp only [cOp, cMakeSlice, bx_eta]
    cases elemOf W t with
    | none => rfl
    | some el => cases hz : zeroN W el with
      | none => simp only [hz]
      | some z => simp only [hz]; rfl
  | fieldAddr s x i =>
    simp only [cOp, cFieldAddr, bx_eta]
    cases fieldInfo W s i with
    | none => rfl
    | some p => simp only [kindC_bc]; rfl
  | field s x i =>
    simp only [cOp, cField, bx_eta]
    cases fieldInfo W s i with
    | none => rfl
    | some p => simp only [kindC_bc]; rfl
  | indexAddr t x i =>
    simp only [cOp, cIndexAddr, bx_eta]
    cases W.und t with
    | none => rfl
    | some d => cases d <;> try rfl
                all_goals (simp only [kindC_bc]; rfl)
  | index t x i =>
    simp only [cOp, cIndex, bx_eta]
    cases W.und t with
    | none => rfl
    | some d => cases d <;> try rfl
                simp only [kindC_bc]; rfl
  | lookup t x i ok =>
    simp only [cOp, cLookup, bx_eta]
    cases mapTypes W t with
    | none => rfl
    | some p => cases hz : zeroV W p.2 with
      | none => simp only [hz]
      | some z => simp only [hz]; rfl
  | range t x =>
    simp only [cOp, cRange, bx_eta]
    cases mapTypes W t <;> rfl
  | mapUpdate t m k v =>
    simp only [cOp, cMapSet, bx_eta]
    cases mapTypes W t <;> rfl
  | insert t m k v =>
    simp only [cOp, cMapSet, bx_eta]
    cases mapTypes W t <;> rfl
  | _ => rfl

/-! what is read stays read when blocks are added -/
def Sub (h h' : H) : Prop := ∀ b o, T.get b h = some o → T.get b h' = some o
theorem Sub.rdN {h h' : H} (s : Sub h h') {b : Pth} {off n : Nat} {l : List V} (hr : rdN h b off n = some l) : rdN h' b off n = some l := by
  obtain ⟨o, ho, h2⟩ := ob_eq hr
  unfold AM.rdN
  rw [s b o ho, ob_some]; exact h2
theorem Sub.rd1 {h h' : H} (s : Sub h h') {b : Pth} {off : Nat} {l : V} (hr : rd1 h b off = some l) : rd1 h' b off = some l := by
  obtain ⟨o, ho, h2⟩ := ob_eq hr
  unfold AM.rd1
  rw [s b o ho, ob_some]; exact h2
theorem Sub.lenV {h h' : H} (s : Sub h h') {x : V} {n : Nat} (hr : lenV h x = some n) : lenV h' x = some n := by
  unfold AM.lenV at hr ⊢
  split at hr <;> try exact hr
  obtain ⟨o, ho, h2⟩ := ob_eq hr
  show ob _ _ = _
  rw [s _ o ho, ob_some]; exact h2
theorem m_sub {W : Wd} {rs : Operand → Bx} {op : Op} {g : E → F → H → Option V} (hc : cOp W rs op = .m g) {e : E} {f : F} {h h' : H} {v : V} (s : Sub h h') (hv : g e f h = some v) : g e f h' = some v := by
  have hk := cOp_kin W rs op
  rw [hc] at hk
  cases op with
  | load t a =>
    simp only [cOp, cLoad, bx_eta] at hc
    cases hok : okT W t with
    | false => rw [hok] at hc; cases hc
    | true =>
      rw [hok, bc_true] at hc
      cases hag : isAgg W t with
      | true =>
        rw [hag, bc_true] at hc; cases hc
        obtain ⟨u, h1, h2⟩ := ob_eq hv
        obtain ⟨b, off, rfl, h3⟩ := onP_some h2
        obtain ⟨l, h4, h5⟩ := ob_eq h3
        show ob _ _ = _
        rw [h1, ob_some]
        show ob _ _ = _
        rw [s.rdN h4]; exact h5
      | false =>
        rw [hag, bc_false] at hc; cases hc
        obtain ⟨u, h1, h2⟩ := ob_eq hv
        obtain ⟨b, off, rfl, h3⟩ := onP_some h2
        show ob _ _ = _
        rw [h1, ob_some]
        exact s.rd1 h3
  | lookup t x i ok =>
    simp only [cOp, cLookup, bx_eta] at hc
    cases hm : mapTypes W t with
    | none => rw [hm] at hc; cases hc
    | some p =>
      rw [hm] at hc
      simp only [] at hc
      cases hz : zeroV W p.2 with
      | none => rw [hz] at hc; cases hc
      | some z =>
        rw [hz] at hc; cases hc
        obtain ⟨u, h1, h2⟩ := ob_eq hv
        obtain ⟨k, h3, h4⟩ := ob_eq h2
        obtain ⟨h5, h6⟩ := bc_some h4
        obtain ⟨b, es, c, rfl, h7, h8⟩ := onMap_some h6
        show ob _ _ = _
        rw [h1, ob_some]
        show ob _ _ = _
        rw [h3, ob_some]
        show bc _ _ _ = _
        rw [h5, bc_true]
        show ob _ _ = _
        rw [s b _ h7, ob_some]; exact h8
  | entry x =>
    simp only [cOp, cEntry, bx_eta] at hc; cases hc
    obtain ⟨u, h1, h2⟩ := ob_eq hv
    obtain ⟨b, off, rfl, h3⟩ := onP_some h2
    obtain ⟨h4, h5⟩ := bc_some h3
    obtain ⟨o, h6, h7⟩ := ob_eq h5
    show ob _ _ = _
    rw [h1, ob_some]
    show bc _ _ _ = _
    rw [h4, bc_true, s b o h6, ob_some]
    split at h7
    · obtain ⟨n, h8, h9⟩ := ob_eq h7
      obtain ⟨o', h10, h11⟩ := ob_eq h9
      show ob _ _ = _
      rw [h8, ob_some, s _ o' h10, ob_some]; exact h11
    · cases h7
  | slice t x l hi m =>
    simp only [cOp, cSlice, bx_eta] at hc
    cases hmm : hm (hi.map rs) (m.map rs) with
    | false => rw [hmm] at hc; cases hc
    | true =>
      rw [hmm, bc_true] at hc
      split at hc
      · rename_i el hu
        cases hok : okT W el with
        | false => rw [hok] at hc; cases hc
        | true =>
          rw [hok, bc_true] at hc; cases hc
          obtain ⟨xv, h1, h2⟩ := ob_eq hv
          obtain ⟨lv, h3, h4⟩ := ob_eq h2
          obtain ⟨hv', h5, h6⟩ := ob_eq h4
          obtain ⟨mv, h7, h8⟩ := ob_eq h6
          obtain ⟨h9, h10⟩ := bc_some h8
          show ob _ _ = _
          rw [h1, ob_some, h3, ob_some, h5, ob_some, h7, ob_some]
          have : hiOk (szOf W el) h' xv hv' = true := by
            unfold hiOk at h9 ⊢
            split
            · simp only [] at h9
              rename_i b off n
              cases ho : T.get b h with
              | none => rw [ho] at h9; cases h9
              | some o => rw [ho] at h9; rw [s b o ho]; exact h9
            · rfl
          rw [this, bc_true]; exact h10
      · rename_i n el hu
        cases hok : okT W el with
        | false => rw [hok] at hc; cases hc
        | true => rw [hok, bc_true] at hc; cases hc
      · cases hc
  | call c =>
    cases hcal : c.callee with
    | value x => simp [Kin, kd, kinOf, hcal] at hk
    | invoke _ _ => simp [Kin, kd, kinOf, hcal] at hk
    | builtin b =>
      simp only [cOp, cCall, hcal] at hc
      cases b <;> simp only [] at hc <;> try (simp [Kin, kd, kinOf, hcal] at hk; done)
      unfold cLen at hc
      split at hc
      · rename_i t ts x xs h1 h2
        cases x with
        | mk q =>
          simp only [bx] at hc
          split at hc
          · cases hc
          · rename_i d hna hu
            cases hc
            obtain ⟨u, hu1, h6⟩ := ob_eq hv
            obtain ⟨hko, h7⟩ := bc_some h6
            obtain ⟨n, h8, h9⟩ := ob_eq h7
            show ob _ _ = _
            rw [hu1, ob_some, hko, bc_true]
            have : lenS h' u = some n := by
              cases u with
              | str s => exact h8
              | _ => simp only [lenS] at h8 ⊢; exact s.lenV h8
            rw [this]; exact h9
          · cases hc
      · cases hc
  | _ => simp [Kin, kd, kinOf] at hk

/-! equal values -/
mutual
theorem eqVV_eq : ∀ {v u : V}, eqVV v u = true → v = u
  | .bl a, .bl b, h => by cases a <;> cases b <;> first | rfl | cases h
  | .int k a, .int j b, h => by
    have h : bc (eqK k j) (ieq a b) false = true := h
    obtain ⟨h1, h2⟩ := bc_and h
    rw [ieq_eq] at h2
    rw [eqK_eq h1, eq_of_beq h2]
  | .p b o, .p b' o', h => by
    obtain ⟨h1, h2⟩ := bc_and (show bc _ _ _ = _ from h)
    rw [eqP_eq h1, Nat.eq_of_beq_eq_true h2]
  | .p0, .p0, _ => rfl
  | .sl b o n c, .sl b' o' n' c', h => by
    obtain ⟨h1, h2⟩ := bc_and (show bc _ _ _ = _ from h)
    obtain ⟨h3, h4⟩ := bc_and h2
    obtain ⟨h5, h6⟩ := bc_and h4
    rw [eqP_eq h1, Nat.eq_of_beq_eq_true h3, Nat.eq_of_beq_eq_true h5, Nat.eq_of_beq_eq_true h6]
  | .so b o n, .so b' o' n', h => by
    obtain ⟨h1, h2⟩ := bc_and (show bc _ _ _ = _ from h)
    obtain ⟨h3, h4⟩ := bc_and h2
    rw [eqP_eq h1, Nat.eq_of_beq_eq_true h3, Nat.eq_of_beq_eq_true h4]
  | .sz b o n, .sz b' o' n', h => by
    obtain ⟨h1, h2⟩ := bc_and (show bc _ _ _ = _ from h)
    obtain ⟨h3, h4⟩ := bc_and h2
    rw [eqP_eq h1, Nat.eq_of_beq_eq_true h3, Nat.eq_of_beq_eq_true h4]
  | .s0, .s0, _ => rfl
  | .mp b, .mp b', h => by rw [eqP_eq (show eqP b b' = true from h)]
  | .m0, .m0, _ => rfl
  | .fn n x y, .fn n' x' y', h => by
    have h : bc (Nat.beq n n') (bc (eqVs x x') (eqVs y y') false) false = true := by rw [eqVV] at h; exact h
    obtain ⟨h1, h2⟩ := bc_and h
    obtain ⟨h3, h4⟩ := bc_and h2
    rw [Nat.eq_of_beq_eq_true h1, eqVs_eq h3, eqVs_eq h4]
  | .yl b, .yl b', h => by rw [eqP_eq (show eqP b b' = true from h)]
  | .f0, .f0, _ => rfl
  | .i0, .i0, _ => rfl
  | .ag l, .ag l', h => by rw [eqVs_eq (show eqVs l l' = true by rw [eqVV] at h; exact h)]
  | .tu l, .tu l', h => by rw [eqVs_eq (show eqVs l l' = true by rw [eqVV] at h; exact h)]
theorem eqVs_eq : ∀ {v u : List V}, eqVs v u = true → v = u
  | [], [], _ => rfl
  | x :: xs, y :: ys, h => by
    have h : bc (eqVV x y) (eqVs xs ys) false = true := by rw [eqVs] at h; exact h
    obtain ⟨h1, h2⟩ := bc_and h
    rw [eqVV_eq h1, eqVs_eq h2]
end
end Go.AM
end
section
/- A region: what the static look says. -/
noncomputable section
namespace Go.AM

theorem memN_iff : ∀ {n : Nat} {l : List Nat}, memN n l = true ↔ n ∈ l
  | n, [] => by simp [memN]
  | n, m :: l => by
    simp only [memN, List.mem_cons]
    cases h : Nat.beq n m with
    | true => simp [bc, Nat.eq_of_beq_eq_true h]
    | false =>
      have := Nat.ne_of_beq_eq_false h
      simp only [bc_false, memN_iff, this, false_or]
theorem memN_false {n : Nat} {l : List Nat} : memN n l = false ↔ n ∉ l := by
  rw [← memN_iff]; simp
theorem getL_eq {α : Type} : ∀ (i : Nat) (l : List α), getL i l = l[i]?
  | _, [] => by simp [getL]
  | 0, x :: xs => by simp [getL]
  | i + 1, x :: xs => by simp [getL, getL_eq i xs]
theorem mapL_eq {α β : Type} (f : α → β) : ∀ l : List α, mapL f l = l.map f
  | [] => rfl
  | x :: xs => by simp [mapL, mapL_eq f xs]

/-- a region's look -/
structure Rgn (W : Wd) (fn : FuncId) (ops : Array Oper) (draw : Bool) (g : Rg) : Prop where
  eP : g.P = W
  eo : g.ops = ops.toList
  en : g.n = ops.toList.length
  dr : g.draw = draw
  keep : okKeep (keepOf W.keep fn) (rfOf W fn) (npOf W fn) g.ops = true
  ok : g.ok (ntOf W fn) (orderOf g) = true
  ms : masks 0 [] ops.toList = some g.ms
theorem okReg_rgn {W : Wd} {fn : FuncId} {id : Nat} {ops : Array Oper} {draw : Bool} (h : okIn W fn (.region id ops draw) = true) :
    ∃ g, Rgn W fn ops draw g ∧ plan W fn ops draw = g.comp (keepOf W.keep fn) [] [] (orderOf g) := by
  simp only [okIn, okCode, okReg] at h
  cases hm : masks 0 [] ops.toList with
  | none => rw [hm] at h; cases h
  | some ms =>
    rw [hm] at h
    simp only [] at h
    obtain ⟨h1, h2⟩ := bc_and h
    refine ⟨_, ⟨rfl, rfl, rfl, rfl, h1, h2, hm⟩, ?_⟩
    simp only [plan, hm]

section
variable {W : Wd} {fn : FuncId} {ops : Array Oper} {draw : Bool} {g : Rg}
theorem wrOf_some : ∀ {os : List Oper} {t k j : Nat}, wrOf t k os = some j → ∃ m o, j = k + m ∧ os[m]? = some o ∧ o.dst = some t
  | [], _, _, _, h => by cases h
  | o :: os, t, k, j, h => by
    simp only [wrOf] at h
    have step : wrOf t (k + 1) os = some j → ∃ m o', j = k + m ∧ (o :: os)[m]? = some o' ∧ o'.dst = some t := fun h => by
      obtain ⟨m, o', h1, h2, h3⟩ := wrOf_some h
      exact ⟨m + 1, o', by omega, by simpa using h2, h3⟩
    cases hd : o.dst with
    | none => rw [hd] at h; exact step h
    | some d =>
      rw [hd] at h
      simp only [] at h
      cases hb : Nat.beq d t with
      | true => rw [hb] at h; cases h; exact ⟨0, o, by omega, by simp, by rw [hd, Nat.eq_of_beq_eq_true hb]⟩
      | false => rw [hb] at h; exact step h
theorem okDst_at {nt : Nat} {all : List Oper} : ∀ {os : List Oper} {k m : Nat} {o : Oper} {d : Tmp}, okDst nt all k os = true → os[m]? = some o → o.dst = some d → d < nt ∧ wrOf d 0 all = some (k + m)
  | [], _, _, _, _, _, h, _ => by simp at h
  | o :: os, k, m, o', d, h, hm, hd => by
    simp only [okDst] at h
    obtain ⟨h1, h2⟩ := bc_and h
    cases m with
    | zero =>
      simp at hm; subst hm
      rw [hd] at h1
      simp only [] at h1
      obtain ⟨h3, h4⟩ := bc_and h1
      refine ⟨Nat.le_of_ble_eq_true h3, ?_⟩
      cases hw : wrOf d 0 all with
      | none => rw [hw] at h4; cases h4
      | some j => rw [hw] at h4; rw [Nat.eq_of_beq_eq_true h4]; rfl
    | succ m =>
      obtain ⟨h3, h4⟩ := okDst_at h2 (by simpa using hm) hd
      exact ⟨h3, by rw [h4]; congr 1; omega⟩
theorem okKeep_at {ks rf : List Nat} {np : Nat} : ∀ {os : List Oper} {m : Nat} {o : Oper} {d : Tmp}, okKeep ks rf np os = true → os[m]? = some o → o.dst = some d → memN d ks = true ∨ (np ≤ d ∧ memN d rf = false)
  | [], _, _, _, _, h, _ => by simp at h
  | o :: os, m, o', d, h, hm, hd => by
    simp only [okKeep] at h
    obtain ⟨h1, h2⟩ := bc_and h
    cases m with
    | zero =>
      simp at hm; subst hm
      rw [hd] at h1
      simp only [] at h1
      cases hk : memN d ks with
      | true => exact .inl rfl
      | false =>
        rw [hk, bc_false] at h1
        obtain ⟨h3, h4⟩ := bc_and h1
        refine .inr ⟨Nat.le_of_ble_eq_true h3, ?_⟩
        cases hr : memN d rf with
        | true => rw [hr] at h4; cases h4
        | false => rfl
    | succ m => exact okKeep_at h2 (by simpa using hm) hd
theorem okPre_at : ∀ {l : List Nat} {pre r : List Nat} {i : Nat}, g.okPre pre (l ++ i :: r) = true → g.okAt (l.reverse ++ pre) i = true
  | [], pre, r, i, h => (bc_and (show bc _ _ _ = _ from h)).1
  | x :: l, pre, r, i, h => by
    have h2 := (bc_and (show bc (g.okAt pre x) (g.okPre (x :: pre) (l ++ i :: r)) false = true from h)).2
    have := okPre_at h2
    simpa using this
theorem upto'_mem : ∀ {n i : Nat}, i < n → i ∈ upto' n
  | n + 1, i, h => by
    simp only [upto', List.mem_cons]
    rcases Nat.lt_or_ge i n with h1 | h1
    · exact .inr (upto'_mem h1)
    · exact .inl (by omega)

variable (H : Rgn W fn ops draw g)
include H
theorem Rgn.parts : okDst (ntOf W fn) g.ops 0 g.ops = true ∧ g.okPre [] (orderOf g) = true ∧ ∀ i, i < g.n → i ∈ orderOf g := by
  have h := H.ok
  unfold Rg.ok at h
  obtain ⟨_, h2⟩ := bc_and h
  obtain ⟨h3, h4⟩ := bc_and h2
  obtain ⟨h5, h6⟩ := bc_and h4
  refine ⟨h3, h5, fun i hi => ?_⟩
  have := List.all_eq_true.1 h6 i (upto'_mem hi)
  exact memN_iff.1 this
theorem Rgn.at_ {pre rest : List Nat} {i : Nat} (h : orderOf g = pre.reverse ++ i :: rest) : g.okAt pre i = true := by
  have := H.parts.2.1
  rw [h] at this
  simpa using okPre_at this
omit H in
theorem okAt_lt {pre : List Nat} {i : Nat} (h : g.okAt pre i = true) : i < g.n ∧ i ∉ pre := by
  obtain ⟨h1, h2⟩ := bc_and (show bc _ _ _ = _ from h)
  refine ⟨Nat.le_of_ble_eq_true h1, ?_⟩
  cases hm : memN i pre with
  | true => rw [hm] at h2; cases h2
  | false => exact memN_false.1 hm
omit H in
theorem okAt_loud {pre : List Nat} {i : Nat} (h : g.okAt pre i = true) {l : Nat} (hl : g.lastLoud pre = some l) : g.prec l i = true := by
  obtain ⟨_, h2⟩ := bc_and (show bc _ _ _ = _ from h)
  cases hm : memN i pre with
  | true => rw [hm] at h2; cases h2
  | false =>
    rw [hm, bc_false] at h2
    obtain ⟨h3, _⟩ := bc_and h2
    rw [hl] at h3; exact h3
omit H in
theorem okAt_reads {pre : List Nat} {i : Nat} (h : g.okAt pre i = true) : (∀ t ∈ g.reads i, g.okRead pre i t = true) ∧ ∀ r ∈ g.again pre i, ∀ t ∈ g.reads r, g.okAgain pre i r t = true := by
  obtain ⟨_, h2⟩ := bc_and (show bc _ _ _ = _ from h)
  cases hm : memN i pre with
  | true => rw [hm] at h2; cases h2
  | false =>
    rw [hm, bc_false] at h2
    obtain ⟨_, h4⟩ := bc_and h2
    obtain ⟨h5, h6⟩ := bc_and h4
    exact ⟨fun t ht => List.all_eq_true.1 h5 t ht, fun r hr t ht => List.all_eq_true.1 (List.all_eq_true.1 h6 r hr) t ht⟩
omit H in
theorem dst_at {i : Nat} {t : Tmp} (h : g.dst i = some t) : ∃ o, g.ops[i]? = some o ∧ o.dst = some t := by
  unfold Rg.dst at h
  rw [getL_eq] at h
  cases ho : g.ops[i]? with
  | none => rw [ho] at h; cases h
  | some o => rw [ho] at h; exact ⟨o, rfl, h⟩
theorem Rgn.writer {i : Nat} {t : Tmp} (h : g.dst i = some t) : g.writer t = some i ∧ t < ntOf W fn := by
  obtain ⟨o, ho, hd⟩ := dst_at h
  obtain ⟨h1, h2⟩ := okDst_at H.parts.1 ho hd
  rw [Nat.zero_add] at h2
  exact ⟨h2, h1⟩
theorem Rgn.uniq {i j : Nat} {t : Tmp} (h : g.dst i = some t) (k : g.dst j = some t) : i = j := by
  have := (H.writer h).1
  rw [(H.writer k).1] at this
  exact (Option.some.inj this).symm
theorem Rgn.kept {i : Nat} {t : Tmp} (h : g.dst i = some t) : memN t (keepOf W.keep fn) = true ∨ (npOf W fn ≤ t ∧ memN t (rfOf W fn) = false) := by
  obtain ⟨o, ho, hd⟩ := dst_at h
  exact okKeep_at H.keep ho hd
omit H in
theorem Rg.dst_of {i : Nat} {o : Oper} (h : g.ops[i]? = some o) : g.dst i = o.dst := by
  unfold Rg.dst; rw [getL_eq, h]
omit H in
theorem writer_dst {j : Nat} {t : Tmp} (h : g.writer t = some j) : g.dst j = some t := by
  unfold Rg.writer at h
  obtain ⟨m, o, rfl, h1, h2⟩ := wrOf_some h
  rw [Nat.zero_add, Rg.dst_of h1, h2]
omit H in
theorem prec_lt (hdr : g.draw = false) {j i : Nat} (h : g.prec j i = true) : j < i := by
  unfold Rg.prec at h
  rw [hdr, bc_false] at h
  exact Nat.le_of_ble_eq_true h
end

/-! slots -/
/-- what a slot holds when some operations are done, the latest first -/
def slot (g : Rg) : List (Nat × V) → F → Tmp → Option V
  | [], f, t => T.get (pth t) f
  | (i, v) :: A, f, t => if g.dst i = some t then some v else slot g A f t
def opv (g : Rg) (A : List (Nat × V)) (f : F) : Operand → Option V
  | .tmp t => slot g A f t
  | .const v => cV v
  | .global _ => none
  | .func n => some (.fn n [] [])
theorem cLoc_eq (i : Nat) (e : E) (f : F) : ∃ q, cLoc i = .mk q ∧ q e f = e[i]? := by
  have h0 : ∀ e : E, n0 e f = e[0]? := fun e => by cases e <;> rfl
  have h1 : ∀ e : E, n1 e f = e[1]? := fun e => by cases e with | nil => rfl | cons x xs => exact h0 xs
  have h2 : ∀ e : E, n2 e f = e[2]? := fun e => by cases e with | nil => rfl | cons x xs => exact h1 xs
  have h3 : ∀ e : E, n3 e f = e[3]? := fun e => by cases e with | nil => rfl | cons x xs => exact h2 xs
  unfold cLoc
  split
  · exact ⟨_, rfl, h0 e⟩
  · exact ⟨_, rfl, h1 e⟩
  · exact ⟨_, rfl, h2 e⟩
  · exact ⟨_, rfl, h3 e⟩
  · exact ⟨_, rfl, nth_eq _ _⟩
theorem ixOf_slot (g : Rg) (f : F) (t : Tmp) : ∀ (A : List (Nat × V)),
    slot g A f t = match ixOf t (A.map fun x => g.dst x.1) with | some i => (A.map (·.2))[i]? | none => T.get (pth t) f
  | [] => rfl
  | (i, v) :: A => by
    have ih := ixOf_slot g f t A
    simp only [slot, List.map_cons, ixOf]
    cases hd : g.dst i with
    | none =>
      simp only [reduceCtorEq, if_false]
      rw [ih]
      cases ixOf t (A.map fun x => g.dst x.1) <;> simp
    | some u =>
      simp only [Option.some.injEq]
      cases hb : Nat.beq u t with
      | true => rw [if_pos (Nat.eq_of_beq_eq_true hb)]; simp [bc]
      | false =>
        rw [if_neg (Nat.ne_of_beq_eq_false hb), bc_false, ih]
        cases ixOf t (A.map fun x => g.dst x.1) <;> simp
/-- an operand of the machine's -/
theorem cOpd_eval (g : Rg) (A : List (Nat × V)) (f : F) (o : Operand) : ∃ q, cOpd (A.map fun x => g.dst x.1) o = .mk q ∧ q (A.map (·.2)) f = opv g A f o := by
  cases o with
  | tmp t =>
    simp only [cOpd, opv, ixOf_slot]
    cases ixOf t (A.map fun x => g.dst x.1) with
    | none => exact ⟨_, rfl, rfl⟩
    | some i => exact cLoc_eq i _ _
  | const v => exact ⟨_, rfl, rfl⟩
  | global _ => exact ⟨_, rfl, rfl⟩
  | func n => exact ⟨_, rfl, rfl⟩
theorem slot_not (g : Rg) (f : F) {t : Tmp} : ∀ {A : List (Nat × V)}, (∀ x ∈ A, g.dst x.1 ≠ some t) → slot g A f t = T.get (pth t) f
  | [], _ => rfl
  | (i, v) :: A, h => by
    simp only [slot]
    rw [if_neg (h (i, v) (by simp)), slot_not g f fun x hx => h x (by simp [hx])]
theorem slot_in {W : Wd} {fn : FuncId} {ops : Array Oper} {draw : Bool} {g : Rg} (H : Rgn W fn ops draw g) (f : F) {t : Tmp} : ∀ {A : List (Nat × V)} {x : Nat × V}, (A.map (·.1)).Nodup → x ∈ A → g.dst x.1 = some t → slot g A f t = some x.2
  | (i, v) :: A, x, hn, hx, hd => by
    simp only [slot]
    simp only [List.map_cons, List.nodup_cons] at hn
    rcases List.mem_cons.1 hx with rfl | hx
    · rw [if_pos hd]
    · have : g.dst i ≠ some t := fun e => by
        have := H.uniq e hd
        exact hn.1 (List.mem_map.2 ⟨x, hx, this.symm⟩)
      rw [if_neg this]
      exact slot_in H f hn.2 hx hd
theorem slot_split (g : Rg) (f : F) (t : Tmp) (A : List (Nat × V)) : (∃ x ∈ A, g.dst x.1 = some t) ∨ ((∀ x ∈ A, g.dst x.1 ≠ some t) ∧ slot g A f t = T.get (pth t) f) := by
  by_cases h : ∃ x ∈ A, g.dst x.1 = some t
  · exact .inl h
  · refine .inr ⟨fun x hx e => h ⟨x, hx, e⟩, slot_not g f fun x hx e => h ⟨x, hx, e⟩⟩
end Go.AM
end
end
