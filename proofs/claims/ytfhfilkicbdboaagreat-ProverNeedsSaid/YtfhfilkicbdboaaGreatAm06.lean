/- Parts of the proof, joined: AmReg2 AmReg3 AmReg4. -/
import Derived.Test.YtfhfilkicbdboaaGreatAm05
section
/- The orders of a region: a drawn order holds each operation once, and keeps the edges. -/
namespace Go.AM

theorem pigeon : ∀ (n : Nat) (l : List Nat), l.Nodup → (∀ x ∈ l, x < n) → l.length ≤ n ∧ (l.length = n → ∀ i, i < n → i ∈ l)
  | 0, l, _, h => by
    have : l = [] := by
      cases l with
      | nil => rfl
      | cons x xs => exact absurd (h x (by simp)) (Nat.not_lt_zero _)
    subst this
    exact ⟨by simp, fun _ i hi => absurd hi (Nat.not_lt_zero _)⟩
  | n + 1, l, hn, h => by
    by_cases hm : n ∈ l
    · have h1 := hn.erase n
      have h2 : ∀ x ∈ l.erase n, x < n := fun x hx => by
        have := (List.Nodup.mem_erase_iff hn).1 hx
        have := h x this.2
        omega
      have hl := List.length_erase_of_mem hm
      have hp : 0 < l.length := List.length_pos_of_mem hm
      obtain ⟨k1, k2⟩ := pigeon n (l.erase n) h1 h2
      refine ⟨by omega, fun e i hi => ?_⟩
      rcases Nat.lt_or_ge i n with h3 | h3
      · exact List.mem_of_mem_erase (k2 (by omega) i h3)
      · have : i = n := by omega
        subst this; exact hm
    · have h2 : ∀ x ∈ l, x < n := fun x hx => by
        have := h x hx
        have : x ≠ n := fun e => hm (e ▸ hx)
        omega
      obtain ⟨k1, k2⟩ := pigeon n l hn h2
      exact ⟨by omega, fun e => by omega⟩

/-- an order of a region's operations -/
structure Ord (g : Rg) (L : List Nat) : Prop where
  nd : L.Nodup
  mem : ∀ i, i < g.n → i ∈ L
  lt : ∀ i ∈ L, i < g.n
  pr : ∀ a i b, L = a ++ i :: b → ∀ j, g.prec j i = true → j ∈ a

theorem Ord.range {g : Rg} (hd : g.draw = false) : Ord g (List.range g.n) := by
  refine ⟨List.nodup_range, fun i hi => List.mem_range.2 hi, fun i hi => List.mem_range.1 hi, fun a i b h j hj => ?_⟩
  have hlt := prec_lt hd hj
  have hlen : a.length < g.n := by
    have := congrArg List.length h
    simp at this; omega
  have hi : i = a.length := by
    have h1 : (List.range g.n)[a.length]? = some i := by rw [h]; simp
    rw [List.getElem?_range hlen] at h1
    exact (Option.some.inj h1).symm
  have h2 : (List.range g.n)[j]? = some j := List.getElem?_range (by omega)
  rw [h, List.getElem?_append_left (by omega)] at h2
  exact List.mem_of_getElem? h2

/-! masks -/
theorem bitAt_test (m j : Nat) : bitAt m j = Nat.testBit m j := by
  unfold bitAt Nat.testBit
  have h1 : Nat.land (Nat.shiftRight m j) 1 = 1 &&& (m >>> j) := Nat.and_comm _ _
  rw [h1]
  have h2 : 1 &&& (m >>> j) = 0 ∨ 1 &&& (m >>> j) = 1 := by
    rw [Nat.one_and_eq_mod_two]; omega
  rcases h2 with h | h <;> rw [h] <;> rfl
/-- what a bit of a mask says -/
def MaskOk (i : Nat) (look : Nat → Option Nat) (es : List Edge) (m : Nat) : Prop :=
  (∀ e ∈ es, Region.binds .any e = true → e.on < i) ∧ ∀ j, bitAt m j = true → ∃ e ∈ es, Region.binds .any e = true ∧ e.on < i ∧ (j = e.on ∨ ∃ u, look e.on = some u ∧ bitAt u j = true)
theorem edgeMask_ok {i : Nat} {ms : List Nat} : ∀ {es : List Edge} {m : Nat}, edgeMask i ms es = some m → MaskOk i (fun k => ms[i - 1 - k]?) es m
  | [], m, h => by
    cases h
    refine ⟨fun e he => (by cases he), fun j hj => ?_⟩
    rw [bitAt_test] at hj; simp at hj
  | e :: es, m, h => by
    obtain ⟨m', h1, h2⟩ := ob_eq (show ob (edgeMask i ms es) (fun m => bc (Region.binds .any e) (bc (Nat.blt e.on i) (ob (getL (Nat.sub (Nat.sub i 1) e.on) ms) fun u => some (Nat.lor (Nat.lor (Nat.pow 2 e.on) u) m)) none) (some m)) = some m from h)
    obtain ⟨ih1, ih2⟩ := edgeMask_ok h1
    cases hb : Region.binds .any e with
    | false =>
      rw [hb] at h2; cases h2
      refine ⟨fun e' he hb' => ?_, fun j hj => ?_⟩
      · rcases List.mem_cons.1 he with rfl | he
        · rw [hb] at hb'; cases hb'
        · exact ih1 e' he hb'
      · obtain ⟨e', he, h3⟩ := ih2 j hj
        exact ⟨e', List.mem_cons_of_mem _ he, h3⟩
    | true =>
      rw [hb, bc_true] at h2
      obtain ⟨h3, h4⟩ := bc_some h2
      obtain ⟨u, h5, h6⟩ := ob_eq h4
      cases h6
      have hlt : e.on < i := Nat.le_of_ble_eq_true h3
      rw [getL_eq] at h5
      have h5 : ms[i - 1 - e.on]? = some u := h5
      refine ⟨fun e' he hb' => ?_, fun j hj => ?_⟩
      · rcases List.mem_cons.1 he with rfl | he
        · exact hlt
        · exact ih1 e' he hb'
      · rw [bitAt_test] at hj
        have hj : Nat.testBit ((2 ^ e.on ||| u) ||| m') j = true := hj
        rw [Nat.testBit_or, Nat.testBit_or, Bool.or_eq_true, Bool.or_eq_true] at hj
        rcases hj with (hj | hj) | hj
        · rw [Nat.testBit_two_pow] at hj
          exact ⟨e, by simp, hb, hlt, .inl (of_decide_eq_true hj).symm⟩
        · exact ⟨e, by simp, hb, hlt, .inr ⟨u, h5, by rw [bitAt_test]; exact hj⟩⟩
        · obtain ⟨e', he, h7⟩ := ih2 j (by rw [bitAt_test]; exact hj)
          exact ⟨e', List.mem_cons_of_mem _ he, h7⟩
theorem masks_ok : ∀ {os : List Oper} {i : Nat} {ms r : List Nat}, ms.length = i → masks i ms os = some r → ∃ l, r = l ++ ms ∧ l.length = os.length ∧
    ∀ k o, os[k]? = some o → ∃ m, r[r.length - 1 - (i + k)]? = some m ∧ MaskOk (i + k) (fun q => r[r.length - 1 - q]?) o.after.toList m
  | [], i, ms, r, hl, h => by cases h; exact ⟨[], rfl, rfl, fun k o ho => by simp at ho⟩
  | o :: os, i, ms, r, hl, h => by
    obtain ⟨m, h1, h2⟩ := ob_eq (show ob (edgeMask i ms o.after.toList) (fun m => masks (i + 1) (m :: ms) os) = some r from h)
    obtain ⟨l, h3, h4, h5⟩ := masks_ok (i := i + 1) (ms := m :: ms) (by simp [hl]) h2
    refine ⟨l ++ [m], by rw [h3]; simp, by simp [h4], fun k o' ho => ?_⟩
    have hlen : r.length = l.length + 1 + i := by rw [h3]; simp [hl]; omega
    cases k with
    | zero =>
      simp at ho; subst ho
      have e1 : r.length - 1 - (i + 0) = l.length := by omega
      refine ⟨m, by rw [e1, h3]; simp, ?_⟩
      obtain ⟨g1, g2⟩ := edgeMask_ok h1
      refine ⟨g1, fun j hj => ?_⟩
      obtain ⟨e, he, hb, hlt, h6⟩ := g2 j hj
      refine ⟨e, he, hb, hlt, h6.imp id fun ⟨u, hu, hb'⟩ => ⟨u, ?_, hb'⟩⟩
      show r[r.length - 1 - e.on]? = some u
      rw [← hu]
      have e2 : r.length - 1 - e.on = l.length + 1 + (i - 1 - e.on) := by omega
      rw [e2, h3, List.getElem?_append_right (by omega)]
      have e3 : l.length + 1 + (i - 1 - e.on) - l.length = (i - 1 - e.on) + 1 := by omega
      rw [e3, List.getElem?_cons_succ]
    | succ k =>
      obtain ⟨m', h6, h7⟩ := h5 k o' (by simpa using ho)
      have e1 : i + 1 + k = i + (k + 1) := by omega
      rw [e1] at h6 h7
      exact ⟨m', h6, h7⟩
/-- the edges of an operation -/
def EdgesIn (ops : Array Oper) (a : List Nat) (i : Nat) : Prop := ∀ o, ops[i]? = some o → ∀ e ∈ o.after.toList, Region.binds .any e = true → e.on ∈ a
theorem prec_of_edges {W : Wd} {fn : FuncId} {ops : Array Oper} {draw : Bool} {g : Rg} (H : Rgn W fn ops draw g) (hd : g.draw = true) {L : List Nat}
    (hL : ∀ a i b, L = a ++ i :: b → EdgesIn ops a i) : ∀ (i : Nat) (a b : List Nat), i < g.n → L = a ++ i :: b → ∀ j, g.prec j i = true → j ∈ a := by
  obtain ⟨l, h1, h2, h3⟩ := masks_ok (i := 0) (ms := []) rfl H.ms
  have hlen : g.ms.length = g.n := by rw [h1, H.en]; simp [h2]
  intro i
  induction i using Nat.strongRecOn with
  | _ i ih =>
    intro a b hi hab j hj
    unfold Rg.prec at hj
    rw [hd, bc_true, getL_eq] at hj
    have ho : ∃ o, ops.toList[i]? = some o := by
      rw [H.en] at hi
      exact ⟨_, List.getElem?_eq_getElem hi⟩
    obtain ⟨o, ho⟩ := ho
    obtain ⟨m, h4, h5⟩ := h3 i o ho
    rw [hlen, Nat.zero_add] at h4 h5
    have h4 : g.ms[Nat.sub (Nat.sub g.n 1) i]? = some m := h4
    rw [h4] at hj
    obtain ⟨e, he, hb, hlt, h6⟩ := h5.2 j hj
    have hea := hL a i b hab o (by simpa using ho) e he hb
    rcases h6 with rfl | ⟨u, hu, hbu⟩
    · exact hea
    · obtain ⟨a1, a2, rfl⟩ := List.append_of_mem hea
      have := ih e.on hlt a1 (a2 ++ i :: b) (by omega) (by rw [hab]; simp) j (by
        unfold Rg.prec
        rw [hd, bc_true, getL_eq]
        have hu : g.ms[Nat.sub (Nat.sub g.n 1) e.on]? = some u := hu
        rw [hu]; exact hbu)
      exact List.mem_append_left _ this

/-! drawn orders -/
structure Lst (ops : Array Oper) (listed : Array Bool) (acc : List Nat) : Prop where
  size : listed.size = ops.size
  iff : ∀ i, i < ops.size → (listed[i]? = some true ↔ i ∈ acc)
  all : ∀ i, i < ops.size → ∃ b, listed[i]? = some b
  nd : acc.Nodup
  lt : ∀ i ∈ acc, i < ops.size
  ed : ∀ a i b, acc.reverse = a ++ i :: b → EdgesIn ops a i
theorem Lst.add {ops : Array Oper} {listed : Array Bool} {acc : List Nat} (h : Lst ops listed acc) {i : Nat} (hi : i < ops.size) (hn : i ∉ acc) (he : EdgesIn ops acc i) :
    Lst ops (listed.setIfInBounds i true) (i :: acc) := by
  refine ⟨by simp [h.size], fun j hj => ?_, fun j hj => ?_, List.nodup_cons.2 ⟨hn, h.nd⟩, fun j hj => ?_, fun a j b hab => ?_⟩
  · rw [List.mem_cons]
    by_cases e : i = j
    · subst e; simp [Array.getElem?_setIfInBounds_self_of_lt (by rw [h.size]; exact hi)]
    · rw [Array.getElem?_setIfInBounds_ne e, h.iff j hj]
      exact ⟨.inr, fun k => k.resolve_left fun q => e q.symm⟩
  · by_cases e : i = j
    · subst e; exact ⟨true, Array.getElem?_setIfInBounds_self_of_lt (by rw [h.size]; exact hi)⟩
    · rw [Array.getElem?_setIfInBounds_ne e]; exact h.all j hj
  · rcases List.mem_cons.1 hj with rfl | hj
    · exact hi
    · exact h.lt j hj
  · rw [List.reverse_cons] at hab
    rcases List.eq_nil_or_concat b with rfl | ⟨b', x, rfl⟩
    · have := List.append_inj' hab rfl
      have e2 : i = j := by have := this.2; simpa using this
      subst e2
      rw [← this.1]
      exact fun o ho e hee hb => List.mem_reverse.2 (he o ho e hee hb)
    · rw [List.concat_eq_append] at hab
      have : acc.reverse ++ [i] = (a ++ j :: b') ++ [x] := by rw [hab]; simp
      exact h.ed a j b' (List.append_inj' this rfl).1
theorem go_ok {ops : Array Oper} (hback : ∀ (i : Nat) (o : Oper), ops[i]? = some o → ∀ e ∈ o.after.toList, Region.binds .any e = true → e.on < i) :
    ∀ (fuel t : Nat) (listed : Array Bool) (acc : List Nat), Lst ops listed acc → fuel + acc.length = ops.size →
      ∃ listed' acc', Lst ops listed' acc' ∧ Region.linearise.go .any ops fuel t listed acc = acc'.reverse ∧ ∀ i, i < ops.size → i ∈ acc'
  | 0, t, listed, acc, h, hf => ⟨listed, acc, h, rfl, (pigeon _ _ h.nd h.lt).2 (by omega)⟩
  | fuel + 1, t, listed, acc, h, hf => by
    rw [Region.linearise.go]
    generalize hrs : (List.range ops.size).filter _ = rs
    have hmem : ∀ i, i ∈ rs ↔ i < ops.size ∧ i ∉ acc ∧ EdgesIn ops acc i := by
      intro i
      rw [← hrs, List.mem_filter, List.mem_range]
      refine and_congr_right fun hi => ?_
      obtain ⟨b, hb⟩ := h.all i hi
      have ho : ops[i]? = some ops[i] := Array.getElem?_eq_getElem hi
      rw [Bool.and_eq_true]
      refine and_congr ?_ ?_
      · rw [← h.iff i hi, hb, Array.getD_eq_getD_getElem?, hb]
        cases b <;> simp
      · rw [ho]
        simp only [Option.map_some, Option.getD_some]
        rw [Array.all_eq_true_iff_forall_mem]
        constructor
        · intro k o ho' e he hbd
          rw [ho] at ho'; cases ho'
          have := k e (by simpa using he)
          rw [hbd] at this
          simp only [Bool.not_true, Bool.false_or] at this
          have hlt := hback i _ ho e he hbd
          obtain ⟨b', hb'⟩ := h.all e.on (by omega)
          rw [Array.getD_eq_getD_getElem?, hb'] at this
          simp only [Option.getD_some] at this
          subst this
          exact (h.iff e.on (by omega)).1 hb'
        · intro k e he
          cases hbd : Region.binds .any e with
          | false => rfl
          | true =>
            have := k _ ho e (by simpa using he) hbd
            have hlt := hback i _ ho e (by simpa using he) hbd
            have := (h.iff e.on (by omega)).2 this
            rw [Array.getD_eq_getD_getElem?, this]; rfl
    cases hr : rs[t % rs.length]? with
    | some i =>
      simp only []
      obtain ⟨k1, k2, k3⟩ := (hmem i).1 (List.mem_of_getElem? hr)
      exact go_ok hback fuel _ _ _ (h.add k1 k2 k3) (by simp; omega)
    | none =>
      have hnil : rs = [] := by
        rcases List.eq_nil_or_concat rs with e | ⟨l, x, e⟩
        · exact e
        · have hp : 0 < rs.length := by rw [e]; simp
          have := Nat.mod_lt t hp
          rw [List.getElem?_eq_getElem this] at hr; cases hr
      refine ⟨listed, acc, h, rfl, fun i => ?_⟩
      induction i using Nat.strongRecOn with
      | _ i ih =>
        intro hi
        by_cases hm : i ∈ acc
        · exact hm
        · have : i ∈ rs := (hmem i).2 ⟨hi, hm, fun o ho e he hb => ih e.on (hback i o ho e he hb) (Nat.lt_trans (hback i o ho e he hb) hi)⟩
          rw [hnil] at this; cases this
theorem Rgn.back {W : Wd} {fn : FuncId} {ops : Array Oper} {draw : Bool} {g : Rg} (H : Rgn W fn ops draw g) (i : Nat) (o : Oper) (ho : ops[i]? = some o) : ∀ e ∈ o.after.toList, Region.binds .any e = true → e.on < i := by
  obtain ⟨l, h1, h2, h3⟩ := masks_ok (i := 0) (ms := []) rfl H.ms
  obtain ⟨m, h4, h5⟩ := h3 i o (by simpa using ho)
  rw [Nat.zero_add] at h5
  exact h5.1
theorem Ord.drawn {W : Wd} {fn : FuncId} {ops : Array Oper} {g : Rg} (H : Rgn W fn ops true g) (t : Nat) : Ord g (Region.schedule true ops t) := by
  have hs : Region.schedule true ops t = Region.linearise.go .any ops ops.size t (Array.replicate ops.size false) [] := by simp [Region.schedule, Region.linearise]
  have h0 : Lst ops (Array.replicate ops.size false) [] := by
    refine ⟨by simp, fun i hi => ?_, fun i hi => ?_, by simp, fun i hi => (by cases hi), fun a i b hab => ?_⟩
    · rw [Array.getElem?_replicate, if_pos hi]; simp
    · rw [Array.getElem?_replicate, if_pos hi]; exact ⟨_, rfl⟩
    · simp at hab
  obtain ⟨l', acc, h1, h2, h3⟩ := go_ok (fun i o ho => H.back i o ho) ops.size t _ [] h0 (by simp)
  rw [hs, h2]
  have hn : g.n = ops.size := by rw [H.en]; simp
  refine ⟨(List.reverse_perm acc).nodup_iff.2 h1.nd, fun i hi => List.mem_reverse.2 (h3 i (hn ▸ hi)), fun i hi => hn ▸ h1.lt i (List.mem_reverse.1 hi), fun a i b hab j hj => ?_⟩
  exact prec_of_edges H H.dr (fun a i b hab => h1.ed a i b hab) i a b (by
    rw [hn]; exact h1.lt i (List.mem_reverse.1 (by rw [hab]; simp))) hab j hj
end Go.AM
end
section
/- A region under way: what the machine has done, what the model has done of it. -/
noncomputable section
namespace Go.AM
open Go.RowKit (Below)

theorem conc_bool {ε : Env} {u : V} {b : Bool} (h : conc ε u = some (.bool b)) : u = .bl b := by
  cases u with
  | bl c => cases h; rfl
  | int k n => cases h
  | str s => cases h
  | p _ _ => obtain ⟨_, _, e⟩ := conc_p h; cases e
  | p0 => cases h
  | sl _ _ _ _ => obtain ⟨_, _, e⟩ := conc_sl h; cases e
  | so _ _ _ => obtain ⟨_, _, _, _, e⟩ := conc_so h; cases e
  | sz _ _ _ => obtain ⟨_, _, e⟩ := eqT_conc_sl h; cases e
  | s0 => cases h
  | mp _ => obtain ⟨_, _, e⟩ := conc_mp h; cases e
  | m0 => cases h
  | fn _ _ _ => obtain ⟨_, _, _, _, e⟩ := conc_fn h; cases e
  | yl _ => obtain ⟨_, _, e⟩ := conc_yl h; cases e
  | f0 => cases h
  | ifc _ _ => obtain ⟨_, _, e⟩ := conc_ifc h; cases e
  | i0 => cases h
  | ag _ => obtain ⟨_, _, e⟩ := conc_ag h; cases e
  | tu _ => obtain ⟨_, _, e⟩ := conc_tu h; cases e
/-- a guard behind some operations -/
def GdR (g : Rg) (A : List (Nat × V)) (F0 : F) (o : Oper) (run : Bool) : Prop := match o.guard with
  | none => run = true
  | some (j, want) => ∃ d u, g.dst j = some d ∧ slot g A F0 d = some u ∧ wantB u want = run
/-- operands behind some operations -/
def OpV (g : Rg) (A : List (Nat × V)) (F0 : F) (op : Op) (rs : Operand → Bx) (e : E) (f : F) : Prop := ∀ x ∈ op.operands, ∀ q v, rs x = .mk q → q e f = some v → opv g A F0 x = some v
/-- a quiet operation that the machine has done and the model has not -/
def Pd (W : Wd) (g : Rg) (ε : Env) (h : H) (act : Prop) (al : Nat → Option Nat) (F0 : F) (b : List (Nat × V)) (x : Nat × V) : Prop :=
  ∃ o run, g.ops[x.1]? = some o ∧ GdR g b F0 o run ∧ (run = false → x.2 = undef) ∧ (run = true → ∃ rs e f, OpV g b F0 o.op rs e f ∧
    ((∃ k, cOp W rs o.op = .q k ∧ k e f = some x.2) ∨ (∃ k, cOp W rs o.op = .m k ∧ (act → k e f h = some x.2)) ∨
      ∃ k n ob, cOp W rs o.op = .a k ∧ al x.1 = some n ∧ k e f (pth n) = some ⟨x.2, ob⟩ ∧ T.get (pth n) h = some ob ∧ ε (pth n) = none))
/-- A: what the machine has done, the latest first; M: what the model has done; td: what it has to do -/
structure RegR (W : Wd) (fn : FuncId) (g : Rg) (L : List Nat) (ε : Env) (h : H) (nx b0 : Nat) (act : Prop) (A : List (Nat × V)) (rest M td : List Nat) (al : Nat → Option Nat)
    (F0 : F) (tm0 : Array Value) (f : F) (tm : Array Value) : Prop where
  ord : orderOf g = (A.map (·.1)).reverse ++ rest
  sch : L = M ++ td
  sub : ∀ i ∈ M, i ∈ A.map (·.1)
  nd : (A.map (·.1)).Nodup
  rel0 : FRel ε (ntOf W fn) F0 tm0
  dom : Doms W fn F0
  fold : ∀ t, T.get (pth t) f = bc (memN t (keepOf W.keep fn)) (slot g A F0 t) (T.get (pth t) F0)
  size : tm.size = tm0.size
  tms : ∀ t, (∀ i ∈ M, g.dst i ≠ some t) → tm[t]? = tm0[t]?
  done : ∀ x ∈ A, x.1 ∈ M → ∀ t, g.dst x.1 = some t → ∃ u, conc ε x.2 = some u ∧ tm[t]? = some u
  pend : ∀ a x b, A = a ++ x :: b → x.1 ∉ M → Pd W g ε h act al F0 b x
  dist : ∀ i j n, al i = some n → al j = some n → i = j
  rng : ∀ i n, al i = some n → b0 ≤ n ∧ n < nx

/-- the model's operands -/
def opd (tm : Array Value) : Operand → Value
  | .tmp t => tm.getD t Go.undef
  | .const v => v
  | .global g => .pointer (some ⟨g, 0, none⟩)
  | .func f => .func (.func f) #[] #[]
theorem eval_opd (fr : Frame) : fr.eval = opd fr.tmps := by funext x; cases x <;> rfl

theorem tmpsOf_mem {t : Tmp} : ∀ {l : List Operand}, Operand.tmp t ∈ l → t ∈ tmpsOf l
  | o :: os, h => by
    rcases List.mem_cons.1 h with e | h
    · rw [← e]; simp [tmpsOf]
    · have := tmpsOf_mem h
      cases o <;> simp [tmpsOf, this]
theorem reads_opd {g : Rg} {i : Nat} {o : Oper} (ho : g.ops[i]? = some o) {t : Tmp} (ht : Operand.tmp t ∈ o.op.operands) : t ∈ g.reads i := by
  unfold Rg.reads
  rw [getL_eq, ho]
  exact List.mem_append_right _ (tmpsOf_mem (by simpa using ht))
theorem reads_guard {g : Rg} {i j : Nat} {o : Oper} {want : Bool} (ho : g.ops[i]? = some o) (hg : o.guard = some (j, want)) {d : Tmp} (hd : g.dst j = some d) : d ∈ g.reads i := by
  unfold Rg.reads
  rw [getL_eq, ho]
  refine List.mem_append_left _ ?_
  unfold guardT
  rw [hg]
  unfold Rg.dst at hd
  simp only []
  cases hp : getL j g.ops with
  | none => rw [hp] at hd; cases hd
  | some p => rw [hp] at hd; simp only [] at hd ⊢; rw [hd]; simp

section
variable {W : Wd} {fn : FuncId} {ops : Array Oper} {draw : Bool} {g : Rg} {L : List Nat} {ε : Env} {h : H} {nx b0 : Nat} {act : Prop} {A : List (Nat × V)} {rest M td : List Nat} {al : Nat → Option Nat}
  {F0 : F} {tm0 : Array Value} {f : F} {tm : Array Value}
theorem RegR.fsame (R : RegR W fn g L ε h nx b0 act A rest M td al F0 tm0 f tm) (H : Rgn W fn ops draw g) (t : Tmp) : slot g A f t = slot g A F0 t := by
  rcases slot_split g F0 t A with ⟨x, hx, hd⟩ | ⟨h1, h2⟩
  · rw [slot_in H f R.nd hx hd, slot_in H F0 R.nd hx hd]
  · rw [slot_not g f h1, R.fold, h2]
    cases memN t (keepOf W.keep fn) <;> rfl
theorem RegR.opv_same (R : RegR W fn g L ε h nx b0 act A rest M td al F0 tm0 f tm) (H : Rgn W fn ops draw g) (o : Operand) : opv g A f o = opv g A F0 o := by
  cases o <;> first | rfl | exact R.fsame H _
/-- an operation whose turn it is reads in the model what the machine read -/
theorem RegR.turn (R : RegR W fn g L ε h nx b0 act A rest M td al F0 tm0 f tm) (H : Rgn W fn ops draw g) (O : Ord g L) {a b : List (Nat × V)} (hA : A = a ++ b) {i : Nat} {td' : List Nat} (htd : td = i :: td')
    (hok : g.okAt (b.map (·.1)) i = true) {t : Tmp} (ht : t ∈ g.reads i) {u : V} (hu : slot g b F0 t = some u) : ∃ x, tm[t]? = some x ∧ conc ε u = some x := by
  have hr := (okAt_reads hok).1 t ht
  have hL : L = M ++ i :: td' := by rw [R.sch, htd]
  have old : (∀ j ∈ M, g.dst j ≠ some t) → (∀ x ∈ b, g.dst x.1 ≠ some t) → ∃ x, tm[t]? = some x ∧ conc ε u = some x := by
    intro h1 h2
    rw [slot_not g F0 h2] at hu
    obtain ⟨x, h3, h4⟩ := R.rel0.get t u hu
    exact ⟨x, by rw [R.tms t h1]; exact h4, h3⟩
  unfold Rg.okRead at hr
  cases hw : g.writer t with
  | none =>
    refine old (fun j _ e => ?_) (fun x _ e => ?_)
    · rw [(H.writer e).1] at hw; cases hw
    · rw [(H.writer e).1] at hw; cases hw
  | some j =>
    rw [hw] at hr
    have hd := writer_dst hw
    simp only [] at hr
    cases hji : Nat.beq j i with
    | true => rw [hji] at hr; cases hr
    | false =>
      rw [hji, bc_false] at hr
      cases hm : memN j (b.map (·.1)) with
      | true =>
        rw [hm, bc_true] at hr
        have hjM := O.pr M i td' hL j hr
        obtain ⟨x, hx, e⟩ := List.mem_map.1 (memN_iff.1 hm)
        subst e
        have hbn : (b.map (·.1)).Nodup := by
          have := R.nd
          rw [hA, List.map_append] at this
          exact (List.nodup_append.1 this).2.1
        rw [slot_in H F0 hbn hx hd] at hu
        cases hu
        obtain ⟨y, h1, h2⟩ := R.done x (by rw [hA]; exact List.mem_append_right _ hx) hjM t hd
        exact ⟨y, h2, h1⟩
      | false =>
        rw [hm, bc_false] at hr
        refine old (fun k hk e => ?_) (fun x hx e => ?_)
        · have := H.uniq e hd
          subst this
          obtain ⟨m1, m2, e2⟩ := List.append_of_mem hk
          have h1 := O.pr m1 k (m2 ++ i :: td') (by rw [hL, e2]; simp) i hr
          have h2 := O.nd
          rw [hL] at h2
          have h3 : i ∈ M := by rw [e2]; exact List.mem_append_left _ h1
          exact (List.nodup_append.1 h2).2.2 i h3 i (by simp) rfl
        · have := H.uniq e hd
          subst this
          exact absurd (List.mem_map.2 ⟨x, hx, rfl⟩) (memN_false.1 hm)
theorem RegR.opd (R : RegR W fn g L ε h nx b0 act A rest M td al F0 tm0 f tm) (H : Rgn W fn ops draw g) (O : Ord g L) {a b : List (Nat × V)} (hA : A = a ++ b) {i : Nat} {td' : List Nat} (htd : td = i :: td')
    (hok : g.okAt (b.map (·.1)) i = true) {o : Oper} (ho : g.ops[i]? = some o) {rs : Operand → Bx} {e : E} {f' : F} (hv : OpV g b F0 o.op rs e f') :
    ∃ rs', cOp W rs' o.op = cOp W rs o.op ∧ Opd ε rs' e f' (AM.opd tm) := by
  classical
  refine ⟨fun x => if x ∈ o.op.operands then rs x else .mk fun _ _ => none, cOp_congr W o.op (fun x hx => by simp [hx]), fun x q v hq hqv => ?_⟩
  by_cases hx : x ∈ o.op.operands
  · simp only [hx, if_true] at hq
    have := hv x hx q v hq hqv
    cases x with
    | tmp t =>
      obtain ⟨y, h1, h2⟩ := R.turn H O hA htd hok (reads_opd ho hx) this
      rw [h2]
      simp [AM.opd, Array.getD_eq_getD_getElem?, h1]
    | const c => exact cV_conc this
    | global _ => cases this
    | func n => cases this; rfl
  · simp only [hx, if_false, Bx.mk.injEq] at hq
    rw [← hq] at hqv; cases hqv
/-- a guard in the model -/
theorem RegR.want (R : RegR W fn g L ε h nx b0 act A rest M td al F0 tm0 f tm) (H : Rgn W fn ops draw g) (O : Ord g L) {a b : List (Nat × V)} (hA : A = a ++ b) {i : Nat} {td' : List Nat} (htd : td = i :: td')
    (hok : g.okAt (b.map (·.1)) i = true) {o : Oper} (ho : g.ops[i]? = some o) {run : Bool} (hg : GdR g b F0 o run) : Region.wanted o (yielded ops tm) = run := by
  unfold GdR at hg
  unfold Region.wanted
  cases hgd : o.guard with
  | none => rw [hgd] at hg; exact hg.symm
  | some p =>
    obtain ⟨j, want⟩ := p
    rw [hgd] at hg
    obtain ⟨d, u, h1, h2, h3⟩ := hg
    obtain ⟨x, h4, h5⟩ := R.turn H O hA htd hok (reads_guard ho hgd h1) h2
    have hy : yielded ops tm j = match x with | .bool b => some b | _ => none := by
      unfold yielded
      obtain ⟨p, hp, hd⟩ := dst_at h1
      have hp : ops[j]? = some p := by rw [H.eo] at hp; simpa using hp
      rw [hp]
      simp only [Option.bind_some, hd, h4]
      cases x <;> rfl
    simp only []
    rw [hy, ← h3]
    cases u with
    | bl b => cases h5; cases b <;> cases want <;> rfl
    | _ =>
      cases x with
      | bool b => exact absurd (conc_bool h5) (by simp)
      | _ => cases want <;> rfl
end
end Go.AM
end
end
section
/- The model catches up with the machine: quiet operations that wait. -/
namespace Go.AM
open Go.RowKit (Below)

/-- what is not known below b stays -/
structure EvB (b : Nat) (ε : Env) (h : H) (ε' : Env) (h' : H) : Prop where
  ext : Ext ε ε'
  pend : ∀ n, n < b → ε (pth n) = none → ε' (pth n) = none ∧ T.get (pth n) h' = T.get (pth n) h
theorem EvB.refl (b : Nat) (ε : Env) (h : H) : EvB b ε h ε h := ⟨Ext.refl ε, fun _ _ k => ⟨k, rfl⟩⟩
theorem EvB.trans {b : Nat} {x y z : Env} {h i j : H} (p : EvB b x h y i) (q : EvB b y i z j) : EvB b x h z j :=
  ⟨p.ext.trans q.ext, fun n hn k => by
    obtain ⟨h1, h2⟩ := p.pend n hn k
    obtain ⟨h3, h4⟩ := q.pend n hn h1
    exact ⟨h3, h4.trans h2⟩⟩
theorem EvB.le {b c : Nat} {x y : Env} {h i : H} (p : EvB b x h y i) (hc : c ≤ b) : EvB c x h y i := ⟨p.ext, fun n hn => p.pend n (Nat.lt_of_lt_of_le hn hc)⟩
theorem Ev.evb {ε ε' : Env} {h h' : H} {nx nx' b : Nat} (p : Ev ε h nx ε' h' nx') (hb : b ≤ nx) : EvB b ε h ε' h' := ⟨p.ext, fun n hn => p.pend n (Nat.lt_of_lt_of_le hn hb)⟩

/-- a block that the machine has made is made in the model -/
theorem WR.real {W : Wd} {B : Nat} {zf : H} {ε : Env} {h : H} {nx : Nat} {w : World} (hw : WR W B zf ε h nx w) (csz esz : Nat) {n : Nat} {o : O} {k : Obj} (hn : ε (pth n) = none) (hlt : n < nx) (ho : T.get (pth n) h = some o)
    (hr : OR W (ε.upd (pth n) ⟨w.heap.size, csz, esz, 0⟩) ⟨w.heap.size, csz, esz, 0⟩ o k) :
    WR W B zf (ε.upd (pth n) ⟨w.heap.size, csz, esz, 0⟩) h nx (w.alloc k) ∧ Below B w (w.alloc k) := by
  have hext := Env.upd_ext (ε := ε) (b := pth n) ⟨w.heap.size, csz, esz, 0⟩ hn
  have hold : ∀ p y q, ε p = some y → T.get p h = some q → y.cb < w.heap.size := fun p y q hy hp => by
    obtain ⟨k', h1, _, _⟩ := hw.blk p y q hy hp
    exact (Array.getElem?_eq_some_iff.1 h1).1
  refine ⟨⟨fun p y q hy hp => ?_, fun p p' y y' hy hy' hp hp' hzp e => ?_, fun m hm => ?_, by have := hw.base; simp; omega⟩, (Below.refl B w).alloc hw.base k⟩
  · by_cases e : p = pth n
    · subst e
      rw [ho] at hp; cases hp
      rw [Env.upd_same] at hy; cases hy
      exact ⟨k, by show (w.heap.push k)[w.heap.size]? = some k; simp, hr, fun _ => hw.base, LoOk.zero rfl _⟩
    · rw [Env.upd_ne _ _ e] at hy
      obtain ⟨k', h1, h2, h3⟩ := hw.blk p y q hy hp
      exact ⟨k', by rw [Below.heap_alloc _ _ _ (hold p y q hy hp)]; exact h1, h2.mono hext, h3⟩
  · by_cases e1 : p = pth n
    · by_cases e2 : p' = pth n
      · rw [e1, e2]
      · subst e1
        rw [Env.upd_same] at hy; cases hy
        rw [Env.upd_ne _ _ e2] at hy'
        obtain ⟨q, hq⟩ := Option.isSome_iff_exists.1 hp'
        have := hold p' y' q hy' hq
        simp at e; omega
    · rw [Env.upd_ne _ _ e1] at hy
      by_cases e2 : p' = pth n
      · subst e2
        rw [Env.upd_same] at hy'; cases hy'
        obtain ⟨q, hq⟩ := Option.isSome_iff_exists.1 hp
        have := hold p y q hy hq
        simp at e; omega
      · rw [Env.upd_ne _ _ e2] at hy'
        exact hw.inj p p' y y' hy hy' hp hp' hzp e
  · have : pth m ≠ pth n := fun e => by have := pth_inj e; omega
    rw [Env.upd_ne _ _ this]
    exact hw.fresh m hm

/-! steps of the model at an operation -/
section
variable {P : Program} {fr : Frame} {cs : List Frame} {w w' : World} {ops : Array Oper} {i : Nat} {td : List Nat} {k : List Item} {o : Oper}
theorem stepG_at (hm : fr.mode = .run) (ht : fr.todo = .inRegion ops (i :: td) :: k) (ho : ops[i]? = some o) (hw : Region.wanted o (yielded ops fr.tmps) = true) (hd : fr.roundOf = none ∨ ∀ c, o.op ≠ .defer c) :
    stepG P true { frame := fr, callers := cs, status := .running, dying := none } w = stepG.apply P true fr cs none (execOp fr.eval o) w := by
  obtain ⟨fn, tm, todo, dfs, mode, kind, rnd⟩ := fr
  simp only at hm ht
  subst hm; subst ht
  rcases hd with hd | hd
  · simp only at hd; subst hd
    simp [stepG, stepG.exec, stepG.oper, Frame.oper?, ho, hw]
  · cases rnd with
    | none => simp [stepG, stepG.exec, stepG.oper, Frame.oper?, ho, hw]
    | some l =>
      simp only [stepG, stepG.exec, stepG.oper, Frame.oper?, ho, hw, Option.map_some, Option.getD_some, if_true]
      try (split <;> first | rfl | (rename_i h1 h2; exact absurd h2 (hd _)))
theorem step_out {n : Next} {z : Value} (hm : fr.mode = .run) (ht : fr.todo = .inRegion ops (i :: td) :: k) (ho : ops[i]? = some o) (hw : Region.wanted o (yielded ops fr.tmps) = true) (hd : fr.roundOf = none ∨ ∀ c, o.op ≠ .defer c)
    (hr : (execOp fr.eval o).run P w = .ok n w') (hn : Out z n) : Go.step P (lone fr cs w) = .next (lone (fr.finish z) cs w') := by
  refine step_lone_go ?_
  rw [stepG_at hm ht ho hw hd]
  rcases hn with rfl | ⟨rfl, rfl⟩ <;> simp [stepG.apply, hr]
theorem step_not (hm : fr.mode = .run) (ht : fr.todo = .inRegion ops (i :: td) :: k) (ho : ops[i]? = some o) (hw : Region.wanted o (yielded ops fr.tmps) = false) :
    Go.step P (lone fr cs w) = .next (lone (fr.finish Go.undef) cs w) := by
  refine step_lone_go ?_
  obtain ⟨fn, tm, todo, dfs, mode, kind, rnd⟩ := fr
  simp only at hm ht hw
  subst hm; subst ht
  simp [stepG, stepG.exec, ho, hw]
/-- a slot is written -/
def putT (d : Option Tmp) (z : Value) (tm : Array Value) : Array Value := match d with
  | some d => tm.setIfInBounds d z
  | none => tm
theorem finish_at (ht : fr.todo = .inRegion ops (i :: td) :: k) (ho : ops[i]? = some o) (z : Value) : fr.finish z = { fr with tmps := putT o.dst z fr.tmps, todo := .inRegion ops td :: k } := by
  obtain ⟨fn, tm, todo, dfs, mode, kind, rnd⟩ := fr
  simp only at ht
  subst ht
  simp only [Frame.finish, ho, Option.bind_some, putT]
  cases o.dst <;> rfl
theorem step_over (hm : fr.mode = .run) (ht : fr.todo = .inRegion ops [] :: k) : Go.step P (lone fr cs w) = .next (lone { fr with todo := k } cs w) := by
  refine step_lone_go ?_
  obtain ⟨fn, tm, todo, dfs, mode, kind, rnd⟩ := fr
  simp only at hm ht
  subst hm; subst ht
  simp [stepG, stepG.exec]
end

/-- what a program has to be like -/
structure Good (W : Wd) (P : Program) : Prop where
  fits : Fits W P
  depth : ∃ d, P.depth = d + 2
  names : ∀ n fn, W.fun n = some fn → (fn.name == "runtime.NumGoroutine") = false
  mixed : P.follows .mixedOrders = true
  ok : ∀ n, okFn W n = true

section
variable {W : Wd} {P : Program} {B : Nat} {zf : H} {fn : FuncId} {ops : Array Oper} {draw : Bool} {g : Rg} {L : List Nat} {ε : Env} {h : H} {nx b0 : Nat} {act : Prop} {A : List (Nat × V)} {rest M td : List Nat} {al : Nat → Option Nat}
  {F0 : F} {tm0 : Array Value} {f : F} {tm : Array Value} {w : World}
/-- the order up to an operation -/
theorem RegR.okAt (R : RegR W fn g L ε h nx b0 act A rest M td al F0 tm0 f tm) (H : Rgn W fn ops draw g) {a b : List (Nat × V)} {x : Nat × V} (hA : A = a ++ x :: b) : g.okAt (b.map (·.1)) x.1 = true := by
  refine H.at_ (rest := (a.map (·.1)).reverse ++ rest) ?_
  rw [R.ord, hA]; simp
/-- an operation is done in the model -/
theorem RegR.step (R : RegR W fn g L ε h nx b0 act A rest M td al F0 tm0 f tm) (H : Rgn W fn ops draw g) {x : Nat × V} (hx : x ∈ A) {td' : List Nat} (htd : td = x.1 :: td') {o : Oper} (ho : g.ops[x.1]? = some o)
    {ε' : Env} {al' : Nat → Option Nat} {z : Value} (hext : Ext ε ε') (hz : conc ε' x.2 = some z) (hal : ∀ i, i ≠ x.1 → al' i = al i) (hal' : ∀ n, al' x.1 = some n → al x.1 = some n)
    (hpend : ∀ (y : Nat × V) (n : Nat), y.1 ≠ x.1 → al y.1 = some n → ε (pth n) = none → ε' (pth n) = none) :
    RegR W fn g L ε' h nx b0 act A rest (M ++ [x.1]) td' al' F0 tm0 f (putT o.dst z tm) := by
  have hdst : g.dst x.1 = o.dst := Rg.dst_of ho
  have hL : L = M ++ x.1 :: td' := by rw [R.sch, htd]
  have hsz : (putT o.dst z tm).size = tm.size := by unfold putT; cases o.dst <;> simp
  have hother : ∀ t, g.dst x.1 ≠ some t → (putT o.dst z tm)[t]? = tm[t]? := by
    intro t ht
    unfold putT
    cases hd : o.dst with
    | none => rfl
    | some d =>
      have : d ≠ t := fun e => ht (by rw [hdst, hd, e])
      simp only []
      rw [Array.getElem?_setIfInBounds_ne this]
  refine ⟨R.ord, by rw [hL]; simp, fun i hi => ?_, R.nd, R.rel0.mono hext, R.dom, R.fold, hsz.trans R.size, fun t ht => ?_, fun y hy hyM t hyt => ?_, fun a y b hab hyM => ?_, fun i j n hi hj => ?_, fun i n hi => ?_⟩
  · rcases List.mem_append.1 hi with hi | hi
    · exact R.sub i hi
    · simp at hi; subst hi; exact List.mem_map.2 ⟨x, hx, rfl⟩
  · rw [hother t (ht x.1 (by simp)), R.tms t fun i hi => ht i (List.mem_append_left _ hi)]
  · by_cases e : y.1 = x.1
    · have : y = x := by
        have h1 := R.nd
        by_cases e2 : y = x
        · exact e2
        · exfalso
          rcases List.append_of_mem hy with ⟨a1, a2, rfl⟩
          rw [List.map_append, List.map_cons] at h1
          obtain ⟨_, h2, h3⟩ := List.nodup_append.1 h1
          rcases List.mem_append.1 hx with hx | hx
          · exact h3 x.1 (List.mem_map.2 ⟨x, hx, rfl⟩) y.1 (by simp) e.symm
          · rcases List.mem_cons.1 hx with hx | hx
            · exact e2 hx.symm
            · exact (List.nodup_cons.1 h2).1 (by rw [e]; exact List.mem_map.2 ⟨x, hx, rfl⟩)
      subst this
      refine ⟨z, hz, ?_⟩
      have hlt := (H.writer hyt).2
      rw [hdst] at hyt
      unfold putT
      rw [hyt]
      exact Array.getElem?_setIfInBounds_self_of_lt (by rw [R.size]; exact Nat.lt_of_lt_of_le hlt R.rel0.size)
    · have hyM' : y.1 ∈ M := by
        rcases List.mem_append.1 hyM with h1 | h1
        · exact h1
        · simp at h1; exact absurd h1 e
      obtain ⟨u, h1, h2⟩ := R.done y hy hyM' t hyt
      exact ⟨u, conc_mono hext _ _ h1, by rw [hother t fun e2 => e (H.uniq hyt e2)]; exact h2⟩
  · have hne : y.1 ≠ x.1 := fun e => hyM (by rw [e]; simp)
    obtain ⟨o', run, h1, h2, h3, h4⟩ := R.pend a y b hab fun k => hyM (List.mem_append_left _ k)
    refine ⟨o', run, h1, h2, h3, fun hr => ?_⟩
    obtain ⟨rs, e, f', h5, h6⟩ := h4 hr
    refine ⟨rs, e, f', h5, ?_⟩
    rcases h6 with h6 | h6 | ⟨k, n, ob, h7, h8, h9, h10, h11⟩
    · exact .inl h6
    · exact .inr (.inl h6)
    · exact .inr (.inr ⟨k, n, ob, h7, by rw [hal _ hne]; exact h8, h9, h10, hpend y n hne h8 h11⟩)
  · have g1 : ∀ i, al' i = some n → al i = some n := fun i hi => by
      by_cases e : i = x.1
      · subst e; exact hal' n hi
      · rw [← hal i e]; exact hi
    exact R.dist i j n (g1 i hi) (g1 j hj)
  · have : al i = some n := by
      by_cases e : i = x.1
      · subst e; exact hal' n hi
      · rw [← hal i e]; exact hi
    exact R.rng i n this
/-- the model does an operation that the machine has done -/
theorem RegR.catch (G : Good W P) (R : RegR W fn g L ε h nx b0 act A rest M td al F0 tm0 f tm) (hact : act) (H : Rgn W fn ops draw g) (O : Ord g L) (hw : WR W B zf ε h nx w)
    {i : Nat} {td' : List Nat} (htd : td = i :: td') (hi : i ∈ A.map (·.1)) {fr : Frame} {cs : List Frame} {k : List Item} (hm : fr.mode = .run) (ht : fr.todo = .inRegion ops td :: k) (htm : fr.tmps = tm) :
    ∃ ε' w' tm' al', Go.step P (lone fr cs w) = .next (lone { fr with tmps := tm', todo := .inRegion ops td' :: k } cs w') ∧
      RegR W fn g L ε' h nx b0 act A rest (M ++ [i]) td' al' F0 tm0 f tm' ∧ WR W B zf ε' h nx w' ∧ Below B w w' ∧ EvB b0 ε h ε' h := by
  obtain ⟨x, hx, rfl⟩ := List.mem_map.1 hi
  obtain ⟨a, b, hA⟩ := List.append_of_mem hx
  have hL : L = M ++ x.1 :: td' := by rw [R.sch, htd]
  have hiM : x.1 ∉ M := fun e => by
    have := O.nd
    rw [hL] at this
    exact (List.nodup_append.1 this).2.2 x.1 e x.1 (by simp) rfl
  have hok := R.okAt H hA
  have hA' : A = (a ++ [x]) ++ b := by rw [hA]; simp
  obtain ⟨o, run, ho, hgd, hno, hyes⟩ := R.pend a x b hA hiM
  have hops : ops[x.1]? = some o := by rw [H.eo] at ho; simpa using ho
  have hwant := R.want H O hA' htd hok ho hgd
  rw [← htm] at hwant
  rw [htd] at ht
  cases run with
  | false =>
    have hs := step_not (P := P) (cs := cs) (w := w) hm ht hops hwant
    rw [finish_at ht hops] at hs
    have hR := R.step H hx htd ho (ε' := ε) (al' := al) (z := Go.undef) (Ext.refl ε) (by rw [hno rfl]; rfl) (fun _ _ => rfl) (fun _ k => k) (fun _ _ _ _ k => k)
    exact ⟨ε, w, _, al, by rw [← htm]; exact hs, hR, hw, Below.refl B w, EvB.refl _ _ _⟩
  | true =>
    obtain ⟨rs, e, f', hv, h6⟩ := hyes rfl
    obtain ⟨rs', hcc, hopd⟩ := R.opd H O hA' htd hok ho hv
    have hev : fr.eval = AM.opd tm := by rw [eval_opd, htm]
    have hquiet : ∀ {n : Nat} {c : CO}, cOp W rs o.op = c → kd c = n → n ≤ 2 → ∀ c', o.op ≠ .defer c' := by
      intro n c h1 h2 h3 c' e
      have hk := cOp_kin W rs o.op
      rw [h1, e] at hk
      unfold Kin at hk
      simp only [kinOf, List.mem_singleton] at hk
      omega
    rcases h6 with ⟨k', h7, h8⟩ | ⟨k', h7, h8⟩ | ⟨k', n, ob, h7, h8, h9, h10, h11⟩
    · obtain ⟨z, h12, h13⟩ := op_q (P := P) G.fits G.depth hopd (o := o) (by rw [hcc]; exact h7) h8 w
      have hs := step_out (cs := cs) hm ht hops hwant (.inr (hquiet h7 rfl (by simp [kd]))) (by rw [hev]; exact h12) (.inl rfl)
      rw [finish_at ht hops] at hs
      have hR := R.step H hx htd ho (ε' := ε) (al' := al) (z := z) (Ext.refl ε) h13 (fun _ _ => rfl) (fun _ k => k) (fun _ _ _ _ k => k)
      exact ⟨ε, w, _, al, by rw [← htm]; exact hs, hR, hw, Below.refl B w, EvB.refl _ _ _⟩
    · obtain ⟨z, h12, h13⟩ := op_m (P := P) G.fits hw hopd (o := o) (by rw [hcc]; exact h7) (h8 hact)
      have hs := step_out (cs := cs) hm ht hops hwant (.inr (hquiet h7 rfl (by simp [kd]))) (by rw [hev]; exact h12) (.inl rfl)
      rw [finish_at ht hops] at hs
      have hR := R.step H hx htd ho (ε' := ε) (al' := al) (z := z) (Ext.refl ε) h13 (fun _ _ => rfl) (fun _ k => k) (fun _ _ _ _ k => k)
      exact ⟨ε, w, _, al, by rw [← htm]; exact hs, hR, hw, Below.refl B w, EvB.refl _ _ _⟩
    · obtain ⟨z, kk, csz, esz, h12, h13, h14⟩ := op_a (P := P) (w := w) G.fits h11 hopd (o := o) (by rw [hcc]; exact h7) h9
      have hs := step_out (cs := cs) hm ht hops hwant (.inr (hquiet h7 rfl (by simp [kd]))) (by rw [hev]; exact h12) (.inl rfl)
      rw [finish_at ht hops] at hs
      obtain ⟨hb0, hnx⟩ := R.rng _ _ h8
      obtain ⟨h15, h16⟩ := hw.real csz esz h11 hnx h10 h13
      have hext := Env.upd_ext (ε := ε) (b := pth n) ⟨w.heap.size, csz, esz, 0⟩ h11
      have hR := R.step H hx htd ho (al' := fun j => if j = x.1 then none else al j) hext h14 (fun j hj => if_neg hj) (fun m hm => by simp at hm) (fun y m hy hym hnone => by
        have : m ≠ n := fun e => hy (R.dist _ _ _ hym (e ▸ h8))
        rw [Env.upd_ne _ _ fun e => this (pth_inj e)]; exact hnone)
      refine ⟨_, _, _, _, by rw [← htm]; exact hs, hR, h15, h16, hext, fun m hm hnone => ⟨?_, rfl⟩⟩
      rw [Env.upd_ne _ _ fun e => by have := pth_inj e; omega]; exact hnone
/-- .. and all that stand first -/
theorem RegR.drain (G : Good W P) (hact : act) (H : Rgn W fn ops draw g) (O : Ord g L) {cs : List Frame} {k : List Item} : ∀ (q : List Nat) {ε : Env} {M td : List Nat} {al : Nat → Option Nat} {tm : Array Value} {w : World} {td' : List Nat} {fr : Frame},
    RegR W fn g L ε h nx b0 act A rest M td al F0 tm0 f tm → WR W B zf ε h nx w → td = q ++ td' → (∀ i ∈ q, i ∈ A.map (·.1)) → fr.mode = .run → fr.todo = .inRegion ops td :: k → fr.tmps = tm →
    ∃ ε' w' tm' al', Steps P (lone fr cs w) (lone { fr with tmps := tm', todo := .inRegion ops td' :: k } cs w') ∧
      RegR W fn g L ε' h nx b0 act A rest (M ++ q) td' al' F0 tm0 f tm' ∧ WR W B zf ε' h nx w' ∧ Below B w w' ∧ EvB b0 ε h ε' h
  | [], ε, M, td, al, tm, w, td', fr, R, hw, htd, _, hm, ht, htm => by
    subst htm
    simp only [List.nil_append] at htd
    subst htd
    refine ⟨ε, w, fr.tmps, al, ?_, by simpa using R, hw, Below.refl B w, EvB.refl _ _ _⟩
    have : ({ fr with tmps := fr.tmps, todo := .inRegion ops td :: k } : Frame) = fr := by rw [← ht]
    rw [this]; exact Steps.refl P _
  | i :: q, ε, M, td, al, tm, w, td', fr, R, hw, htd, hq, hm, ht, htm => by
    obtain ⟨ε1, w1, tm1, al1, h1, h2, h3, h4, h5⟩ := R.catch G hact H O hw (td' := q ++ td') (by rw [htd]; rfl) (hq i (by simp)) (cs := cs) hm ht htm
    obtain ⟨ε2, w2, tm2, al2, h6, h7, h8, h9, h10⟩ := RegR.drain G hact H O (cs := cs) (k := k) q h2 h3 rfl (fun j hj => hq j (by simp [hj])) (fr := { fr with tmps := tm1, todo := .inRegion ops (q ++ td') :: k }) hm rfl rfl
    exact ⟨ε2, w2, tm2, al2, Steps.head h1 h6, by simpa using h7, h8, h4.trans h9, h5.trans h10⟩
end
end Go.AM
end
