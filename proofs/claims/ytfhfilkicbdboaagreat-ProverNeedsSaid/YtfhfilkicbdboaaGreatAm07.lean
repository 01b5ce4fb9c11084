/- Parts of the proof, joined: AmReg5 AmSim1 AmSim2. -/
import Derived.Test.YtfhfilkicbdboaaGreatAm06
section
/- A region under way: beginning, quiet operations of the machine, loud operations, looking once more, the end. -/
namespace Go.AM
open Go.RowKit (Below)

section
variable {W : Wd} {fn : FuncId} {ops : Array Oper} {draw : Bool} {g : Rg} {L : List Nat} {ε : Env} {h : H} {nx b0 : Nat} {act : Prop} {A : List (Nat × V)} {rest M td : List Nat} {al : Nat → Option Nat}
  {F0 : F} {tm0 : Array Value} {f : F} {tm : Array Value}
theorem RegR.start (hF : FRel ε (ntOf W fn) f tm) (hD : Doms W fn f) : RegR W fn g L ε h nx b0 act [] (orderOf g) [] L (fun _ => none) f tm f tm := by
  refine ⟨rfl, rfl, fun i hi => (by cases hi), by simp, hF, hD, fun t => ?_, rfl, fun _ _ => rfl, fun x hx => (by cases hx), fun a x b hab => ?_, fun i j n hi => (by cases hi), fun i n hi => (by cases hi)⟩
  · cases memN t (keepOf W.keep fn) <;> rfl
  · simp at hab
theorem RegR.next_ok {i : Nat} (R : RegR W fn g L ε h nx b0 act A (i :: rest) M td al F0 tm0 f tm) (H : Rgn W fn ops draw g) : g.okAt (A.map (·.1)) i = true := H.at_ R.ord
theorem RegR.next_not {i : Nat} (R : RegR W fn g L ε h nx b0 act A (i :: rest) M td al F0 tm0 f tm) (H : Rgn W fn ops draw g) : i < g.n ∧ i ∉ A.map (·.1) := okAt_lt (R.next_ok H)
theorem putK_get (ks : List Nat) (d : Option Tmp) (v : V) (f : F) (t : Tmp) : T.get (pth t) (putK (cKeep ks d) v f) = if d = some t ∧ memN t ks = true then some v else T.get (pth t) f := by
  cases d with
  | none => simp [cKeep, putK]
  | some u =>
    simp only [cKeep]
    cases hm : memN u ks with
    | false =>
      simp only [bc_false, putK]
      rw [if_neg]
      rintro ⟨e, h2⟩
      cases e; rw [hm] at h2; cases h2
    | true =>
      simp only [bc_true, putK]
      by_cases e : u = t
      · subst e; rw [T.get_put_same, if_pos ⟨rfl, hm⟩]
      · rw [T.get_put_ne _ _ fun k => e (pth_inj k), if_neg]
        rintro ⟨k, _⟩; cases k; exact e rfl
theorem fold_add {i : Nat} {o : Oper} (ho : g.ops[i]? = some o) {ks : List Nat} {v : V} (hf : ∀ t, T.get (pth t) f = bc (memN t ks) (slot g A F0 t) (T.get (pth t) F0)) (t : Tmp) :
    T.get (pth t) (putK (cKeep ks o.dst) v f) = bc (memN t ks) (slot g ((i, v) :: A) F0 t) (T.get (pth t) F0) := by
  rw [putK_get, hf t]
  simp only [slot, Rg.dst_of ho]
  by_cases hd : o.dst = some t
  · cases hm : memN t ks with
    | true => simp [hd, bc]
    | false => simp [bc]
  · simp [hd]
theorem Pd.mono {h' : H} {al' : Nat → Option Nat} {b : List (Nat × V)} {x : Nat × V} (p : Pd W g ε h act al F0 b x) (hs : Sub h h') (hal : al' x.1 = al x.1) : Pd W g ε h' act al' F0 b x := by
  obtain ⟨o, run, h1, h2, h3, h4⟩ := p
  refine ⟨o, run, h1, h2, h3, fun hr => ?_⟩
  obtain ⟨rs, e, f', h5, h6⟩ := h4 hr
  refine ⟨rs, e, f', h5, ?_⟩
  rcases h6 with h6 | ⟨k, h7, h8⟩ | ⟨k, n, ob, h7, h8, h9, h10, h11⟩
  · exact .inl h6
  · exact .inr (.inl ⟨k, h7, fun ha => m_sub h7 hs (h8 ha)⟩)
  · exact .inr (.inr ⟨k, n, ob, h7, by rw [hal]; exact h8, h9, hs _ _ h10, h11⟩)
/-- the machine does a quiet operation -/
theorem RegR.push {i : Nat} (R : RegR W fn g L ε h nx b0 act A (i :: rest) M td al F0 tm0 f tm) (H : Rgn W fn ops draw g) {o : Oper} (ho : g.ops[i]? = some o) {v : V} {h' : AM.H} {nx' : Nat} {al' : Nat → Option Nat}
    (hal : ∀ j, j ≠ i → al' j = al j) (hal' : ∀ n, al' i = some n → n = nx ∧ nx < nx' ∨ al i = some n) (hs : Sub h h') (hnx : nx ≤ nx') (hb : b0 ≤ nx) (hpd : Pd W g ε h' act al' F0 A (i, v)) :
    RegR W fn g L ε h' nx' b0 act ((i, v) :: A) rest M td al' F0 tm0 (putK (cKeep (keepOf W.keep fn) o.dst) v f) tm := by
  obtain ⟨hlt, hni⟩ := R.next_not H
  have hiM : i ∉ M := fun e => hni (R.sub i e)
  refine ⟨by rw [R.ord]; simp, R.sch, fun j hj => List.mem_cons_of_mem _ (R.sub j hj), List.nodup_cons.2 ⟨hni, R.nd⟩, R.rel0, R.dom, fold_add ho R.fold, R.size, R.tms, fun x hx hxM => ?_, fun a x b hab hxM => ?_, fun j k n hj hk => ?_, fun j n hj => ?_⟩
  · rcases List.mem_cons.1 hx with rfl | hx
    · exact absurd hxM hiM
    · exact R.done x hx hxM
  · cases a with
    | nil =>
      cases hab
      exact hpd
    | cons y a =>
      simp only [List.cons_append, List.cons.injEq] at hab
      refine (R.pend a x b hab.2 hxM).mono hs (hal _ fun e => hni ?_)
      rw [← e, hab.2]; simp
  · by_cases e1 : j = i
    · by_cases e2 : k = i
      · rw [e1, e2]
      · subst e1
        rw [hal k e2] at hk
        rcases hal' n hj with ⟨h1, _⟩ | h1
        · have := (R.rng k n hk).2; omega
        · exact R.dist _ _ _ h1 hk
    · rw [hal j e1] at hj
      by_cases e2 : k = i
      · subst e2
        rcases hal' n hk with ⟨h1, _⟩ | h1
        · have := (R.rng j n hj).2; omega
        · exact R.dist _ _ _ hj h1
      · rw [hal k e2] at hk
        exact R.dist _ _ _ hj hk
  · by_cases e1 : j = i
    · subst e1
      rcases hal' n hj with ⟨h1, h2⟩ | h1
      · exact ⟨by omega, by omega⟩
      · have := R.rng j n h1; exact ⟨this.1, by omega⟩
    · rw [hal j e1] at hj
      have := R.rng j n hj; exact ⟨this.1, by omega⟩
/-- what the machine waits for meanwhile -/
theorem Pd.sleep {h' : H} {ε' : Env} {b : List (Nat × V)} {x : Nat × V} (p : Pd W g ε h act al F0 b x) (hr : ∀ n, al x.1 = some n → ε (pth n) = none → ε' (pth n) = none ∧ T.get (pth n) h' = T.get (pth n) h) : Pd W g ε' h' False al F0 b x := by
  obtain ⟨o, run, h1, h2, h3, h4⟩ := p
  refine ⟨o, run, h1, h2, h3, fun hr' => ?_⟩
  obtain ⟨rs, e, f', h5, h6⟩ := h4 hr'
  refine ⟨rs, e, f', h5, ?_⟩
  rcases h6 with h6 | ⟨k, h7, h8⟩ | ⟨k, n, ob, h7, h8, h9, h10, h11⟩
  · exact .inl h6
  · exact .inr (.inl ⟨k, h7, fun ha => ha.elim⟩)
  · obtain ⟨g1, g2⟩ := hr n h8 h11
    exact .inr (.inr ⟨k, n, ob, h7, h8, h9, by rw [g2]; exact h10, g1⟩)
theorem RegR.sleep (R : RegR W fn g L ε h nx b0 act A rest M td al F0 tm0 f tm) {ε' : Env} {h' : H} (E : EvB nx ε h ε' h') : RegR W fn g L ε' h' nx b0 False A rest M td al F0 tm0 f tm := by
  refine ⟨R.ord, R.sch, R.sub, R.nd, R.rel0.mono E.ext, R.dom, R.fold, R.size, R.tms, fun x hx hxM t ht => ?_, fun a x b hab hxM => ?_, R.dist, R.rng⟩
  · obtain ⟨u, h1, h2⟩ := R.done x hx hxM t ht
    exact ⟨u, conc_mono E.ext _ _ h1, h2⟩
  · exact (R.pend a x b hab hxM).sleep fun n hn hnone => E.pend n (R.rng _ _ hn).2 hnone
theorem RegR.nx_le (R : RegR W fn g L ε h nx b0 act A rest M td al F0 tm0 f tm) {nx' : Nat} (hn : nx ≤ nx') : RegR W fn g L ε h nx' b0 act A rest M td al F0 tm0 f tm :=
  ⟨R.ord, R.sch, R.sub, R.nd, R.rel0, R.dom, R.fold, R.size, R.tms, R.done, R.pend, R.dist, fun i n hi => ⟨(R.rng i n hi).1, Nat.lt_of_lt_of_le (R.rng i n hi).2 hn⟩⟩
/-- a loud operation is done by both -/
theorem RegR.exec {i : Nat} {td' : List Nat} (R : RegR W fn g L ε h nx b0 act A (i :: rest) M (i :: td') al F0 tm0 f tm) (H : Rgn W fn ops draw g) {o : Oper} (ho : g.ops[i]? = some o)
    {ε' : Env} {h' : AM.H} {nx' : Nat} {v : V} {z : Value} (E : EvB nx ε h ε' h') (hz : conc ε' v = some z) (hnx : nx ≤ nx') :
    RegR W fn g L ε' h' nx' b0 False ((i, v) :: A) rest (M ++ [i]) td' al F0 tm0 (putK (cKeep (keepOf W.keep fn) o.dst) v f) (putT o.dst z tm) := by
  obtain ⟨hlt, hni⟩ := R.next_not H
  have hiM : i ∉ M := fun e => hni (R.sub i e)
  have hdst : g.dst i = o.dst := Rg.dst_of ho
  have hsz : (putT o.dst z tm).size = tm.size := by unfold putT; cases o.dst <;> simp
  have hother : ∀ t, g.dst i ≠ some t → (putT o.dst z tm)[t]? = tm[t]? := by
    intro t ht
    unfold putT
    cases hd : o.dst with
    | none => rfl
    | some d =>
      have : d ≠ t := fun e => ht (by rw [hdst, hd, e])
      simp only []
      rw [Array.getElem?_setIfInBounds_ne this]
  have R' := R.sleep E
  refine ⟨by rw [R.ord]; simp, by rw [R.sch]; simp, fun j hj => ?_, List.nodup_cons.2 ⟨hni, R.nd⟩, R'.rel0, R.dom, fold_add ho R.fold, hsz.trans R.size, fun t ht => ?_, fun x hx hxM t hxt => ?_, fun a x b hab hxM => ?_, R.dist, fun j n hj => ?_⟩
  · rcases List.mem_append.1 hj with hj | hj
    · exact List.mem_cons_of_mem _ (R.sub j hj)
    · simp at hj; subst hj; simp
  · rw [hother t (ht i (by simp)), R.tms t fun j hj => ht j (List.mem_append_left _ hj)]
  · rcases List.mem_cons.1 hx with rfl | hx
    · refine ⟨z, hz, ?_⟩
      have hlt := (H.writer hxt).2
      rw [hdst] at hxt
      unfold putT
      rw [hxt]
      exact Array.getElem?_setIfInBounds_self_of_lt (by rw [R.size]; exact Nat.lt_of_lt_of_le hlt R.rel0.size)
    · have hne : x.1 ≠ i := fun e => hni (by rw [← e]; exact List.mem_map.2 ⟨x, hx, rfl⟩)
      have hxM' : x.1 ∈ M := by
        rcases List.mem_append.1 hxM with h1 | h1
        · exact h1
        · simp at h1; exact absurd h1 hne
      obtain ⟨u, h1, h2⟩ := R'.done x hx hxM' t hxt
      exact ⟨u, h1, by rw [hother t fun e2 => hne (H.uniq hxt e2)]; exact h2⟩
  · cases a with
    | nil =>
      cases hab
      exact absurd (by simp) hxM
    | cons y a =>
      simp only [List.cons_append, List.cons.injEq] at hab
      exact R'.pend a x b hab.2 fun e => hxM (List.mem_append_left _ e)
  · have := R.rng j n hj; exact ⟨this.1, by omega⟩

/-! looking once more -/
theorem posOf_nth : ∀ {B : List (Nat × V)} {y : Nat × V}, (B.map (·.1)).Nodup → y ∈ B → nth (posOf y.1 (B.map (·.1))) (B.map (·.2)) = some y.2
  | x :: B, y, hn, hy => by
    simp only [List.map_cons, List.nodup_cons] at hn
    simp only [List.map_cons, posOf]
    rcases List.mem_cons.1 hy with rfl | hy
    · have : Nat.beq y.1 y.1 = true := Nat.beq_refl _
      rw [this, bc_true]; rfl
    · cases hb : Nat.beq x.1 y.1 with
      | true => exact absurd (List.mem_map.2 ⟨y, hy, (Nat.eq_of_beq_eq_true hb).symm⟩) hn.1
      | false =>
        rw [bc_false]
        exact posOf_nth hn.2 hy
theorem behind_eq : ∀ {a b : List (Nat × V)} {y : Nat × V}, ((a ++ y :: b).map (·.1)).Nodup → behind y.1 ((a ++ y :: b).map (·.1)) = b.map (·.1)
  | [], b, y, _ => by
    simp only [List.nil_append, List.map_cons, behind]
    have : Nat.beq y.1 y.1 = true := Nat.beq_refl _
    rw [this, bc_true]
  | x :: a, b, y, hn => by
    simp only [List.cons_append, List.map_cons, behind]
    simp only [List.cons_append, List.map_cons, List.nodup_cons] at hn
    cases hb : Nat.beq x.1 y.1 with
    | true => exact absurd (by rw [Nat.eq_of_beq_eq_true hb]; simp) hn.1
    | false => rw [bc_false]; exact behind_eq hn.2
theorem chkRe_mem {e : E} {f : F} {h : H} : ∀ {l : List RK} {pos : Nat} {gd : Gd} {k : E → F → H → Option V}, chkRe e f h l = true → RK.mk pos gd k ∈ l →
    match gd with
    | .yes => ∃ u, k e f h = some u ∧ nth pos e = some u
    | .g q w => ∃ x, q e f = some x ∧ (wantB x w = true → ∃ u, k e f h = some u ∧ nth pos e = some u)
    | .no => False
  | r :: l, pos, gd, k, hc, hm => by
    cases r with
    | mk pos' gd' k' =>
      obtain ⟨h1, h2⟩ := bc_and (show bc _ _ _ = true from hc)
      rcases List.mem_cons.1 hm with he | hm
      · cases he
        have same : (match k e f h, nth pos e with | some v, some u => eqVV v u | _, _ => false) = true → ∃ u, k e f h = some u ∧ nth pos e = some u := by
          intro h3
          cases hk : k e f h with
          | none => rw [hk] at h3; cases h3
          | some v => cases hp : nth pos e with
            | none => rw [hk, hp] at h3; cases h3
            | some u => rw [hk, hp] at h3; exact ⟨u, by rw [eqVV_eq h3], rfl⟩
        cases gd with
        | yes => exact same h1
        | no => cases h1
        | g q w =>
          simp only [] at h1 ⊢
          cases hq : q e f with
          | none => rw [hq] at h1; cases h1
          | some x =>
            rw [hq] at h1
            refine ⟨x, rfl, fun hw => same ?_⟩
            simp only [] at h1
            rw [hw, bc_true] at h1; exact h1
      · exact chkRe_mem h2 hm
theorem upto_lt : ∀ {k s : Nat} {l r : List Nat} {i : Nat}, upto s k = l ++ i :: r → ∀ x ∈ l, x < i
  | 0, s, l, r, i, h, x, hx => by cases l <;> cases h
  | k + 1, s, l, r, i, h, x, hx => by
    cases l with
    | nil => cases hx
    | cons y l =>
      simp only [upto, List.cons_append, List.cons.injEq] at h
      have hge : ∀ {k s : Nat} {x : Nat}, x ∈ upto s k → s ≤ x := by
        intro k
        induction k with
        | zero => intro s x hx; cases hx
        | succ k ih =>
          intro s x hx
          rcases List.mem_cons.1 hx with rfl | hx
          · exact Nat.le_refl _
          · have := ih hx; omega
      rcases List.mem_cons.1 hx with rfl | hx
      · have : i ∈ upto (s + 1) k := by rw [h.2]; simp
        have := hge this
        omega
      · exact upto_lt h.2 x hx
/-- what was read and is not ordered before a loud operation is looked at once more -/
theorem RegR.wake {i : Nat} {v : V} (R : RegR W fn g L ε h nx b0 False ((i, v) :: A) rest (M ++ [i]) td al F0 tm0 f tm) (H : Rgn W fn ops draw g) (O : Ord g L) (hloud : g.loud i = true)
    {o : Oper} (ho : g.ops[i]? = some o) (hc : chkRe (v :: A.map (·.2)) f h (mapL (g.rk (o.dst :: A.map fun x => g.dst x.1) (i :: A.map (·.1))) (g.again (A.map (·.1)) i)) = true) :
    RegR W fn g L ε h nx b0 True ((i, v) :: A) rest (M ++ [i]) td al F0 tm0 f tm := by
  have hord : orderOf g = (A.map (·.1)).reverse ++ i :: rest := by rw [R.ord]; simp
  have hok := H.at_ hord
  have hL : L = M ++ i :: td := by rw [R.sch]; simp
  have hn := R.nd
  simp only [List.map_cons, List.nodup_cons] at hn
  refine ⟨R.ord, R.sch, R.sub, R.nd, R.rel0, R.dom, R.fold, R.size, R.tms, R.done, fun a y b hab hyM => ?_, R.dist, R.rng⟩
  cases a with
  | nil => cases hab; exact absurd (by simp) hyM
  | cons z a =>
    simp only [List.cons_append, List.cons.injEq] at hab
    obtain ⟨hz, hA⟩ := hab
    obtain ⟨p, run, h1, h2, h3, h4⟩ := R.pend (z :: a) y b (by rw [← hz, hA]; rfl) hyM
    refine ⟨p, run, h1, h2, h3, fun hr => ?_⟩
    obtain ⟨rs, e, f', h5, h6⟩ := h4 hr
    rcases h6 with h6 | ⟨k, h7, h8⟩ | h6
    · exact ⟨rs, e, f', h5, .inl h6⟩
    · have hyA : y ∈ A := by rw [hA]; simp
      have hnp : g.prec y.1 i = false := by
        cases hp : g.prec y.1 i with
        | false => rfl
        | true => exact absurd (List.mem_append_left _ (O.pr M i td hL _ hp)) hyM
      have hdr : g.draw = true := by
        cases hd : g.draw with
        | true => rfl
        | false =>
          have h9 : g.prec y.1 i = true := by
            unfold Rg.prec
            rw [hd, bc_false]
            refine Nat.ble_eq_true_of_le (upto_lt (s := 0) (k := g.n) (l := (A.map (·.1)).reverse) (r := rest) ?_ y.1 ?_)
            · rw [← hord]; unfold orderOf; rw [hd, bc_false]
            · simp only [List.mem_reverse]; exact List.mem_map.2 ⟨y, hyA, rfl⟩
          rw [h9] at hnp; cases hnp
      have hkind : g.kind y.1 = 1 := by
        unfold Rg.kind
        rw [getL_eq, h1, H.eP]
        show kindC (cOp W _ p.op) = 1
        rw [kind_rs W _ rs, h7]; rfl
      have hag : y.1 ∈ g.again (A.map (·.1)) i := by
        unfold Rg.again
        rw [hdr, bc_true, hloud, bc_true, List.mem_filter]
        refine ⟨List.mem_map.2 ⟨y, hyA, rfl⟩, ?_⟩
        rw [hkind, hnp]; rfl
      have hsame : ∀ t ∈ g.reads y.1, slot g ((i, v) :: A) F0 t = slot g b F0 t := by
        intro t ht
        have hag' := (okAt_reads hok).2 y.1 hag t ht
        unfold Rg.okAgain at hag'
        have hbn : (b.map (·.1)).Nodup := by
          have := hn.2
          rw [hA, List.map_append, List.map_cons] at this
          exact (List.nodup_cons.1 (List.nodup_append.1 this).2.1).2
        have hbA : ∀ x ∈ b, x ∈ (i, v) :: A := fun x hx => by rw [hA]; simp [hx]
        cases hw : g.writer t with
        | none =>
          have hno : ∀ x : Nat × V, g.dst x.1 ≠ some t := fun x e => by
            have := (H.writer e).1
            rw [hw] at this; cases this
          rw [slot_not g F0 fun x _ => hno x, slot_not g F0 fun x _ => hno x]
        | some j =>
          have hd := writer_dst hw
          rw [hw] at hag'
          simp only [] at hag'
          cases hji : Nat.beq j i with
          | true => rw [hji] at hag'; cases hag'
          | false =>
            rw [hji, bc_false] at hag'
            cases hm : memN j (A.map (·.1)) with
            | true =>
              rw [hm, bc_true] at hag'
              have hbe : behind y.1 (A.map (·.1)) = b.map (·.1) := by rw [hA]; exact behind_eq (by rw [← hA]; exact hn.2)
              rw [hbe] at hag'
              obtain ⟨x, hx, e⟩ := List.mem_map.1 (memN_iff.1 hag')
              subst e
              rw [slot_in H F0 hbn hx hd, slot_in H F0 R.nd (hbA x hx) hd]
            | false =>
              have hno : ∀ x ∈ (i, v) :: A, g.dst x.1 ≠ some t := by
                intro x hx e
                have := H.uniq e hd
                rcases List.mem_cons.1 hx with rfl | hx
                · rw [← this, Nat.beq_refl] at hji; cases hji
                · exact memN_false.1 hm (List.mem_map.2 ⟨x, hx, this⟩)
              rw [slot_not g F0 hno, slot_not g F0 fun x hx => hno x (hbA x hx)]
      have hmem : ∃ k', cOp W (cOpd (o.dst :: A.map fun x => g.dst x.1)) p.op = .m k' ∧ RK.mk (posOf y.1 (i :: A.map (·.1))) (cGuard g.ops (o.dst :: A.map fun x => g.dst x.1) p) k' ∈
          mapL (g.rk (o.dst :: A.map fun x => g.dst x.1) (i :: A.map (·.1))) (g.again (A.map (·.1)) i) := by
        have hkc : kindC (cOp W (cOpd (o.dst :: A.map fun x => g.dst x.1)) p.op) = 1 := by rw [kind_rs W _ rs, h7]; rfl
        cases hcc : cOp W (cOpd (o.dst :: A.map fun x => g.dst x.1)) p.op with
        | m k' =>
          refine ⟨k', rfl, ?_⟩
          rw [mapL_eq]
          refine List.mem_map.2 ⟨y.1, hag, ?_⟩
          unfold Rg.rk
          rw [getL_eq, h1, H.eP]
          simp only [hcc]
        | _ => rw [hcc] at hkc; cases hkc
      obtain ⟨k', h9, h10⟩ := hmem
      have hpos : nth (posOf y.1 (i :: A.map (·.1))) (v :: A.map (·.2)) = some y.2 :=
        posOf_nth (B := (i, v) :: A) (y := y) R.nd (by simp [hyA])
      have hds : (o.dst :: A.map fun x => g.dst x.1) = ((i, v) :: A).map fun x => g.dst x.1 := by
        simp only [List.map_cons, Rg.dst_of ho]
      have hev := cOpd_eval g ((i, v) :: A) f
      have hval : k' (v :: A.map (·.2)) f h = some y.2 := by
        have hcm := chkRe_mem hc h10
        unfold GdR at h2
        unfold cGuard at hcm
        cases hgd : p.guard with
        | none =>
          rw [hgd] at hcm
          obtain ⟨u, g1, g2⟩ := hcm
          rw [hpos] at g2; cases g2; exact g1
        | some jw =>
          obtain ⟨j, want⟩ := jw
          rw [hgd] at hcm h2
          simp only [] at hcm h2
          obtain ⟨d, u, g1, g2, g3⟩ := h2
          have hrd := reads_guard h1 hgd g1
          obtain ⟨pj, g4, g5⟩ := dst_at g1
          rw [getL_eq, g4] at hcm
          simp only [g5] at hcm
          obtain ⟨q, g6, g7⟩ := hev (.tmp d)
          rw [← hds] at g6
          rw [g6] at hcm
          simp only [bx] at hcm
          obtain ⟨x, g8, g9⟩ := hcm
          have g7 : q (v :: A.map (·.2)) f = slot g ((i, v) :: A) f d := g7
          rw [g7, R.fsame H, hsame d hrd, g2] at g8
          cases g8
          obtain ⟨u', g10, g11⟩ := g9 (by rw [g3, hr])
          rw [hpos] at g11; cases g11; exact g10
      refine ⟨_, _, _, fun x hx q u hq hqu => ?_, .inr (.inl ⟨k', h9, fun _ => hval⟩)⟩
      obtain ⟨q', g1, g2⟩ := hev x
      rw [← hds, hq] at g1
      cases g1
      have g2 : q (v :: A.map (·.2)) f = opv g ((i, v) :: A) f x := g2
      rw [g2, R.opv_same H] at hqu
      cases x with
      | tmp t =>
        show slot g b F0 t = some u
        rw [← hsame t (reads_opd h1 hx)]; exact hqu
      | _ => exact hqu
    · exact ⟨rs, e, f', h5, .inr (.inr h6)⟩

/-! what stands before a loud operation; the end -/
theorem lastLoud_some : ∀ {l pre : List Nat} {i : Nat}, g.loud i = true → ∃ j, g.lastLoud (l ++ i :: pre) = some j ∧ (j = i ∨ ∃ l1 l2, l = l1 ++ j :: l2) ∧ g.loud j = true
  | [], pre, i, hi => ⟨i, by simp [Rg.lastLoud, hi, bc], .inl rfl, hi⟩
  | x :: l, pre, i, hi => by
    cases hx : g.loud x with
    | true => exact ⟨x, by simp [Rg.lastLoud, hx, bc], .inr ⟨[], l, rfl⟩, hx⟩
    | false =>
      obtain ⟨j, h1, h2, h3⟩ := lastLoud_some (l := l) (pre := pre) hi
      refine ⟨j, by simp only [List.cons_append, Rg.lastLoud, hx, bc_false]; exact h1, h2.imp id ?_, h3⟩
      rintro ⟨l1, l2, rfl⟩
      exact ⟨x :: l1, l2, rfl⟩
theorem behind_loud (H : Rgn W fn ops draw g) (O : Ord g L) : ∀ (n : Nat) {pre r1 r2 : List Nat} {i x : Nat}, r1.length = n → orderOf g = pre.reverse ++ i :: (r1 ++ x :: r2) → g.loud i = true → ∀ a c, L = a ++ x :: c → i ∈ a := by
  intro n
  induction n using Nat.strongRecOn with
  | _ n ih =>
    intro pre r1 r2 i x hn hord hi a c hL
    have hok := H.at_ (pre := r1.reverse ++ i :: pre) (i := x) (rest := r2) (by rw [hord]; simp)
    obtain ⟨j, h1, h2, h3⟩ := lastLoud_some (g := g) (l := r1.reverse) (pre := pre) hi
    have hj := O.pr a x c hL j (okAt_loud hok h1)
    rcases h2 with rfl | ⟨l1, l2, h4⟩
    · exact hj
    · have hr1 : r1 = l2.reverse ++ j :: l1.reverse := by rw [← List.reverse_reverse r1, h4]; simp
      obtain ⟨a1, a2, rfl⟩ := List.append_of_mem hj
      have := ih l2.reverse.length (by rw [← hn, hr1]; simp) (pre := pre) (r1 := l2.reverse) (r2 := l1.reverse ++ x :: r2) (i := i) (x := j) rfl (by rw [hord, hr1]; simp) hi a1 (a2 ++ x :: c) (by rw [hL]; simp)
      exact List.mem_append_left _ this
theorem RegR.before {i : Nat} (R : RegR W fn g L ε h nx b0 act A (i :: rest) M td al F0 tm0 f tm) (H : Rgn W fn ops draw g) (O : Ord g L) (hloud : g.loud i = true) :
    ∃ q td', td = q ++ i :: td' ∧ ∀ y ∈ q, y ∈ A.map (·.1) := by
  obtain ⟨hlt, hni⟩ := R.next_not H
  have hiL := O.mem i hlt
  rw [R.sch] at hiL
  rcases List.mem_append.1 hiL with h1 | h1
  · exact absurd (R.sub i h1) hni
  · obtain ⟨q, td', rfl⟩ := List.append_of_mem h1
    refine ⟨q, td', rfl, fun y hy => ?_⟩
    have hyL : y ∈ L := by rw [R.sch]; simp [hy]
    have hyo := H.parts.2.2 y (O.lt y hyL)
    rw [R.ord] at hyo
    have hnd := O.nd
    rw [R.sch] at hnd
    obtain ⟨_, hnd2, hnd3⟩ := List.nodup_append.1 hnd
    rcases List.mem_append.1 hyo with h2 | h2
    · exact List.mem_reverse.1 h2
    · rcases List.mem_cons.1 h2 with rfl | h2
      · exact absurd rfl ((List.nodup_append.1 hnd2).2.2 y hy y (by simp))
      · obtain ⟨r1, r2, hr⟩ := List.append_of_mem h2
        obtain ⟨q1, q2, hq⟩ := List.append_of_mem hy
        have := behind_loud H O _ (r1 := r1) rfl (by rw [R.ord, hr]) hloud (M ++ q1) (q2 ++ i :: td') (by rw [R.sch, hq]; simp)
        rcases List.mem_append.1 this with h3 | h3
        · exact absurd (R.sub i h3) hni
        · exact absurd rfl ((List.nodup_append.1 hnd2).2.2 i (by rw [hq]; exact List.mem_append_left _ h3) i (by simp))
theorem RegR.all_in (R : RegR W fn g L ε h nx b0 act A [] M td al F0 tm0 f tm) (H : Rgn W fn ops draw g) (O : Ord g L) : ∀ i ∈ td, i ∈ A.map (·.1) := by
  intro i hi
  have := H.parts.2.2 i (O.lt i (by rw [R.sch]; exact List.mem_append_right _ hi))
  rw [R.ord] at this
  simpa using this
theorem RegR.over (R : RegR W fn g L ε h nx b0 act A [] M [] al F0 tm0 f tm) (H : Rgn W fn ops draw g) (O : Ord g L) : FRel ε (ntOf W fn) f tm ∧ Doms W fn f := by
  have hM : ∀ x ∈ A, x.1 ∈ M := by
    intro x hx
    have h1 : x.1 ∈ orderOf g := by rw [R.ord]; simp; exact ⟨x.2, hx⟩
    have h2 : x.1 < g.n := by
      obtain ⟨a, b, hA⟩ := List.append_of_mem hx
      exact (okAt_lt (R.okAt H hA)).1
    have := O.mem _ h2
    rw [R.sch] at this
    simpa using this
  refine ⟨⟨by rw [R.size]; exact R.rel0.size, fun t v hv => ?_⟩, fun t v hv => ?_⟩
  · rw [R.fold] at hv
    cases hm : memN t (keepOf W.keep fn) with
    | true =>
      rw [hm, bc_true] at hv
      rcases slot_split g F0 t A with ⟨x, hx, hd⟩ | ⟨h1, h2⟩
      · rw [slot_in H F0 R.nd hx hd] at hv
        cases hv
        exact R.done x hx (hM x hx) t hd
      · rw [h2] at hv
        obtain ⟨y, h3, h4⟩ := R.rel0.get t v hv
        refine ⟨y, h3, ?_⟩
        rw [R.tms t fun i hi e => ?_]; exact h4
        obtain ⟨x, hx, rfl⟩ := List.mem_map.1 (R.sub i hi)
        exact h1 x hx e
    | false =>
      rw [hm, bc_false] at hv
      obtain ⟨y, h3, h4⟩ := R.rel0.get t v hv
      refine ⟨y, h3, ?_⟩
      rw [R.tms t fun i hi e => ?_]; exact h4
      rcases R.dom t v hv with h5 | h5 | h5
      · rw [hm] at h5; cases h5
      · rcases H.kept e with h6 | ⟨h6, _⟩
        · rw [hm] at h6; cases h6
        · exact absurd h5 (Nat.not_lt.2 h6)
      · rcases H.kept e with h6 | ⟨_, h6⟩
        · rw [hm] at h6; cases h6
        · rw [h5] at h6; cases h6
  · rw [R.fold] at hv
    cases hm : memN t (keepOf W.keep fn) with
    | true => exact .inl hm
    | false => rw [hm, bc_false] at hv; exact R.dom t v hv
end
end Go.AM
end
section
/- States of the machine against states of the model. -/
noncomputable section
namespace Go.AM
open Go.RowKit (Below)

/-- what a frame has to do, but for a region under way -/
def KR (W : Wd) (fn : FuncId) (ε : Env) : List It → List Item → Prop
  | [], ts => ts = []
  | i :: k, ts => match i with
    | .code c => ∃ t, ts = .code c :: t ∧ okIn W fn c = true ∧ KR W fn ε k t
    | .blk id => ∃ t, ts = .inBlock id :: t ∧ KR W fn ε k t
    | .lp b => ∃ t, ts = .inLoop b :: t ∧ okIn W fn b = true ∧ KR W fn ε k t
    | .scp => ∃ t b, ts = .inScope b :: t ∧ KR W fn ε k t
    | .begR => ∃ t, ts = .beginRound :: t ∧ KR W fn ε k t
    | .endRF b => ∃ t y, ts = .endRangeFunc y.cb :: t ∧ ε b = some y ∧ KR W fn ε k t
    | _ => False
theorem KR.mono {W : Wd} {fn : FuncId} {ε ε' : Env} (e : Ext ε ε') : ∀ {k : List It} {ts : List Item}, KR W fn ε k ts → KR W fn ε' k ts
  | [], _, h => h
  | i :: k, ts, h => by
    cases i with
    | code c => obtain ⟨t, h1, h2, h3⟩ := h; exact ⟨t, h1, h2, h3.mono e⟩
    | blk id => obtain ⟨t, h1, h3⟩ := h; exact ⟨t, h1, h3.mono e⟩
    | lp b => obtain ⟨t, h1, h2, h3⟩ := h; exact ⟨t, h1, h2, h3.mono e⟩
    | scp => obtain ⟨t, b, h1, h3⟩ := h; exact ⟨t, b, h1, h3.mono e⟩
    | begR => obtain ⟨t, h1, h3⟩ := h; exact ⟨t, h1, h3.mono e⟩
    | endRF b => obtain ⟨t, y, h1, h2, h3⟩ := h; exact ⟨t, y, h1, e _ _ h2, h3.mono e⟩
    | plan _ _ => exact h.elim
    | inRF _ => exact h.elim
    | ret => exact h.elim

/-- deferred calls of a frame -/
def DfR (ε : Env) (d : Df) (x : Deferred) : Prop := match d with
  | .call d => DR ε d x
  | .coll b => ∃ y, ε b = some y ∧ x = { target := .collected y.cb, args := #[] }
def DfsR (ε : Env) : List Df → List Deferred → Prop
  | [], xs => xs = []
  | d :: ds, xs => ∃ y ys, xs = y :: ys ∧ DfR ε d y ∧ DfsR ε ds ys
theorem DfR.mono {ε ε' : Env} (e : Ext ε ε') {d : Df} {x : Deferred} (h : DfR ε d x) : DfR ε' d x := by
  cases d with
  | call d => exact DR.mono e h
  | coll b => obtain ⟨y, h1, h2⟩ := h; exact ⟨y, e _ _ h1, h2⟩
theorem DfsR.mono {ε ε' : Env} (e : Ext ε ε') : ∀ {ds : List Df} {xs : List Deferred}, DfsR ε ds xs → DfsR ε' ds xs
  | [], _, h => h
  | _ :: _, _, h => by obtain ⟨y, ys, rfl, h1, h2⟩ := h; exact ⟨y, ys, rfl, h1.mono e, DfsR.mono e h2⟩
def kdOf : Kd → CallKind
  | .normal => .normal
  | .deferred => .deferred
def RndR (ε : Env) (r : Option Pth) (x : Option Nat) : Prop := match r with
  | none => x = none
  | some b => ∃ y, ε b = some y ∧ x = some y.cb
theorem RndR.mono {ε ε' : Env} (e : Ext ε ε') {r : Option Pth} {x : Option Nat} (h : RndR ε r x) : RndR ε' r x := by
  cases r with
  | none => exact h
  | some b => obtain ⟨y, h1, h2⟩ := h; exact ⟨y, e _ _ h1, h2⟩
structure MtR (W : Wd) (ε : Env) (m : Mt) (fr : Frame) : Prop where
  fn : fr.fn = m.fn
  dfs : DfsR ε m.dfs fr.defers
  kd : fr.kind = kdOf m.kd
  rnd : RndR ε m.rnd fr.roundOf
  has : ∃ x, W.fun m.fn = some x
  rk : m.rnd = none ∨ m.kd = .normal
theorem MtR.mono {W : Wd} {ε ε' : Env} (e : Ext ε ε') {m : Mt} {fr : Frame} (h : MtR W ε m fr) : MtR W ε' m fr := ⟨h.fn, h.dfs.mono e, h.kd, h.rnd.mono e, h.has, h.rk⟩
theorem MtR.same {W : Wd} {ε : Env} {m : Mt} {fr : Frame} (h : MtR W ε m fr) {fr' : Frame} (h1 : fr'.fn = fr.fn) (h2 : fr'.defers = fr.defers) (h3 : fr'.kind = fr.kind) (h4 : fr'.roundOf = fr.roundOf) : MtR W ε m fr' :=
  ⟨h1.trans h.fn, by rw [h2]; exact h.dfs, h3.trans h.kd, by rw [h4]; exact h.rnd, h.has, h.rk⟩

abbrev ks (W : Wd) (fn : FuncId) : List Nat := keepOf W.keep fn
/-- the plan's rest -/
def planR (W : Wd) (fn : FuncId) (g : Rg) (A : List (Nat × V)) (rest : List Nat) : List PI := g.comp (ks W fn) (A.map (·.1)) (A.map fun x => g.dst x.1) rest
/-- a region under way in a frame -/
structure RegF (W : Wd) (ε : Env) (h : H) (nx b0 : Nat) (act : Prop) (f : F) (k : List It) (m : Mt) (fr : Frame) (g : Rg) (L : List Nat) (ops : Array Oper) (draw : Bool) (A : List (Nat × V)) (rest M td : List Nat)
    (al : Nat → Option Nat) (F0 : F) (tm0 : Array Value) (k' : List It) (t' : List Item) : Prop where
  mt : MtR W ε m fr
  mode : fr.mode = .run
  hk : k = .plan (planR W m.fn g A rest) (A.map (·.2)) :: k'
  ht : fr.todo = .inRegion ops td :: t'
  kr : KR W m.fn ε k' t'
  rgn : Rgn W m.fn ops draw g
  ord : Ord g L
  reg : RegR W m.fn g L ε h nx b0 act A rest M td al F0 tm0 f fr.tmps
/-- the frame that runs -/
inductive FrmR (W : Wd) (ε : Env) (h : H) (nx b0 : Nat) (f : F) (k : List It) (m : Mt) (fr : Frame) : Prop where
  | items (mt : MtR W ε m fr) (mode : fr.mode = .run) (kr : KR W m.fn ε k fr.todo) (rel : FRel ε (ntOf W m.fn) f fr.tmps) (dom : Doms W m.fn f)
  | back (mt : MtR W ε m fr) (mode : fr.mode = .returning) (hk : k = [.ret]) (rel : FRel ε (ntOf W m.fn) f fr.tmps) (dom : Doms W m.fn f)
  | reg (g : Rg) (L : List Nat) (ops : Array Oper) (draw : Bool) (A : List (Nat × V)) (rest M td : List Nat) (al : Nat → Option Nat) (F0 : F) (tm0 : Array Value) (k' : List It) (t' : List Item)
      (r : RegF W ε h nx b0 True f k m fr g L ops draw A rest M td al F0 tm0 k' t')
/-- a frame that waits for a call -/
inductive SuspR (W : Wd) (ε : Env) (h : H) (nx b0 : Nat) (f : F) (k : List It) (m : Mt) (fr : Frame) : Prop where
  | call (g : Rg) (L : List Nat) (ops : Array Oper) (draw : Bool) (A : List (Nat × V)) (i : Nat) (rest M td : List Nat) (al : Nat → Option Nat) (F0 : F) (tm0 : Array Value) (k' : List It) (t' : List Item)
      (r : RegF W ε h nx b0 False f k m fr g L ops draw A (i :: rest) M (i :: td) al F0 tm0 k' t') (loud : g.loud i = true)
  | loop (b : Pth) (y : Ent) (k' : List It) (t' : List Item) (mt : MtR W ε m fr) (mode : fr.mode = .run) (hk : k = .inRF b :: k') (hy : ε b = some y) (ht : fr.todo = .inRangeFunc y.cb :: t') (kr : KR W m.fn ε k' t')
      (rel : FRel ε (ntOf W m.fn) f fr.tmps) (dom : Doms W m.fn f)
  | back (mt : MtR W ε m fr) (mode : fr.mode = .returning) (hk : k = [.ret]) (rel : FRel ε (ntOf W m.fn) f fr.tmps) (dom : Doms W m.fn f)
theorem RegF.sleep {W : Wd} {ε ε' : Env} {h h' : H} {nx b0 : Nat} {act : Prop} {f : F} {k : List It} {m : Mt} {fr : Frame} {g : Rg} {L : List Nat} {ops : Array Oper} {draw : Bool} {A : List (Nat × V)} {rest M td : List Nat}
    {al : Nat → Option Nat} {F0 : F} {tm0 : Array Value} {k' : List It} {t' : List Item} (R : RegF W ε h nx b0 act f k m fr g L ops draw A rest M td al F0 tm0 k' t') (E : EvB nx ε h ε' h') :
    RegF W ε' h' nx b0 False f k m fr g L ops draw A rest M td al F0 tm0 k' t' := ⟨R.mt.mono E.ext, R.mode, R.hk, R.ht, R.kr.mono E.ext, R.rgn, R.ord, R.reg.sleep E⟩
theorem SuspR.mono {W : Wd} {ε ε' : Env} {h h' : H} {nx b0 : Nat} {f : F} {k : List It} {m : Mt} {fr : Frame} (R : SuspR W ε h nx b0 f k m fr) (E : EvB nx ε h ε' h') : SuspR W ε' h' nx b0 f k m fr := by
  cases R with
  | call g L ops draw A i rest M td al F0 tm0 k' t' r loud => exact .call g L ops draw A i rest M td al F0 tm0 k' t' (r.sleep E) loud
  | loop b y k' t' mt mode hk hy ht kr rel dom => exact .loop b y k' t' (mt.mono E.ext) mode hk (E.ext _ _ hy) ht (kr.mono E.ext) (rel.mono E.ext) dom
  | back mt mode hk rel dom => exact .back (mt.mono E.ext) mode hk (rel.mono E.ext) dom

section
variable (W : Wd) (P : Program) (B : Nat) (f0 : FuncId) (cs0 : List Frame) (bB : Nat)
/-- the frames that wait -/
def StackR (ε : Env) (h : H) : Nat → Mt → List Fr → List Frame → Prop
  | b, m, [], frs => frs = cs0 ∧ m.fn = f0 ∧ bB ≤ b
  | b, m, c :: cs, frs => ∃ fr frs' b', frs = fr :: frs' ∧ b' ≤ b ∧ SuspR W ε h b b' c.f c.k c.m fr ∧ (m.kd = .deferred → c.k = [.ret]) ∧ StackR ε h b' c.m cs frs'
structure SimR (zf : H) (s : S) (fr : Frame) (cs : List Frame) (w : World) (ε : Env) : Prop where
  ex : ∃ b, b ≤ s.nx ∧ WR W B zf ε s.h s.nx w ∧ FrmR W ε s.h s.nx b s.f s.k s.m fr ∧ StackR W f0 cs0 bB ε s.h b s.m s.cs cs
/-- the model comes to a state that stands against s -/
def Goes (z : H) (s : S) (fr : Frame) (cs : List Frame) (w : World) (ε : Env) (h : H) (nx : Nat) : Prop :=
  ∃ ε' fr' cs' w', Steps P (lone fr cs w) (lone fr' cs' w') ∧ SimR W B f0 cs0 bB z s fr' cs' w' ε' ∧ EvB bB ε h ε' s.h ∧ Below B w w' ∧ Frz z h s.h ∧ nx ≤ s.nx
def Ends (z : H) (v : V) (h' : H) (nx' : Nat) (fr : Frame) (cs : List Frame) (w : World) (ε : Env) (h : H) (nx : Nat) : Prop :=
  ∃ ε' fr' w' x, Steps P (lone fr cs w) (lone fr' cs0 w') ∧ fr'.fn = f0 ∧ fr'.leaving P w' (.returned x) ∧ conc ε' v = some x ∧ WR W B z ε' h' nx' w' ∧ EvB bB ε h ε' h' ∧ Below B w w' ∧ Frz z h h' ∧ nx ≤ nx'
def Post (z : H) (r : R) (fr : Frame) (cs : List Frame) (w : World) (ε : Env) (h : H) (nx : Nat) : Prop := match r with
  | .go s => Goes W P B f0 cs0 bB z s fr cs w ε h nx
  | .many l => ∃ s ∈ l, Goes W P B f0 cs0 bB z s fr cs w ε h nx
  | .done v h' nx' => Ends W P B f0 cs0 bB z v h' nx' fr cs w ε h nx
  | .bad _ => True
end
section
variable {W : Wd} {P : Program} {B : Nat} {f0 : FuncId} {cs0 : List Frame} {bB : Nat} {z : H} {r : R} {fr fr1 : Frame} {cs cs1 : List Frame} {w w1 : World} {ε ε1 : Env} {h h1 : H} {nx nx1 : Nat}
theorem Goes.trans {s : S} (hs : Steps P (lone fr cs w) (lone fr1 cs1 w1)) (E : EvB bB ε h ε1 h1) (hb : Below B w w1) (hf : Frz z h h1) (hn : nx ≤ nx1) (hp : Goes W P B f0 cs0 bB z s fr1 cs1 w1 ε1 h1 nx1) :
    Goes W P B f0 cs0 bB z s fr cs w ε h nx := by
  obtain ⟨ε', fr', cs', w', g1, g2, g3, g4, g5, g6⟩ := hp
  exact ⟨ε', fr', cs', w', hs.trans g1, g2, E.trans g3, hb.trans g4, hf.trans g5, Nat.le_trans hn g6⟩
theorem Post.trans (hs : Steps P (lone fr cs w) (lone fr1 cs1 w1)) (E : EvB bB ε h ε1 h1) (hb : Below B w w1) (hf : Frz z h h1) (hn : nx ≤ nx1) (hp : Post W P B f0 cs0 bB z r fr1 cs1 w1 ε1 h1 nx1) :
    Post W P B f0 cs0 bB z r fr cs w ε h nx := by
  cases r with
  | go s => exact Goes.trans hs E hb hf hn hp
  | many l => obtain ⟨s, hl, hg⟩ := hp; exact ⟨s, hl, hg.trans hs E hb hf hn⟩
  | done v h' nx' =>
    obtain ⟨ε', fr', w', x, g1, g2, g3, g4, g5, g6, g7, g8, g9⟩ := hp
    exact ⟨ε', fr', w', x, hs.trans g1, g2, g3, g4, g5, E.trans g6, hb.trans g7, hf.trans g8, Nat.le_trans hn g9⟩
  | bad n => trivial
/-- steps that change nothing but the frame -/
theorem Post.one (hs : Go.step P (lone fr cs w) = .next (lone fr1 cs w)) (hp : Post W P B f0 cs0 bB z r fr1 cs w ε h nx) : Post W P B f0 cs0 bB z r fr cs w ε h nx :=
  Post.trans (Steps.one hs) (EvB.refl _ _ _) (Below.refl B w) (Frz.refl _ _) (Nat.le_refl _) hp
theorem Goes.here {s : S} (hs : SimR W B f0 cs0 bB z s fr cs w ε) : Goes W P B f0 cs0 bB z s fr cs w ε s.h s.nx := ⟨ε, fr, cs, w, Steps.refl P _, hs, EvB.refl _ _ _, Below.refl B w, Frz.refl _ _, Nat.le_refl _⟩
theorem StackR.mono : ∀ {cs : List Fr} {b : Nat} {m : Mt} {frs : List Frame}, StackR W f0 cs0 bB ε h b m cs frs → EvB b ε h ε1 h1 → StackR W f0 cs0 bB ε1 h1 b m cs frs
  | [], _, _, _, H, _ => H
  | c :: cs, b, m, frs, H, E => by
    obtain ⟨fr, frs', b', h2, h3, h4, h6, h5⟩ := H
    exact ⟨fr, frs', b', h2, h3, h4.mono E, h6, h5.mono (E.le h3)⟩
theorem StackR.base : ∀ {cs : List Fr} {b : Nat} {m : Mt} {frs : List Frame}, StackR W f0 cs0 bB ε h b m cs frs → bB ≤ b
  | [], _, _, _, H => H.2.2
  | c :: cs, b, m, frs, H => by
    obtain ⟨fr, frs', b', h2, h3, h4, h6, h5⟩ := H
    exact Nat.le_trans h5.base h3
theorem StackR.ofMt {m m' : Mt} (h1 : m'.fn = m.fn) (h2 : m'.kd = m.kd) : ∀ {cs : List Fr} {b : Nat} {frs : List Frame}, StackR W f0 cs0 bB ε h b m cs frs → StackR W f0 cs0 bB ε h b m' cs frs
  | [], _, _, H => ⟨H.1, h1.trans H.2.1, H.2.2⟩
  | c :: cs, b, frs, H => by
    obtain ⟨fr, frs', b', h3, h4, h5, h6, h7⟩ := H
    exact ⟨fr, frs', b', h3, h4, h5, fun e => h6 (by rw [← h2]; exact e), h7⟩
end
end Go.AM
end
end
section
/- Entering a function, going on in a region, going on behind a call. -/
noncomputable section
namespace Go.AM
open Go.RowKit (Below)

/-! entering -/
theorem args2_get : ∀ (as : List V) (s : Nat) (f : F) (t : Nat), T.get (pth t) (args2 s as f) = if s ≤ t ∧ t < s + as.length then as[t - s]? else T.get (pth t) f
  | [], s, f, t => by
    rw [if_neg (by simp)]; rfl
  | v :: vs, s, f, t => by
    show T.get (pth t) (args2 (s + 1) vs (T.put (pth s) (some v) f)) = _
    rw [args2_get vs (s + 1) _ t]
    by_cases h1 : s = t
    · subst h1
      rw [if_neg (by omega), if_pos (by simp), T.get_put_same]; simp
    · rw [T.get_put_ne _ _ fun e => h1 (pth_inj e)]
      by_cases h2 : s + 1 ≤ t ∧ t < s + 1 + vs.length
      · rw [if_pos h2, if_pos (by simp; omega)]
        have : t - s = (t - (s + 1)) + 1 := by omega
        rw [this, List.getElem?_cons_succ]
      · rw [if_neg h2, if_neg (by simp; omega)]
theorem enter_rel {ε : Env} {as : List V} {args : List Value} {nt : Nat} {tms : Array Value} (ha : concL ε as = some args) (ht : tms = args.toArray ++ Array.replicate (nt - args.toArray.size) Go.undef) : FRel ε nt (args2 0 as .e) tms := by
  have hl := concL_length ha
  refine ⟨by rw [ht]; simp; omega, fun t v hv => ?_⟩
  rw [args2_get] at hv
  split at hv
  · rw [Nat.sub_zero] at hv
    obtain ⟨x, h1, h2⟩ := concL_get t ha hv
    refine ⟨x, h1, ?_⟩
    have h3 := (List.getElem?_eq_some_iff.1 h2).1
    rw [ht, Array.getElem?_append_left (by simpa using h3)]
    simpa using h2
  · rw [T.get_e] at hv; cases hv

section
variable {W : Wd} {P : Program} {B : Nat} {f0 : FuncId} {cs0 : List Frame} {bB : Nat} {z : H} {r : R} {fr : Frame} {cs : List Fr} {frs : List Frame} {w : World} {ε : Env} {h : H} {nx : Nat}
theorem bodyOf_some {n : FuncId} {c : Code} (h : bodyOf W n = some c) : ∃ fn, W.fun n = some fn ∧ fn.body = some c := by
  unfold bodyOf at h
  cases hf : W.fun n with
  | none => rw [hf] at h; cases h
  | some fn => rw [hf] at h; exact ⟨fn, rfl, h⟩
theorem enter_post (G : Good W P) {n : FuncId} {as : List V} {kd : Kd} {args : List Value} (ha : concL ε as = some args) (hw : WR W B z ε h nx w) (hst : StackR W f0 cs0 bB ε h nx ⟨n, [], kd, none⟩ cs frs) :
    Post W P B f0 cs0 bB z (enter W n as kd cs h nx) (Frame.enter P n args.toArray (kdOf kd)) frs w ε h nx := by
  unfold enter
  cases hb : bodyOf W n with
  | none => trivial
  | some c =>
    show Post W P B f0 cs0 bB z (bc _ _ _) _ _ _ _ _ _
    cases hl : Nat.ble as.length (npOf W n) with
    | false => trivial
    | true =>
      obtain ⟨fn, hf, hbd⟩ := bodyOf_some hb
      have hP := G.fits.funcs n fn hf
      have hok := G.ok n
      unfold okFn at hok
      rw [hf] at hok
      simp only [hbd] at hok
      obtain ⟨hnp, hok⟩ := bc_and hok
      have hnt : ntOf W n = fn.ntmps := by unfold ntOf; rw [hf]
      refine Goes.here (s := ⟨args2 0 as .e, [.code c], ⟨n, [], kd, none⟩, cs, h, nx⟩) ⟨nx, Nat.le_refl _, hw, .items ⟨rfl, rfl, rfl, rfl, ⟨fn, hf⟩, .inl rfl⟩ rfl ?_ ?_ ?_, hst⟩
      · refine ⟨[], ?_, hok, rfl⟩
        simp [Frame.enter, hP, hbd]
      · exact enter_rel ha (by simp [Frame.enter, hP, hnt])
      · intro t v hv
        rw [args2_get] at hv
        split at hv
        · rename_i h1
          refine .inr (.inl ?_)
          have := Nat.le_of_ble_eq_true hl
          show t < npOf W n
          omega
        · rw [T.get_e] at hv; cases hv

/-! going on in a region -/
theorem plK_nil (e : E) (k : List It) : plK [] e k = k := rfl
theorem plK_cons (p : PI) (l : List PI) (e : E) (k : List It) : plK (p :: l) e k = .plan (p :: l) e :: k := rfl
theorem planR_nil (fn : FuncId) (g : Rg) (A : List (Nat × V)) : planR W fn g A [] = [] := rfl
theorem planR_cons (fn : FuncId) (g : Rg) (A : List (Nat × V)) (i : Nat) (rest : List Nat) (v : V) :
    planR W fn g A (i :: rest) = g.pi (ks W fn) (A.map (·.1)) (A.map fun x => g.dst x.1) i :: planR W fn g ((i, v) :: A) rest := rfl
theorem reg_go (G : Good W P) {b0 : Nat} {f : F} {m : Mt} {g : Rg} {L : List Nat} {ops : Array Oper} {draw : Bool} {A : List (Nat × V)} {rest M td : List Nat} {al : Nat → Option Nat} {F0 : F} {tm0 : Array Value} {k' : List It} {t' : List Item}
    (mt : MtR W ε m fr) (mode : fr.mode = .run) (ht : fr.todo = .inRegion ops td :: t') (kr : KR W m.fn ε k' t') (rgn : Rgn W m.fn ops draw g) (ord : Ord g L)
    (reg : RegR W m.fn g L ε h nx b0 True A rest M td al F0 tm0 f fr.tmps) (hw : WR W B z ε h nx w) (hb : b0 ≤ nx) (hst : StackR W f0 cs0 bB ε h b0 m cs frs) :
    Goes W P B f0 cs0 bB z ⟨f, plK (planR W m.fn g A rest) (A.map (·.2)) k', m, cs, h, nx⟩ fr frs w ε h nx := by
  cases rest with
  | cons i rest =>
    refine Goes.here (s := ⟨f, plK (planR W m.fn g A (i :: rest)) (A.map (·.2)) k', m, cs, h, nx⟩) ⟨b0, hb, hw, .reg g L ops draw A (i :: rest) M td al F0 tm0 k' t' ⟨mt, mode, ?_, ht, kr, rgn, ord, reg⟩, hst⟩
    rfl
  | nil =>
    obtain ⟨ε', w', tm', al', h1, h2, h3, h4, h5⟩ := RegR.drain G trivial rgn ord (cs := frs) (k := t') td reg hw (td' := []) (by simp) (reg.all_in rgn ord) mode ht rfl
    obtain ⟨h6, h7⟩ := h2.over rgn ord
    have hs := step_over (P := P) (cs := frs) (w := w') (fr := { fr with tmps := tm', todo := .inRegion ops [] :: t' }) (k := t') mode rfl
    have hbB := hst.base
    refine ⟨ε', _, frs, w', h1.trans (Steps.one hs), ⟨b0, hb, h3, .items ((mt.mono h5.ext).same rfl rfl rfl rfl) mode (kr.mono h5.ext) h6 h7, hst.mono h5⟩, h5.le hbB, h4, Frz.refl _ _, Nat.le_refl _⟩
theorem after_cases (re : List RK) (d : Kp) (l : List PI) (k : List It) (e : E) (f : F) (m : Mt) (cs : List Fr) (h : H) (nx : Nat) (v : V) :
    after re d l k e f m cs h nx v = .bad 40 ∨ (chkRe (v :: e) (putK d v f) h re = true ∧ after re d l k e f m cs h nx v = .go ⟨putK d v f, plK l (v :: e) k, m, cs, h, nx⟩) := by
  cases re with
  | nil => exact .inr ⟨rfl, rfl⟩
  | cons r re =>
    cases hc : chkRe (v :: e) (putK d v f) h (r :: re) with
    | false => exact .inl (by show bc _ _ _ = _; rw [hc]; rfl)
    | true => exact .inr ⟨rfl, by show bc _ _ _ = _; rw [hc]; rfl⟩
/-- behind a loud operation: both have done it -/
theorem after_go (G : Good W P) {b0 : Nat} {f : F} {m : Mt} {g : Rg} {L : List Nat} {ops : Array Oper} {draw : Bool} {A : List (Nat × V)} {i : Nat} {rest M td : List Nat} {al : Nat → Option Nat} {F0 : F} {tm0 : Array Value} {k' : List It} {t' : List Item}
    {o : Oper} {v : V} {re : List RK} (mt : MtR W ε m fr) (mode : fr.mode = .run) (ht : fr.todo = .inRegion ops td :: t') (kr : KR W m.fn ε k' t') (rgn : Rgn W m.fn ops draw g) (ord : Ord g L)
    (reg : RegR W m.fn g L ε h nx b0 False ((i, v) :: A) rest (M ++ [i]) td al F0 tm0 (putK (cKeep (ks W m.fn) o.dst) v f) fr.tmps) (loud : g.loud i = true) (ho : g.ops[i]? = some o)
    (hre : re = mapL (g.rk (o.dst :: A.map fun x => g.dst x.1) (i :: A.map (·.1))) (g.again (A.map (·.1)) i)) (hw : WR W B z ε h nx w) (hb : b0 ≤ nx) (hst : StackR W f0 cs0 bB ε h b0 m cs frs) :
    Post W P B f0 cs0 bB z (after re (cKeep (ks W m.fn) o.dst) (planR W m.fn g ((i, v) :: A) rest) k' (A.map (·.2)) f m cs h nx v) fr frs w ε h nx := by
  rcases after_cases re (cKeep (ks W m.fn) o.dst) (planR W m.fn g ((i, v) :: A) rest) k' (A.map (·.2)) f m cs h nx v with h1 | ⟨h1, h2⟩
  · rw [h1]; trivial
  · rw [h2]
    rw [hre] at h1
    exact reg_go G mt mode ht kr rgn ord (reg.wake rgn ord loud ho h1) hw hb hst

/-! going on behind a call -/
theorem comp_pi (fn : FuncId) {g : Rg} {A : List (Nat × V)} {i : Nat} {o : Oper} (ho : g.ops[i]? = some o) :
    g.pi (ks W fn) (A.map (·.1)) (A.map fun x => g.dst x.1) i = .mk (cGuard g.ops (A.map fun x => g.dst x.1) o) (cKeep (ks W fn) o.dst) (cOp g.P (cOpd (A.map fun x => g.dst x.1)) o.op)
      (mapL (g.rk (o.dst :: A.map fun x => g.dst x.1) (i :: A.map (·.1))) (g.again (A.map (·.1)) i)) := by
  unfold Rg.pi
  rw [getL_eq, ho]
theorem finish_post (G : Good W P) {c : Fr} {v : V} {x : Value} {b b' : Nat} (hv : conc ε v = some x) (hw : WR W B z ε h nx w) (hb : b ≤ nx) (hb' : b' ≤ b) (hs : SuspR W ε h b b' c.f c.k c.m fr)
    (hst : StackR W f0 cs0 bB ε h b' c.m cs frs) : Post W P B f0 cs0 bB z (finish c v cs h nx) (fr.finish x) frs w ε h nx := by
  obtain ⟨f, k, m⟩ := c
  cases hs with
  | back mt mode hk rel dom => simp only at hk; subst hk; trivial
  | loop b2 y k' t' mt mode hk hy ht kr rel dom =>
    simp only at hk; subst hk
    have hfin : fr.finish x = { fr with todo := .endRangeFunc y.cb :: t' } := by
      obtain ⟨fn, tm, todo, dfs, mode, kind, rnd⟩ := fr
      simp only at ht; subst ht
      simp [Frame.finish]
    rw [hfin]
    exact Goes.here (s := ⟨f, .endRF b2 :: k', m, cs, h, nx⟩) ⟨b', Nat.le_trans hb' hb, hw, .items (mt.same rfl rfl rfl rfl) mode ⟨t', y, rfl, hy, kr⟩ rel dom, hst⟩
  | call g L ops draw A i rest M td al F0 tm0 k' t' r loud =>
    obtain ⟨mt, mode, hk, ht, kr, rgn, ord, reg⟩ := r
    simp only at hk mt kr rgn reg hst
    subst hk
    obtain ⟨hlt, hni⟩ := reg.next_not rgn
    have ho : ∃ o, g.ops[i]? = some o := by
      rw [rgn.en, ← rgn.eo] at hlt
      exact ⟨_, List.getElem?_eq_getElem hlt⟩
    obtain ⟨o, ho⟩ := ho
    have hops : ops[i]? = some o := by rw [rgn.eo] at ho; simpa using ho
    rw [planR_cons (W := W) m.fn g A i rest v, comp_pi m.fn ho]
    have hreg := (reg.nx_le hb).exec rgn ho (EvB.refl _ _ _) hv (Nat.le_refl nx)
    rw [finish_at ht hops]
    exact after_go G (mt.same rfl rfl rfl rfl) mode rfl kr rgn ord hreg loud ho rfl hw (Nat.le_trans hb' hb) hst
end
end Go.AM
end
end
