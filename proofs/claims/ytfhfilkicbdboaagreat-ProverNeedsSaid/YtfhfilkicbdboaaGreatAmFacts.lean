/- The row's closed facts, by parts: what the statement's function reaches. -/
import Derived.Test.YtfhfilkicbdboaaGreatAmGood
import Derived.Test.YtfhfilkicbdboaaGreatRows
import Derived.JoinedOf
import Derived.KernelRfl
section
namespace Go.AM
open Go.Proofs

section
variable {P : Program}
theorem via_nil (m : Nat) (seen : List FuncId) : P.closureVia m [] seen = seen.reverse := by
  cases m <;> simp [Program.closureVia]
theorem via_cons (m : Nat) (f : FuncId) (todo seen : List FuncId) :
    P.closureVia (m + 1) (f :: todo) seen = if seen.contains f then P.closureVia m todo seen else P.closureVia m ((P.funcs[f]?).elim [] P.leadsTo ++ todo) (f :: seen) := by
  rw [Program.closureVia]
/-- what is closed under leading holds of all that is reached -/
theorem via_all {S : FuncId → Prop} (hs : ∀ g, S g → ∀ h ∈ (P.funcs[g]?).elim [] P.leadsTo, S h) :
    ∀ (n : Nat) (todo seen : List FuncId), (∀ x ∈ todo, S x) → (∀ x ∈ seen, S x) → ∀ x ∈ P.closureVia n todo seen, S x
  | 0, todo, seen, _, hn, x, hx => hn x (by simpa [Program.closureVia] using hx)
  | n + 1, [], seen, _, hn, x, hx => by
    rw [via_nil] at hx
    exact hn x (by simpa using hx)
  | n + 1, f :: todo, seen, ht, hn, x, hx => by
    rw [via_cons] at hx
    split at hx
    · exact via_all hs n todo seen (fun y hy => ht y (List.mem_cons_of_mem _ hy)) hn x hx
    · refine via_all hs n _ _ (fun y hy => ?_) (fun y hy => ?_) x hx
      · rcases List.mem_append.1 hy with hy | hy
        · exact hs f (ht f List.mem_cons_self) y hy
        · exact ht y (List.mem_cons_of_mem _ hy)
      · rcases List.mem_cons.1 hy with rfl | hy
        · exact ht _ List.mem_cons_self
        · exact hn y hy
/-- the search's first steps -/
def preVia (P : Program) : Nat → List FuncId → List FuncId → List FuncId × List FuncId
  | 0, todo, seen => (todo, seen)
  | _ + 1, [], seen => ([], seen)
  | k + 1, f :: todo, seen => if seen.contains f then preVia P k todo seen else preVia P k ((P.funcs[f]?).elim [] P.leadsTo ++ todo) (f :: seen)
theorem via_pre (m : Nat) : ∀ (k : Nat) (todo seen : List FuncId), P.closureVia (k + m) todo seen = P.closureVia m (preVia P k todo seen).1 (preVia P k todo seen).2
  | 0, todo, seen => by rw [Nat.zero_add]; rfl
  | k + 1, [], seen => by rw [via_nil, preVia, via_nil]
  | k + 1, f :: todo, seen => by
    rw [show k + 1 + m = (k + m) + 1 by omega, via_cons, preVia]
    split
    · exact via_pre m k _ _
    · exact via_pre m k _ _
theorem via_seen : ∀ (n : Nat) (todo seen : List FuncId) (x : FuncId), x ∈ seen → x ∈ P.closureVia n todo seen
  | 0, todo, seen, x, hx => by simpa [Program.closureVia] using hx
  | n + 1, [], seen, x, hx => by rw [via_nil]; simpa using hx
  | n + 1, f :: todo, seen, x, hx => by
    rw [via_cons]
    split
    · exact via_seen n _ _ x hx
    · exact via_seen n _ _ x (List.mem_cons_of_mem _ hx)
theorem len_le_sum {α : Type} (a : α → Nat) : ∀ l : List α, l.length ≤ (l.map fun g => a g + 1).sum
  | [] => Nat.le_refl _
  | x :: l => by
    have := len_le_sum a l
    simp only [List.length_cons, List.map_cons, List.sum_cons]
    omega
theorem mem_closure {f g : FuncId} (k : Nat) (hl : k ≤ P.funcs.toList.length) (h : (preVia P k [f] []).2.contains g = true) : g ∈ P.closure f := by
  have h1 := len_le_sum (fun x => (P.leadsTo x).length) P.funcs.toList
  obtain ⟨m, hm⟩ := Nat.le.dest (Nat.le_trans (Nat.le_trans hl h1) (Nat.le_add_left _ 1))
  unfold Program.closure
  rw [← hm, via_pre]
  exact via_seen _ _ _ _ (by simpa using h)
theorem all_erase {α : Type} [BEq α] [LawfulBEq α] {a : α} {l : List α} (h : ∀ x ∈ l, x = a) (hm : a ∈ l) : l.eraseDups = [a] := by
  cases l with
  | nil => cases hm
  | cons b l =>
    have hb := h b List.mem_cons_self
    subst hb
    rw [List.eraseDups_cons]
    have : l.filter (fun x => !(x == b)) = [] := by
      rw [List.filter_eq_nil_iff]
      intro x hx
      rw [h x (List.mem_cons_of_mem _ hx)]
      simp
    rw [this]
    rfl
end

/-- the functions 3 to 636 -/
noncomputable def mid : List Func := (Tryz.prog.funcs.toList.drop 3).take 634
theorem mid_at {g : Nat} {fn : Func} (h3 : 3 ≤ g) (h6 : g < 637) (hf : Tryz.prog.funcs[g]? = some fn) : fn ∈ mid := by
  refine List.mem_of_getElem? (i := g - 3) ?_
  unfold mid
  rw [List.getElem?_take_of_lt (by omega), List.getElem?_drop, show 3 + (g - 3) = g by omega]
  simpa using hf
theorem mid_own : (mid.all fun fn => !fn.ours && fn.body.isSome) = true := by kernel_rfl
theorem mid_leads : (mid.all fun fn => (Tryz.prog.leadsTo fn).all fun h => Nat.ble 3 h && Nat.blt h 637) = true := by kernel_rfl
theorem mid_vars : (mid.all fun fn => (fn.body.elim [] Code.globalsNamed).all fun h => Nat.beq h 0) = true := by kernel_rfl
theorem closure_mid : ∀ g : Nat, g ∈ Tryz.prog.closure 3 → 3 ≤ g ∧ g < 637 := by
  refine via_all (S := fun g : Nat => 3 ≤ g ∧ g < 637) (fun g hg h hh => ?_) _ _ _ (fun x hx => ?_) (fun x hx => by cases hx)
  · cases hf : Tryz.prog.funcs[g]? with
    | none => rw [hf] at hh; cases hh
    | some fn =>
      rw [hf] at hh
      have h1 := List.all_eq_true.1 (List.all_eq_true.1 mid_leads fn (mid_at hg.1 hg.2 hf)) h hh
      rw [Bool.and_eq_true] at h1
      exact ⟨Nat.le_of_ble_eq_true h1.1, Nat.le_of_ble_eq_true h1.2⟩
  · rcases List.mem_cons.1 hx with rfl | hx
    · exact ⟨Nat.le_refl _, Nat.lt_of_sub_pos (by decide)⟩
    · cases hx
theorem mid_fn {g : Nat} (hg : g ∈ Tryz.prog.closure 3) {fn : Func} (hf : Tryz.prog.funcs[g]? = some fn) : fn.ours = false ∧ fn.body.isSome = true ∧ (fn.name == "runtime.NumGoroutine") = false ∧ ∀ h ∈ fn.body.elim [] Code.globalsNamed, h = 0 := by
  obtain ⟨h3, h6⟩ := closure_mid g hg
  have hm := mid_at h3 h6 hf
  have h1 := List.all_eq_true.1 mid_own fn hm
  rw [Bool.and_eq_true] at h1
  exact ⟨by simpa using h1.1, h1.2, names_of names0 hf, fun h hh => Nat.eq_of_beq_eq_true (List.all_eq_true.1 (List.all_eq_true.1 mid_vars fn hm) h hh)⟩
theorem inPlace3 : Tryz.prog.inPlace 3 = [] := by
  unfold Program.inPlace
  rw [List.filterMap_eq_nil_iff]
  intro g hg
  cases hf : Tryz.prog.funcs[g]? with
  | none => rfl
  | some fn =>
    obtain ⟨h1, h2, h3, _⟩ := mid_fn hg hf
    simp only [Option.bind_some, h1, h3, Option.isNone_eq_false_iff.2 h2, Bool.or_false, Bool.false_eq_true, if_false]
theorem funcs_many : 250 ≤ Tryz.prog.funcs.toList.length := Nat.le_of_ble_eq_true (by kernel_rfl)
theorem pre_has : ((preVia Tryz.prog 250 [3] []).2.contains 549 && (preVia Tryz.prog 250 [3] []).2.contains 39) = true := by kernel_rfl
theorem in549 : 549 ∈ Tryz.prog.closure 3 := mem_closure 250 funcs_many (Bool.and_eq_true_iff.1 pre_has).1
theorem in39 : 39 ∈ Tryz.prog.closure 3 := mem_closure 250 funcs_many (Bool.and_eq_true_iff.1 pre_has).2
theorem unf39 : ((Tryz.prog.funcs[39]?).any fun fn => match fn.body with | some c => c.unfollowed | none => entryCalls fn) = true := by kernel_rfl
theorem unfollowed3 : Tryz.prog.unfollowed 3 = true := by
  unfold Program.unfollowed
  exact List.any_eq_true.2 ⟨39, in39, unf39⟩
theorem recurses3 : Tryz.prog.recurses 3 = true := by
  unfold Program.recurses
  rw [unfollowed3, Bool.true_or]
theorem glob549 : (((Tryz.prog.funcs[549]?).bind (·.body)).elim [] Code.globalsNamed).contains 0 = true := by kernel_rfl
theorem globs3 : ((Tryz.prog.closure 3).flatMap fun g => ((Tryz.prog.funcs[g]?).bind (·.body)).elim [] Code.globalsNamed).eraseDups = [0] := by
  refine all_erase (fun x hx => ?_) (List.mem_flatMap.2 ⟨549, in549, by simpa using glob549⟩)
  obtain ⟨g, hg, hx⟩ := List.mem_flatMap.1 hx
  cases hf : Tryz.prog.funcs[g]? with
  | none => rw [hf] at hx; cases hx
  | some fn =>
    rw [hf] at hx
    exact (mid_fn hg hf).2.2.2 x hx
theorem reads3 : (Tryz.prog.closure 3).filterMap (fun g => (Tryz.prog.funcs[g]?).bind fun fn => if fn.body.isNone then entryReads.lookup fn.name else none) = [] := by
  rw [List.filterMap_eq_nil_iff]
  intro g hg
  cases hf : Tryz.prog.funcs[g]? with
  | none => rfl
  | some fn =>
    obtain ⟨_, h2, _, _⟩ := mid_fn hg hf
    simp only [Option.bind_some, Option.isNone_eq_false_iff.2 h2, Bool.false_eq_true, if_false]
theorem varsNamed3 : Tryz.prog.varsNamed 3 = ["math/bits.overflowError"] := by
  unfold Program.varsNamed
  rw [globs3, reads3]
  kernel_rfl
end Go.AM
end
