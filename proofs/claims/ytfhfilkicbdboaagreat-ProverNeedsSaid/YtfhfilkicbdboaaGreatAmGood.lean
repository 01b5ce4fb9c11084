/- The program's tables are the trees; all regions of its functions are in order. -/
import Derived.Test.YtfhfilkicbdboaaGreatAmBase
import Derived.Test.YtfhfilkicbdboaaGreatAm10
section
noncomputable section
namespace Go.AM
open Go.Proofs
/-- the ones of a list, each at its place -/
noncomputable def mkT {α : Type} : Nat → List α → T α → T α
  | _, [], t => t
  | i, x :: xs, t => mkT (i + 1) xs (T.put (pth i) (some x) t)
theorem mkT_get {α : Type} : ∀ (l : List α) (i : Nat) (t : T α) (n : Nat) (v : α), T.get (pth n) (mkT i l t) = some v → (i ≤ n ∧ l[n - i]? = some v) ∨ T.get (pth n) t = some v
  | [], i, t, n, v, h => .inr h
  | x :: xs, i, t, n, v, h => by
    rcases mkT_get xs (i + 1) _ n v h with ⟨h1, h2⟩ | h1
    · refine .inl ⟨by omega, ?_⟩
      have : n - i = (n - (i + 1)) + 1 := by omega
      rw [this, List.getElem?_cons_succ]; exact h2
    · by_cases e : i = n
      · subst e
        rw [T.get_put_same] at h1
        cases h1
        exact .inl ⟨Nat.le_refl _, by simp⟩
      · rw [T.get_put_ne _ _ fun k => e (pth_inj k)] at h1
        exact .inr h1
/-- all that a tree holds, by its numbers -/
noncomputable def allN {α : Type} (t : T α) : (Nat → Bool) → Bool :=
  T.rec (motive := fun _ => (Nat → Bool) → Bool) (fun _ => true)
    (fun v _ _ ihl ihr φ => bc (Option.rec (motive := fun _ => Bool) true (fun _ => φ 0) v) (bc (ihl fun n => φ (2 * n + 1)) (ihr fun n => φ (2 * n + 2)) false) false) t
theorem allN_get {α : Type} : ∀ (t : T α) (φ : Nat → Bool) (p : Pth) (v : α), allN t φ = true → T.get p t = some v → φ (natOf p) = true
  | .e, φ, p, v, _, h => by rw [T.get_e] at h; cases h
  | .n u l r, φ, p, v, ha, h => by
    obtain ⟨h1, h2⟩ := bc_and (show bc _ _ false = true from ha)
    obtain ⟨h3, h4⟩ := bc_and h2
    cases p with
    | z =>
      cases u with
      | none => cases h
      | some x => exact h1
    | l p => exact allN_get l _ p v h3 h
    | r p => exact allN_get r _ p v h4 h
set_option maxRecDepth 100000 in
theorem TT_eq : mkT 0 Tryz.prog.types.toList .e = TT := by kernel_rfl
set_option maxRecDepth 100000 in
theorem FT_eq : T.keep keeps (mkT 0 Tryz.prog.funcs.toList .e) = FT := by kernel_rfl
theorem mixed0 : Tryz.prog.follows .mixedOrders = true := by kernel_rfl
theorem names0 : (Tryz.prog.funcs.toList.all fun f => !(f.name == "runtime.NumGoroutine")) = true := by kernel_rfl
set_option maxRecDepth 100000 in
theorem ok0 : allN FT (okFn W0) = true := by kernel_rfl
theorem mk_arr {α : Type} {a : Array α} {t : T α} (e : mkT 0 a.toList .e = t) {n : Nat} {v : α} (h : T.get (pth n) t = some v) : a[n]? = some v := by
  subst e
  rcases mkT_get _ _ _ _ _ h with ⟨_, h1⟩ | h1
  · rw [Nat.sub_zero, Array.getElem?_toList] at h1; exact h1
  · rw [T.get_e] at h1; cases h1
theorem mk_keep {α β : Type} {a : Array α} {m : T β} {t : T α} (e : T.keep m (mkT 0 a.toList .e) = t) {n : Nat} {v : α} (h : T.get (pth n) t = some v) : a[n]? = some v := by
  subst e
  rw [T.get_keep] at h
  split at h
  · exact mk_arr rfl h
  · cases h
theorem info_eq {P : Program} {t : TypeId} {i : TypeInfo} (h : P.types[t]? = some i) : P.info? t = some i := by
  have := (Array.getElem?_eq_some_iff.1 h).1
  rw [Tables.info?, if_pos this]; exact h
theorem mk_fits {P : Program} {W : Wd} (e1 : mkT 0 P.types.toList .e = W.types) (e2 : T.keep W.keep (mkT 0 P.funcs.toList .e) = W.funcs) : Fits W P := ⟨fun _ _ h => info_eq (mk_arr e1 h), fun _ _ h => mk_keep e2 h⟩
theorem fits0 : Fits W0 Tryz.prog := mk_fits TT_eq FT_eq
theorem depth_of (P : Program) : ∃ d, P.depth = d + 2 := ⟨_, rfl⟩
theorem names_of {a : Array Func} (h : (a.toList.all fun f => !(f.name == "runtime.NumGoroutine")) = true) {n : Nat} {fn : Func} (h1 : a[n]? = some fn) : (fn.name == "runtime.NumGoroutine") = false := by
  have h2 := List.all_eq_true.1 h fn (by
    rw [← Array.getElem?_toList] at h1
    exact List.mem_of_getElem? h1)
  simpa using h2
theorem good0 : Good W0 Tryz.prog := by
  refine ⟨fits0, depth_of _, fun n fn h => ?_, mixed0, fun n => ?_⟩
  · have h1 := fits0.funcs n fn h
    exact names_of names0 h1
  · cases h : W0.fun n with
    | none => unfold okFn; rw [h]
    | some f =>
      have := allN_get FT (okFn W0) (pth n) f ok0 h
      rwa [natOf_pth] at this
end Go.AM
end
end
