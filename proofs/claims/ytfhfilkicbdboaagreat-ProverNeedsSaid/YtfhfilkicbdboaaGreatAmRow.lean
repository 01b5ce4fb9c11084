/- ProverNeeds: for every number and every description of a polynomial the statement's function returns true. There are no conditions. -/
import Derived.Test.YtfhfilkicbdboaaGreatAm49
import Derived.Test.YtfhfilkicbdboaaGreatAmClosed
import Derived.Test.YtfhfilkicbdboaaGreatRows
import Derived.ProofKit
import Derived.Carry
section
namespace Go.Proofs.YtfhfilkicbdboaaGreat.proverNeeds
open Go.ChangeShapes Go.WideShapes Go.ChangeAt Go.RowKit Go.Deep

theorem own : ownKnob Tryz.prog.godebug = none := by kernel_rfl
theorem laidOut : laidOutB Tryz.prog = true := by kernel_rfl
theorem readable : Tryz.prog.readableRec 24 = true := by kernel_rfl
theorem rowed : 24 < Tryz.prog.types.size := of_decide_eq_true (by kernel_rfl)

section
variable {H : Type} {enc : TypeId × Value → H} {P : Program}
/-- the answer behind a call that leaves all that was there as it was -/
theorem post_of_kept {f : Func} {s : ChangeSpec} {apart fresh handsOn again : Bool} {W W' : World} {args : Array Value} {v : Value} {ds gs : List (DataW H)} {before pa pv : List MemPlace}
    (hW : DataW.Whole enc P f.params.toList s.vars apart W args.toList ds gs before)
    (hres : ∀ (b : Nat) (sp : Nat → Bool) (hd : Bool), DataW.TrodAll enc P W' b sp hd f.resultTypes.toList (v.resultList f.resultTypes.size) (s.fn H (ds ++ gs)).results [])
    (hargs : ∀ sp : Nat → Bool, (∀ p ∈ before, sp p.block = true) → DataW.TrodAll enc P W' 0 sp true f.params.toList args.toList (s.fn H (ds ++ gs)).args pa)
    (hvars : ∀ sp : Nat → Bool, (∀ p ∈ before, sp p.block = true) → DataW.TrodVars enc P W' sp s.vars (s.fn H (ds ++ gs)).vars pv)
    (hps : before = pa ++ pv) (hb : Below W.heap.size W W')
    (hok : ∀ (j : Nat) (t : TypeId) (r : Value), f.resultTypes[j]? = some t → (v.resultList f.resultTypes.size)[j]? = some r → Value.okWide P W' .any 0 t r) :
    s.post enc P f apart fresh handsOn again W args v W' := by
  have hlt : ∀ p ∈ before, p.block < W.heap.size := fun p hp => hW.lt p hp
  have hold : ∀ p ∈ before, (fun b => decide (b < W.heap.size)) p.block = true := fun p hp => by simpa using hlt p hp
  refine ⟨ds, gs, before, [], pa, pv, hW, hres _ _ _, hargs _ hold, hvars _ hold, World.keptBut_mono (fun p hp => ⟨hp, ?_⟩) (hb.frame (· ∈ before)), fun _ => ?_⟩
  · rw [hps, List.mem_append] at hp
    exact Or.inr hp
  · obtain ⟨_, _, _, _, _, hz, hn⟩ := hW
    refine ⟨hok, _, _, ([] ++ pa) ++ pv, ⟨[] ++ pa, pv, trodAll_append (hargs _ (fun _ _ => rfl)) (hres _ _ _), hvars _ (fun _ _ => rfl), rfl, ?_, ?_⟩, ?_⟩
    · intro b off hp
      have hin : MemPlace.cell b off ∈ before := by rw [hps]; simpa using hp
      rw [hb.frozen (hlt _ hin)]
      exact hz b off hin
    · intro ha
      have := hn ha
      rw [hps] at this
      simpa using this
    · intro p hp _
      rw [hps]
      simpa using hp
end

/-- a start that fits -/
def I0 : Input := ⟨#[], #[.int .i64 0, .agg #[.slice none 0 0]], []⟩
theorem start_v (os : Os) : (World.plainHolding Tryz.prog os I0).variablesB Tryz.prog = true := by kernel_rfl
theorem start_r (os : Os) : ((World.plainHolding Tryz.prog os I0).heap.toList.drop Tryz.prog.globals.size).take ((begin Tryz.prog (fun _ _ => 0) default).world.heap.size - Tryz.prog.globals.size) =
    (begin Tryz.prog (fun _ _ => 0) default).world.heap.toList.drop Tryz.prog.globals.size := by kernel_rfl
theorem start_ok (os : Os) : Input.okWideB Tryz.prog (World.plainHolding Tryz.prog os I0) 3 ⟨#[], I0.args, []⟩ = true := by kernel_rfl
theorem start_pre (os : Os) (H : Type) (enc : TypeId × Value → H) : Rows.proverNeedsSpec.preB enc Tryz.prog Tryz.f3 Rows.proverNeedsRow.domain false (World.plainHolding Tryz.prog os I0).memory I0.args 8 = true := by kernel_rfl
theorem start_sz (os : Os) (H : Type) (enc : TypeId × Value → H) : Rows.proverNeedsSpec.sizedB enc Tryz.prog Tryz.f3 false (World.plainHolding Tryz.prog os I0).memory I0.args 8 = true := by kernel_rfl
theorem noInit : Tryz.prog.inits.idxOf? 3 = none := by kernel_rfl
theorem hone : ∀ f0, Tryz.prog.underlying 24 = some (.struct #[f0]) → oneCellFields Tryz.prog #[f0] = true ∧ f0.type = 22 := by
  intro f0 h
  rw [Tryz.underlying24] at h
  cases h
  exact ⟨by kernel_rfl, rfl⟩
theorem cells24 : Tryz.prog.cellsOf 24 = 1 := by kernel_rfl
theorem types24 : Tryz.prog.cellTypes Tryz.prog.depth 24 = some [22] := by kernel_rfl
theorem cells74 : Tryz.prog.cellsOf 74 = 5 := by kernel_rfl
theorem cells73 : Tryz.prog.cellsOf 73 = 1 := by kernel_rfl
theorem results3 : Tryz.f3.resultTypes = #[4] := by kernel_rfl
/-- the call comes to `true`, and all that was there is as it was -/
theorem walk {W : World} {Y : Value} {len : Nat} (hr : Go.AM.RowsAt W Y len) (a : Int) :
    Calls Tryz.prog 3 #[.int .i64 a, .agg #[Y]] W fun e W' => e = .returned (.bool true) ∧ Below W.heap.size W W' := by
  intro cs
  obtain ⟨fr', w', h1, h2, h3, h4⟩ := Go.AM.need_con hr a cs
  exact ⟨.returned (.bool true), w', fr', ⟨rfl, h4⟩, h1, h2, h3⟩

set_option maxRecDepth 100000 in
/-- what the walk gives, for every argument -/
theorem contract (H : Type) (enc : TypeId × Value → H) (W : World) (base : Nat) (args : Array Value) (ds gs : List (DataW H)) (before : List MemPlace)
    (hval : ∀ (j : Nat) t v, Tryz.f3.params[j]? = some t → args[j]? = some v → Value.okWide Tryz.prog W .any base t v)
    (hW : DataW.Whole enc Tryz.prog Tryz.f3.params.toList Rows.proverNeedsSpec.vars false W args.toList ds gs before) :
    Calls Tryz.prog 3 args W fun e W' => ∃ v, e = .returned v ∧ Rows.proverNeedsSpec.post enc Tryz.prog Tryz.f3 false true false false W args v W' := by
  have hW' := hW
  obtain ⟨p, q, hA0, hV, rfl, hfz, hnd⟩ := hW
  have hA : DataW.TrodAll enc Tryz.prog W 0 (fun _ => true) true Tryz.f3.params.toList args.toList ds p := hA0
  rw [Tryz.params3] at hA hval
  obtain ⟨v0, v1, d0, d1, p0, p1, rfl, rfl, rfl, h0, h1⟩ := trodAll_two hA
  obtain ⟨rfl, rfl⟩ := trodVars_none hV
  obtain ⟨a, rfl, rfl, rfl, wa⟩ := open_int Tryz.underlying3 (hval 0 3 v0 rfl rfl) h0
  have h1k := h1
  obtain ⟨ho, ht⟩ := hone _ Tryz.underlying24
  obtain ⟨Y, n, x, rfl, hok, ht⟩ := Go.AM.raw_open (s := 22) Tryz.underlying24 ht ho cells24 types24 (hval 1 24 v1 rfl rfl) h1
  obtain ⟨len, hrow⟩ := Go.AM.rows_slice (e := 74) (k := 73) Tryz.underlying22 Tryz.underlying74 Tryz.underlying73 cells74 cells73 hok ht
  clear hA0
  simp only [List.append_nil] at hW'
  have hlt : ∀ y ∈ p1, y.block < W.heap.size := fun y hy => hW'.lt y (by simpa using hy)
  refine (walk hrow a).mono fun e W' ⟨he, hb⟩ => ?_
  subst he
  exact ⟨_, rfl, post_of_kept (pa := [] ++ p1) (pv := []) hW' (fun _ _ _ => trodAll_mk1 (shut_bool Tryz.underlying4 _))
    (fun sp hsp => trodAll_mk2 (shut_int Tryz.underlying3 wa) (WideElems.Trod_stays laidOut readable rowed h1k (fun y hy => hb.same (hlt y hy)) (fun y hy => hsp y (by simpa using hy))))
    (fun _ _ => rfl) (by simp) hb (ok_one results3 rfl (okWide_bool_mk Tryz.underlying4 _))⟩

set_option maxRecDepth 100000 in
theorem lifted (os : Os) (started : os.Started) (H : Type) (enc : TypeId × Value → H) :
    ReturnsInHanded {} Tryz.checked os 3 .any (Rows.proverNeedsSpec.pre6 enc Tryz.prog Tryz.f3 Rows.proverNeedsRow.domain false) (Rows.proverNeedsSpec.post enc Tryz.prog Tryz.f3 false true false false) :=
  returnsInHanded_of_change (C := Tryz.checked) own started noInit Tryz.func3
    (ChangeSpec.witness6 (enc := enc) (C := Tryz.checked) false I0 8 (start_v os) (start_r os) (start_ok os) (start_pre os H enc) (start_sz os H enc))
    fun W base args ds gs before hval hW _ _ => contract H enc W base args ds gs before hval hW

theorem named3 : Tryz.prog.funcNamed Rows.proverNeedsRow.func = some 3 := by kernel_rfl
theorem plain3 : Tryz.f3.isInstance Tryz.prog Rows.proverNeedsRow.origin Rows.proverNeedsRow.targs := of_decide_eq_true (by kernel_rfl)
theorem whole3 : Tryz.f3.isWrapper Tryz.prog Rows.proverNeedsRow.wrapper Rows.proverNeedsRow.mainSum := by
  unfold Func.isWrapper
  first | (rw [if_pos (by decide +kernel)]; kernel_rfl) | (rw [if_neg (by decide +kernel)]; exact ⟨rfl, rfl⟩)
theorem over : Rows.proverNeedsRow.holds Tryz.pinned (OpenSpec.ofChange Rows.proverNeedsSpec) :=
  OpenClaim.holds_of_wide 3 Tryz.f3 rfl rfl rfl rfl rfl rfl rfl ⟨rfl, rfl, rfl, rfl, rfl⟩ rfl rfl rfl rfl rfl named3 Tryz.func3 Go.AM.closed plain3 whole3
    (fun os started H enc _ => lifted os started H enc)

theorem proved : Rows.ProverNeedsSaid :=
  over
end Go.Proofs.YtfhfilkicbdboaaGreat.proverNeeds
end
