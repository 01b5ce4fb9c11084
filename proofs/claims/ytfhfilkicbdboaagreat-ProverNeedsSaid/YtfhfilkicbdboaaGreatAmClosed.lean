/- The row's closed facts, joined. -/
import Derived.Test.YtfhfilkicbdboaaGreatAmFacts
section
namespace Go.AM
open Go.Proofs Go.Proofs.YtfhfilkicbdboaaGreat
theorem cl_a : (Rows.proverNeedsRow.wf (OpenSpec.ofChange Rows.proverNeedsSpec) && laidOutB Tryz.prog && mapsRowed Tryz.prog && Tryz.f3.params.all (Tryz.prog.readableRec ·) && namedTie Tryz.prog Rows.proverNeedsRow.named Rows.proverNeedsSpec.vars &&
    (Rows.proverNeedsRow.stops == []) && (Tryz.prog.stops == []) && (Rows.proverNeedsRow.knobs == []) && (Tryz.prog.stopKnobs == [])) = true := by kernel_rfl
theorem cl_f : ((Rows.proverNeedsRow.maps == (Tryz.f3.params.toList ++ Rows.proverNeedsSpec.plain.varTypes Tryz.prog).any (Tryz.prog.mapsRec ·)) && (Rows.proverNeedsRow.ifaces == (Tryz.f3.params.toList ++ Rows.proverNeedsSpec.plain.varTypes Tryz.prog).any (Tryz.prog.ifacesRec ·)) && (Rows.proverNeedsRow.mapsOut == Tryz.prog.mapsAmong Tryz.f3.resultTypes.toList) &&
    (Rows.proverNeedsRow.loops == (Tryz.f3.params.toList ++ Rows.proverNeedsSpec.plain.varTypes Tryz.prog).any (Tryz.prog.loopsFrom ·)) && (Rows.proverNeedsRow.wideKeys == (Tryz.f3.params.toList ++ Rows.proverNeedsSpec.plain.varTypes Tryz.prog ++ Tryz.f3.resultTypes.toList).any (Tryz.prog.wideKeysFrom ·)) &&
    Rows.proverNeedsSpec.vars.all (Tryz.prog.varReadable ·) && Tryz.f3.resultTypes.all (fun t => Tryz.prog.readableRec t && decide (t < Tryz.prog.types.size)) && (Rows.proverNeedsRow.ifacesOut == Tryz.f3.resultTypes.toList.any (Tryz.prog.ifacesRec ·)) && (Rows.proverNeedsRow.loopsOut == Tryz.f3.resultTypes.toList.any (Tryz.prog.loopsFrom ·))) = true := by kernel_rfl
theorem cl_g : ((Rows.proverNeedsRow.plainKeys == Tryz.prog.plainKeys) && Rows.proverNeedsRow.shortTexts.isNone) = true := by kernel_rfl
theorem cl_h : (Tryz.prog.stopsHeard && Tryz.prog.mayEnter) = true := by kernel_rfl
theorem cl_i : ((Rows.proverNeedsRow.lifted == Tryz.prog.liftsFinal) && (Tryz.prog.make == some Rows.proverNeedsRow.make) && (Rows.proverNeedsRow.pinned == Rows.proverNeedsRow.pinnedBy)) = true := by kernel_rfl
theorem cl_k : ((Rows.proverNeedsRow.veiled == (Tryz.f3.params.toList ++ Rows.proverNeedsSpec.plain.varTypes Tryz.prog ++ Tryz.f3.resultTypes.toList).any (Tryz.prog.veiledRec ·)) &&
    Rows.proverNeedsRow.veiledFits Tryz.prog Tryz.f3.params.toList (Tryz.f3.params.toList ++ Rows.proverNeedsSpec.plain.varTypes Tryz.prog ++ Tryz.f3.resultTypes.toList)) = true := by kernel_rfl
theorem closed : joinedFacts Tryz.prog 3 Tryz.f3 Rows.proverNeedsSpec Rows.proverNeedsRow = true := by
  have b : (Rows.proverNeedsRow.inPlace == Tryz.prog.inPlace 3) = true := by rw [inPlace3]; rfl
  have c : (Rows.proverNeedsRow.unfollowed == Tryz.prog.unfollowed 3) = true := by rw [unfollowed3]; rfl
  have d : (Rows.proverNeedsRow.recurses == Tryz.prog.recurses 3) = true := by rw [recurses3]; rfl
  have e : (Rows.proverNeedsRow.named == Tryz.prog.varsNamed 3) = true := by rw [varsNamed3]; kernel_rfl
  have ha := cl_a
  have hf := cl_f
  have hg := cl_g
  have hh := cl_h
  have hi := cl_i
  have hk := cl_k
  simp only [Bool.and_eq_true] at ha hf hg hh hi hk
  obtain ⟨⟨⟨⟨⟨⟨⟨⟨a1, a2⟩, a3⟩, a4⟩, a5⟩, a6⟩, a7⟩, a8⟩, a9⟩ := ha
  obtain ⟨⟨⟨⟨⟨⟨⟨⟨f1, f2⟩, f3⟩, f4⟩, f5⟩, f6⟩, f7⟩, f8⟩, f9⟩ := hf
  obtain ⟨g1, g2⟩ := hg
  obtain ⟨h1, h2⟩ := hh
  obtain ⟨⟨i1, i2⟩, i4⟩ := hi
  obtain ⟨k1, k2⟩ := hk
  unfold joinedFacts
  simp only [Bool.and_eq_true]
  refine ⟨⟨⟨⟨⟨⟨⟨⟨⟨⟨⟨⟨⟨⟨⟨⟨⟨⟨⟨⟨⟨⟨⟨⟨⟨⟨⟨⟨⟨⟨⟨a1, a2⟩, a3⟩, a4⟩, a5⟩, a6⟩, a7⟩, a8⟩, a9⟩, b⟩, c⟩, d⟩, e⟩, f1⟩, f2⟩, f3⟩, f4⟩, f5⟩, f6⟩, f7⟩, f8⟩, f9⟩, g1⟩, g2⟩, h1⟩, h2⟩, i1⟩, i2⟩, ?_⟩, i4⟩, k1⟩, k2⟩
  kernel_rfl
end Go.AM
end
