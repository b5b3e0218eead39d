import Derived.Test.YtfjemjnbemdkgaaCh6W
/-
  The laws of chapter 6: forms.
-/
namespace Go.Proofs.Ytfjemjnbemdkgaa
open Go.Eng Go.RowKit
set_option linter.unusedVariables false
set_option linter.unusedSimpArgs false
set_option linter.unnecessarySimpa false

theorem cShapeForms (p : Prod) : Pure Try.prog 3 [.agg p.pv] (pB true) := by
  refine PureK.of (G_ponderlaw06_ShapeForms.c ?_)
  refine (cHeavy .sh .sh p).call ?_
  rintro _ ⟨q, rfl, hq⟩
  refine ⟨_, rfl, CIf.mk (fun h => cWakes.call ⟨_, rfl, rfl⟩) (fun h => ?_)⟩
  obtain ⟨hl, hs, ha, hn⟩ := hq h
  refine (cShape .sh .sh p hl (by omega) (by omega)).call ⟨_, _, rfl, (cRefShape .sh .sh p hl (by omega) (by omega)).call ⟨_, _, rfl, CIf.t (by simp) (CIf.t (by simp) (cWakes.call ⟨_, rfl, rfl⟩))⟩⟩

end Go.Proofs.Ytfjemjnbemdkgaa
