import Derived.Test.YtfjemjnbemdkgaaCh6M
import Derived.Test.YtfjemjnbemdkgaaCh6N
/-
  The laws of chapter 6: checks.
-/
namespace Go.Proofs.Ytfjemjnbemdkgaa
open Go.Eng Go.RowKit
set_option linter.unusedVariables false

theorem cShapeChecks (p : Prod) : Pure Try.prog 4 [.agg p.pv] (pB true) := by
  refine PureK.of (G_ponderlaw06_ShapeChecks.c ?_)
  refine (cHeavy .sh .sh p).call ?_
  rintro _ ⟨q, rfl, hq⟩
  refine ⟨_, rfl, CIf.mk (fun h => cWakes.call ⟨_, rfl, rfl⟩) (fun h => ?_)⟩
  obtain ⟨hl, hs, ha, hn⟩ := hq h
  refine (cCopyProd .sh .sh p hl (by omega) (by omega)).call ⟨_, _, _, _, _, rfl, ?_⟩
  refine (cCheck .sh .sh p hl (by omega) (by omega)).call ⟨_, _, rfl, (cRCheck .sh .sh p hl (by omega) (by omega)).call ⟨_, _, rfl, CIf.t (by simp) (CIf.t (by simp) ?_)⟩⟩
  exact (cKProd .sh .sh .sh .sh p hl (by omega) (by omega)).call ⟨_, rfl, CIf.t rfl (cWakes.call ⟨_, rfl, rfl⟩)⟩

end Go.Proofs.Ytfjemjnbemdkgaa
