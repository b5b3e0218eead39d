import Derived.Test.YtdiimonfmdbclaaTyA
/-
  The program's types, opened: elements.
-/
namespace Go.Proofs.Ytdiimonfmdbclaa
open Go.Eng
set_option linter.unusedVariables false
set_option linter.unusedSimpArgs false
set_option linter.unnecessarySimpa false
set_option maxRecDepth 100000

section
variable {w : World}

theorem szElem : Try.prog.cellsOf 51 = 12 := by kernel_rfl

theorem rdElem (n : Nat) (cs : List Value) (h : Reads Try.prog w n 51 cs) : ∃ s : Elem, RepC (Zall w) s.pv cs ∧ True := by
  obtain ⟨m, rfl, hl, hf⟩ := h.struct Try.underlying51
  rw [szElem] at hl
  obtain ⟨a, e0, _⟩ := rdSym _ _ (fldR hf 0 0 szSym rfl rfl rfl)
  obtain ⟨b, e1, _⟩ := rdSym _ _ (fldR hf 1 3 szSym rfl rfl rfl)
  obtain ⟨c, e2, _⟩ := rdSym _ _ (fldR hf 2 6 szSym rfl rfl rfl)
  obtain ⟨i3, e3⟩ := (fldR hf 3 9 szBool rfl rfl rfl).pbool Try.underlying4
  obtain ⟨i4, e4⟩ := (fldR hf 4 10 szBool rfl rfl rfl).pbool Try.underlying4
  obtain ⟨i5, e5, _⟩ := (fldR hf 5 11 szInt rfl rfl rfl).pint Try.underlying3
  match cs, hl with
  | [x0, x1, x2, x3, x4, x5, x6, x7, x8, x9, x10, x11], _ => exact ⟨⟨a, b, c, _, _, _⟩, ((((e0.append e1).append e2).append e3).append e4).append e5, trivial⟩

end
end Go.Proofs.Ytdiimonfmdbclaa
