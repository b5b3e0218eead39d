import Derived.Test.YtfjemjnbemdkgaaTyA
/-
  The program's types, opened: atoms, terms, actions, productions.
-/
namespace Go.Proofs.Ytfjemjnbemdkgaa
open Go.Eng
set_option linter.unusedVariables false
set_option linter.unusedSimpArgs false
set_option linter.unnecessarySimpa false
set_option maxRecDepth 100000

section
variable {w : World}

theorem szAtom : Try.prog.cellsOf 41 = 4 := by kernel_rfl
theorem szTerm : Try.prog.cellsOf 43 = 9 := by kernel_rfl
theorem szActn : Try.prog.cellsOf 45 = 19 := by kernel_rfl
theorem szActns : Try.prog.cellsOf 23 = 1 := by kernel_rfl
theorem szProd : Try.prog.cellsOf 25 = 3 := by kernel_rfl

theorem rdAtom (n : Nat) (cs : List Value) (h : Reads Try.prog w n 41 cs) : ∃ s : Atom, RepC (Zall w) s.pv cs ∧ True := by
  obtain ⟨m, rfl, hl, hf⟩ := h.struct Try.underlying41
  rw [szAtom] at hl
  obtain ⟨i0, e0, _⟩ := (fldR hf 0 0 szString rfl rfl rfl).pstr Try.underlying9
  obtain ⟨s, e1, _⟩ := rdSym _ _ (fldR hf 1 1 szSym rfl rfl rfl)
  match cs, hl with
  | [x0, x1, x2, x3], _ => exact ⟨⟨_, s⟩, e0.append e1, trivial⟩

theorem rdTerm (n : Nat) (cs : List Value) (h : Reads Try.prog w n 43 cs) : ∃ s : Term, RepC (Zall w) s.pv cs ∧ True := by
  obtain ⟨m, rfl, hl, hf⟩ := h.struct Try.underlying43
  rw [szTerm] at hl
  obtain ⟨i0, e0, _⟩ := (fldR hf 0 0 szInt rfl rfl rfl).pint Try.underlying3
  obtain ⟨a, e1, _⟩ := rdAtom _ _ (fldR hf 1 1 szAtom rfl rfl rfl)
  obtain ⟨b, e2, _⟩ := rdAtom _ _ (fldR hf 2 5 szAtom rfl rfl rfl)
  match cs, hl with
  | [x0, x1, x2, x3, x4, x5, x6, x7, x8], _ => exact ⟨⟨_, a, b⟩, (e0.append e1).append e2, trivial⟩

theorem rdActn (n : Nat) (cs : List Value) (h : Reads Try.prog w n 45 cs) : ∃ s : Actn, RepC (Zall w) s.pv cs ∧ True := by
  obtain ⟨m, rfl, hl, hf⟩ := h.struct Try.underlying45
  rw [szActn] at hl
  obtain ⟨i0, e0, _⟩ := (fldR hf 0 0 szString rfl rfl rfl).pstr Try.underlying9
  obtain ⟨a, e1, _⟩ := rdAtom _ _ (fldR hf 1 1 szAtom rfl rfl rfl)
  obtain ⟨t, e2, _⟩ := rdTerm _ _ (fldR hf 2 5 szTerm rfl rfl rfl)
  obtain ⟨i3, e3, _⟩ := (fldR hf 3 14 szInt rfl rfl rfl).pint Try.underlying3
  obtain ⟨o, e4, _⟩ := rdAtom _ _ (fldR hf 4 15 szAtom rfl rfl rfl)
  match cs, hl with
  | [x0, x1, x2, x3, x4, x5, x6, x7, x8, x9, x10, x11, x12, x13, x14, x15, x16, x17, x18], _ => exact ⟨⟨_, a, t, _, o⟩, (((e0.append e1).append e2).append e3).append e4, trivial⟩

theorem rdProd (n : Nat) (cs : List Value) (h : Reads Try.prog w n 25 cs) : ∃ p : Eng.Prod, RepC (Zall w) p.pv cs ∧ True := by
  obtain ⟨m, rfl, hl, hf⟩ := h.struct Try.underlying25
  rw [szProd] at hl
  obtain ⟨i0, e0, _⟩ := (fldR hf 0 0 szString rfl rfl rfl).pstr Try.underlying9
  obtain ⟨c, e1, _⟩ := rdConds _ _ (fldR hf 1 1 szConds rfl rfl rfl)
  obtain ⟨a, e2, _⟩ := (fldR hf 2 2 szActns rfl rfl rfl).plist (pv := Actn.pv) (Q := fun _ => True) Try.underlying23 szActn (by omega) fun m' cs' hm hr => rdActn m' cs' hr
  match cs, hl with
  | [x0, x1, x2], _ => exact ⟨⟨_, c, a⟩, (e0.append e1).append e2, trivial⟩

end
end Go.Proofs.Ytfjemjnbemdkgaa
