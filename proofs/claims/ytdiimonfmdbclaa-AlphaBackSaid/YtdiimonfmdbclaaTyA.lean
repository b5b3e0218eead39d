import Derived.Test.YtdiimonfmdbclaaRows
import Derived.Test.YtdiimonfmdbclaaDom
/-
  The program's types, opened: symbols, bindings, tests, elements, conditions.
-/
namespace Go.Proofs.Ytdiimonfmdbclaa
open Go.Eng
set_option linter.unusedVariables false
set_option linter.unusedSimpArgs false
set_option linter.unnecessarySimpa false
set_option maxRecDepth 100000

theorem progOwn : ownKnob Try.prog.godebug = none := by kernel_rfl
theorem progLaid : laidOutB Try.prog = true := by kernel_rfl

section
variable {w : World}

theorem szInt : Try.prog.cellsOf 3 = 1 := by kernel_rfl
theorem szBool : Try.prog.cellsOf 4 = 1 := by kernel_rfl
theorem szString : Try.prog.cellsOf 9 = 1 := by kernel_rfl
theorem szSym : Try.prog.cellsOf 49 = 3 := by kernel_rfl
theorem szSyms : Try.prog.cellsOf 62 = 1 := by kernel_rfl
theorem szTest : Try.prog.cellsOf 64 = 6 := by kernel_rfl
theorem szTests : Try.prog.cellsOf 22 = 1 := by kernel_rfl
theorem szCond : Try.prog.cellsOf 25 = 7 := by kernel_rfl
theorem szConds : Try.prog.cellsOf 23 = 1 := by kernel_rfl

theorem rdSym (n : Nat) (cs : List Value) (h : Reads Try.prog w n 49 cs) : ∃ s : Sym, RepC (Zall w) s.pv cs ∧ True := by
  obtain ⟨m, rfl, hl, hf⟩ := h.struct Try.underlying49
  rw [szSym] at hl
  obtain ⟨i0, e0, _⟩ := (fldR hf 0 0 szInt rfl rfl rfl).pint Try.underlying3
  obtain ⟨i1, e1, _⟩ := (fldR hf 1 1 szString rfl rfl rfl).pstr Try.underlying9
  obtain ⟨i2, e2, _⟩ := (fldR hf 2 2 szInt rfl rfl rfl).pint Try.underlying3
  match cs, hl with
  | [x0, x1, x2], _ => exact ⟨⟨_, _, _⟩, (e0.append e1).append e2, trivial⟩

theorem rdSyms (n : Nat) (cs : List Value) (h : Reads Try.prog w n 62 cs) : ∃ l : List Sym, RepC (Zall w) [.list 3 .sh (l.map Sym.pv)] cs ∧ (∀ s ∈ l, True) ∧ l.length ≤ maxLen :=
  h.plist Try.underlying62 szSym (by omega) fun m cs _ hr => rdSym m cs hr

theorem rdTest (n : Nat) (cs : List Value) (h : Reads Try.prog w n 64 cs) : ∃ t : Test, RepC (Zall w) t.pv cs ∧ True := by
  obtain ⟨m, rfl, hl, hf⟩ := h.struct Try.underlying64
  rw [szTest] at hl
  obtain ⟨i0, e0, _⟩ := (fldR hf 0 0 szInt rfl rfl rfl).pint Try.underlying3
  obtain ⟨i1, e1, _⟩ := (fldR hf 1 1 szString rfl rfl rfl).pstr Try.underlying9
  obtain ⟨s, e2, _⟩ := rdSym _ _ (fldR hf 2 2 szSym rfl rfl rfl)
  obtain ⟨l, e3, _⟩ := rdSyms _ _ (fldR hf 3 5 szSyms rfl rfl rfl)
  match cs, hl with
  | [x0, x1, x2, x3, x4, x5], _ => exact ⟨⟨_, _, s, l⟩, ((e0.append e1).append e2).append e3, trivial⟩

theorem rdTests (n : Nat) (cs : List Value) (h : Reads Try.prog w n 22 cs) : ∃ l : List Test, RepC (Zall w) [.list 6 .sh (l.map Test.pv)] cs ∧ (∀ s ∈ l, True) ∧ l.length ≤ maxLen :=
  h.plist Try.underlying22 szTest (by omega) fun m cs _ hr => rdTest m cs hr

theorem rdCond : ∀ (n : Nat) (cs : List Value), Reads Try.prog w n 25 cs → ∃ c : Cond, RepC (Zall w) c.pv cs ∧ True := by
  intro n
  induction n using Nat.strongRecOn with
  | ind n ih =>
    intro cs h
    obtain ⟨m, rfl, hl, hf⟩ := h.struct Try.underlying25
    rw [szCond] at hl
    obtain ⟨i0, e0, _⟩ := (fldR hf 0 0 szInt rfl rfl rfl).pint Try.underlying3
    obtain ⟨i1, e1⟩ := (fldR hf 1 1 szBool rfl rfl rfl).pbool Try.underlying4
    obtain ⟨i2, e2, _⟩ := (fldR hf 2 2 szString rfl rfl rfl).pstr Try.underlying9
    obtain ⟨a3, e3, _⟩ := rdTests _ _ (fldR hf 3 3 szTests rfl rfl rfl)
    obtain ⟨a4, e4, _⟩ := rdTests _ _ (fldR hf 4 4 szTests rfl rfl rfl)
    obtain ⟨i5, e5⟩ := (fldR hf 5 5 szBool rfl rfl rfl).pbool Try.underlying4
    obtain ⟨l, e6, _⟩ := (fldR hf 6 6 szConds rfl rfl rfl).plist (pv := Cond.pv) (Q := fun _ => True) Try.underlying23 szCond (by omega) fun m' cs' hm hr => ih m' (by omega) cs' hr
    match cs, hl with
    | [x0, x1, x2, x3, x4, x5, x6], _ =>
      refine ⟨.mk i0 i1 i2 a3 a4 i5 l, ?_, trivial⟩
      rw [Cond.pv_eq]
      exact (((((e0.append e1).append e2).append e3).append e4).append e5).append e6

theorem rdConds (n : Nat) (cs : List Value) (h : Reads Try.prog w n 23 cs) : ∃ l : List Cond, RepC (Zall w) [.list 7 .sh (l.map Cond.pv)] cs ∧ (∀ s ∈ l, True) ∧ l.length ≤ maxLen :=
  h.plist Try.underlying23 szCond (by omega) fun m cs _ hr => rdCond m cs hr

end
end Go.Proofs.Ytdiimonfmdbclaa
