import Derived.Test.YtfliaomdedfleaaRows
import Derived.Test.YtfliaomdedfleaaOpn
/-
  The program's types, opened.
-/
namespace Go.Proofs.Ytfliaomdedfleaa
open Go.Eng

theorem progOwn : ownKnob Try.prog.godebug = none := by kernel_rfl
theorem progLaid : laidOutB Try.prog = true := by kernel_rfl

section
variable {w : World}

theorem c3 : Try.prog.cellsOf 3 = 1 := by kernel_rfl
theorem c4 : Try.prog.cellsOf 4 = 1 := by kernel_rfl
theorem c9 : Try.prog.cellsOf 9 = 1 := by kernel_rfl
theorem c23 : Try.prog.cellsOf 23 = 3 := by kernel_rfl
theorem c28 : Try.prog.cellsOf 28 = 1 := by kernel_rfl
theorem c30 : Try.prog.cellsOf 30 = 6 := by kernel_rfl
theorem c34 : Try.prog.cellsOf 34 = 4 := by kernel_rfl

theorem rSym (n : Nat) (cs : List Value) (h : Reads Try.prog w n 23 cs) : ∃ s : Sym, cs = s.cells ∧ True := by
  obtain ⟨m, rfl, hl, hf⟩ := h.struct Try.underlying23
  rw [c23] at hl
  match cs, hl with
  | [x0, x1, x2], _ =>
    obtain ⟨i0, e0, _⟩ := (hf 0 _ rfl).int Try.underlying3
    obtain ⟨i1, e1, _⟩ := (hf 1 _ rfl).string Try.underlying9
    obtain ⟨i2, e2, _⟩ := (hf 2 _ rfl).int Try.underlying3
    simp [c3, c9] at e0 e1 e2
    subst e0 e1 e2
    exact ⟨⟨_, _, _⟩, rfl, trivial⟩

theorem rBind (n : Nat) (cs : List Value) (h : Reads Try.prog w n 34 cs) : ∃ s : Eng.Bind, cs = s.cells ∧ True := by
  obtain ⟨m, rfl, hl, hf⟩ := h.struct Try.underlying34
  rw [c34] at hl
  match cs, hl with
  | [x0, x1, x2, x3], _ =>
    obtain ⟨i0, e0, _⟩ := (hf 0 _ rfl).string Try.underlying9
    obtain ⟨s, e1, _⟩ := rSym _ _ (hf 1 _ rfl)
    simp [c9, c23, Sym.cells] at e0 e1
    obtain ⟨rfl, rfl, rfl⟩ := e1
    subst e0
    exact ⟨⟨_, _⟩, rfl, trivial⟩

theorem rTest (n : Nat) (cs : List Value) (h : Reads Try.prog w n 30 cs) : ∃ t : Test, cs = t.cells ∧ ∃ ls : List Sym, SlR w.heap t.la t.ln t.lc 3 (ls.map Sym.cells) := by
  obtain ⟨m, rfl, hl, hf⟩ := h.struct Try.underlying30
  rw [c30] at hl
  match cs, hl with
  | [x0, x1, x2, x3, x4, x5], _ =>
    obtain ⟨i0, e0, _⟩ := (hf 0 _ rfl).int Try.underlying3
    obtain ⟨i1, e1, _⟩ := (hf 1 _ rfl).string Try.underlying9
    obtain ⟨s, e2, _⟩ := rSym _ _ (hf 2 _ rfl)
    obtain ⟨a, len, cap, ls, e3, _, h3, _⟩ := (hf 3 _ rfl).things (cells := Sym.cells) (Q := fun _ => True) Try.underlying28 c23 (by omega) (fun m cs _ hr => rSym m cs hr)
    simp [c3, c9, c23, c28, Sym.cells] at e0 e1 e2 e3
    obtain ⟨rfl, rfl, rfl⟩ := e2
    subst e0 e1 e3
    exact ⟨⟨_, _, _, _, _, _⟩, rfl, ls, h3⟩

end
end Go.Proofs.Ytfliaomdedfleaa
