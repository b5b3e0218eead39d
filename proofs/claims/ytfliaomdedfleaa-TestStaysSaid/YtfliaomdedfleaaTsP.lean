import Derived.Test.YtfliaomdedfleaaTsO
import Derived.Test.YtfliaomdedfleaaDomB
/-
  The program's types, opened: elements, conditions.
-/
namespace Go.Proofs.Ytfliaomdedfleaa
open Go.Eng

section
variable {w : World}

theorem c42 : Try.prog.cellsOf 42 = 1 := by kernel_rfl
theorem c43 : Try.prog.cellsOf 43 = 1 := by kernel_rfl
theorem c45 : Try.prog.cellsOf 45 = 7 := by kernel_rfl
theorem c47 : Try.prog.cellsOf 47 = 12 := by kernel_rfl

theorem rElem (n : Nat) (cs : List Value) (h : Reads Try.prog w n 47 cs) : ∃ e : Elem, cs = e.cells ∧ True := by
  obtain ⟨m, rfl, hl, hf⟩ := h.struct Try.underlying47
  rw [c47] at hl
  match cs, hl with
  | [x0, x1, x2, x3, x4, x5, x6, x7, x8, x9, x10, x11], _ =>
    obtain ⟨s0, e0, _⟩ := rSym _ _ (hf 0 _ rfl)
    obtain ⟨s1, e1, _⟩ := rSym _ _ (hf 1 _ rfl)
    obtain ⟨s2, e2, _⟩ := rSym _ _ (hf 2 _ rfl)
    obtain ⟨b3, e3⟩ := (hf 3 _ rfl).bool Try.underlying4
    obtain ⟨b4, e4⟩ := (hf 4 _ rfl).bool Try.underlying4
    obtain ⟨i5, e5, _⟩ := (hf 5 _ rfl).int Try.underlying3
    simp [c3, c4, c23, Sym.cells] at e0 e1 e2 e3 e4 e5
    obtain ⟨rfl, rfl, rfl⟩ := e0
    obtain ⟨rfl, rfl, rfl⟩ := e1
    obtain ⟨rfl, rfl, rfl⟩ := e2
    subst e3 e4 e5
    exact ⟨⟨_, _, _, _, _, _⟩, rfl, trivial⟩

theorem rTests (n : Nat) (cs : List Value) (h : Reads Try.prog w n 42 cs) : ∃ a len cap, cs = [.slice a len cap] ∧ ∃ ts, TestsR w.heap a len cap ts := by
  obtain ⟨a, len, cap, l, e, hm, h1, h2⟩ := h.things (cells := Test.cells) (Q := fun t => ∃ ls : List Sym, SlR w.heap t.la t.ln t.lc 3 (ls.map Sym.cells)) Try.underlying42 c30 (by omega) (fun m cs _ hr => rTest m cs hr)
  refine ⟨a, len, cap, e, ?_⟩
  have : ∃ ts : List (Test × List Sym), l = ts.map (·.1) ∧ ∀ p ∈ ts, SlR w.heap p.1.la p.1.ln p.1.lc 3 (p.2.map Sym.cells) := by
    clear h1 e
    induction l with
    | nil => exact ⟨[], rfl, by simp⟩
    | cons t l ih =>
      obtain ⟨ts, e, ht⟩ := ih fun s hs => h2 s (by simp [hs])
      obtain ⟨ls, hls⟩ := h2 t (by simp)
      exact ⟨(t, ls) :: ts, by simp [e], by simpa using ⟨hls, fun a b h => ht (a, b) h⟩⟩
  obtain ⟨ts, rfl, ht⟩ := this
  exact ⟨ts, by rw [List.map_map] at h1; exact h1, hm, ht⟩

theorem rCondN : ∀ (n : Nat) (cs : List Value), Reads Try.prog w n 45 cs → ∃ cd : CondD, cs = cd.cells ∧ (∃ ats, TestsR w.heap cd.aa cd.an cd.ac ats) ∧ (∃ vts, TestsR w.heap cd.va cd.vn cd.vc vts) ∧ CondsR w.heap n cd.ca cd.cn cd.cc := by
  intro n
  induction n using Nat.strongRecOn with
  | ind n ih =>
    intro cs h
    obtain ⟨m, rfl, hl, hf⟩ := h.struct Try.underlying45
    rw [c45] at hl
    match cs, hl with
    | [x0, x1, x2, x3, x4, x5, x6], _ =>
      obtain ⟨i0, e0, _⟩ := (hf 0 _ rfl).int Try.underlying3
      obtain ⟨i1, e1⟩ := (hf 1 _ rfl).bool Try.underlying4
      obtain ⟨i2, e2, _⟩ := (hf 2 _ rfl).string Try.underlying9
      obtain ⟨a3, n3, c3', e3, h3⟩ := rTests _ _ (hf 3 _ rfl)
      obtain ⟨a4, n4, c4', e4, h4⟩ := rTests _ _ (hf 4 _ rfl)
      obtain ⟨i5, e5⟩ := (hf 5 _ rfl).bool Try.underlying4
      obtain ⟨m', a6, n6, c6, css, hm', e6, hm6, h6, h6'⟩ := (hf 6 _ rfl).slice Try.underlying43 (by rw [c45]; omega)
      rw [c45] at h6
      simp [c3, c4, c9, c42, c43] at e0 e1 e2 e3 e4 e5 e6
      subst e0 e1 e2 e3 e4 e5 e6
      obtain ⟨l, rfl, hq⟩ := list_of (cells := CondD.cells) (Q := fun cd => (∃ ats, TestsR w.heap cd.aa cd.an cd.ac ats) ∧ (∃ vts, TestsR w.heap cd.va cd.vn cd.vc vts) ∧ CondsR w.heap m' cd.ca cd.cn cd.cc) fun x hx => ih m' (by omega) x (h6' x hx)
      refine ⟨⟨_, _, _, _, _, _, _, _, _, _, _, _, _⟩, rfl, h3, h4, ?_⟩
      have : m = m' + 1 := hm'
      subst this
      exact CondsR.more ⟨hm6, l, h6, hq⟩

theorem rCond (n : Nat) (cs : List Value) (h : Reads Try.prog w n 45 cs) : ∃ cd : CondD, cs = cd.cells ∧ CondR w.heap cd := by
  obtain ⟨cd, e, h1, h2, h3⟩ := rCondN n cs h
  exact ⟨cd, e, h1, h2, _, h3⟩

end
end Go.Proofs.Ytfliaomdedfleaa
