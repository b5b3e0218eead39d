import Derived.Test.YtfjemjnbemdkgaaCh6D
/-
  Productions that may be: contracts of the small functions.
-/
namespace Go.Proofs.Ytfjemjnbemdkgaa
open Go.Eng Go.RowKit
set_option linter.unusedVariables false
set_option linter.unusedSimpArgs false
set_option linter.unnecessarySimpa false

theorem cNone (s : Sym) : Pure Try.prog 85 [.agg s.pv] (pB (noneB s)) := PureK.of (G_shape_none.c rfl)

theorem cEmpty (a : Atom) : Pure Try.prog 70 [.agg a.pv] (pB (emptyB a)) := by
  refine PureK.of (G_shape_empty.c ?_)
  refine CIf.mk (fun h => (cNone a.sym).call ⟨_, rfl, ?_⟩) (fun h => ?_) <;> simp_all [emptyB, wk, wk1]

theorem cConst (s : Sym) : Pure Try.prog 60 [.agg s.pv] (pB (constB s)) := by
  refine PureK.of (G_shape_constant.c ?_)
  refine CIf.mk (fun h => (cValid s).call ⟨_, rfl, ?_⟩) (fun h => ?_) <;> simp_all [constB, wk, wk1]

theorem cAtom (a : Atom) : Pure Try.prog 67 [.agg a.pv] (pB (atomB a)) := by
  refine PureK.of (G_shape_atom.c ?_)
  refine CIf.mk (fun h => (cWord a.var).call ⟨_, rfl, CIf.mk (fun h2 => (cNone a.sym).call ⟨_, rfl, ?_⟩) (fun h2 => ?_)⟩) (fun h => (cConst a.sym).call ⟨_, rfl, ?_⟩) <;> simp_all [atomB, noneB, wk, wk1]

theorem cRefAtom (a : Atom) : Pure Try.prog 73 [.agg a.pv] (pB (atomB a)) := by
  refine PureK.of (G_ponderref06_atom.c ?_)
  refine CIf.mk (fun h => (cRefWord a.var).call ⟨_, rfl, CIf.mk (fun h2 => ?_) (fun h2 => ?_)⟩) (fun h => (cRefConst a.sym).call ⟨_, rfl, ?_⟩) <;> simp_all [atomB, noneB, wk, wk1]

/-- All of a list, asked one by one. -/
theorem allLoop {T : Type} {f : FuncId} {p : T → Bool} {l : List T} {n : Nat} {body : (Int → Mem → Prop) → Int → Mem → Prop} {u : Mem} (hl : l.length = n) (hn : n < 9223372036854775808) (hno : l.all p = false → ∀ u next, False → body next 0 u)
    (hin : ∀ (k : Nat) (hk : k < l.length) (u : Mem) (next : Int → Mem → Prop), (p l[k] = true → ∀ u', next (IntKind.wrap .i64 ((k : Int) + 1)) u') → (p l[k] = false → l.all p = false) → body next (k : Int) u) (hout : ∀ (u : Mem) (next : Int → Mem → Prop), l.all p = true → body next (n : Int) u) : LoopI body 0 u := by
  refine LoopI.each (n := n) hn (fun k u => (l.take k).all p = true) (by simp) ?_ ?_
  · intro k u next hk hg hnext
    have hk' : k < l.length := by omega
    exact hin k hk' u next (fun hp u' => hnext u' (by rw [allTake hk' hg]; exact hp)) (fun hp => allMiss hk' hp)
  · intro u next hg
    rw [← hl, List.take_length] at hg
    exact hout u next hg

theorem cTest (fl : Fl) (t : Test) (ht : t.list.length ≤ 1000000) : Pure Try.prog 84 [.agg [pI t.rel, pS t.var, pI t.sym.k, pS t.sym.t, pI t.sym.n, .list 3 fl (t.list.map Sym.pv)]] (pB (testB t)) := by
  refine PureK.of (G_shape_test.c ?_)
  refine CIf.mk (fun h8 => ?_) (fun h8 => ?_)
  · refine CIf.mk (fun h1 => ?_) (fun h1 => (cNone t.sym).call ⟨_, rfl, CIf.mk (fun h2 => ?_) (fun h2 => CIf.mk (fun h3 => ?_) (fun h3 => CIf.mk (fun h4 => ?_) (fun h4 => ?_)))⟩)
    · simp [testB, h8, nb h1, wk, wk1]
    · simp [testB, h8, nb h2, wk, wk1]
    · have : ¬ 1 ≤ t.list.length := by simp at h3; omega
      simp [testB, h8, this, wk, wk1]
    · have : ¬ t.list.length ≤ 8 := by simp at h4; omega
      simp [testB, h8, this, wk, wk1]
    · have e3 : 1 ≤ t.list.length := by simp at h3; omega
      have e4 : t.list.length ≤ 8 := by simp at h4; omega
      have hb : testB t = t.list.all constB := by simp [testB, h8, nt h1, nt h2, e3, e4]
      rw [hb]
      refine allLoop (p := constB) (l := t.list) (f := 0) rfl (by omega) (fun _ _ _ h => h.elim) (fun k hk u next hy hno => ?_) (fun u next ha => CIf.f (by simp) (by rw [ha]; rfl))
      refine CIf.t (by simpa using hk) ⟨by omega, _, atRow hk, _, _, _, rfl, (cConst t.list[k]).call ⟨_, rfl, CIf.mk (fun a => ?_) (fun a => hy (by simpa using a) _)⟩⟩
      rw [hno (by simpa using a)]; rfl
  · refine CIf.mk (fun h1 => ?_) (fun h1 => CIf.mk (fun h2 => ?_) (fun h2 => CIf.mk (fun h3 => ?_) (fun h3 => ?_)))
    · have : ¬ 1 ≤ t.rel := by simp at h1; omega
      simp [testB, h8, this, wk, wk1]
    · have : ¬ t.rel ≤ 7 := by simp at h2; omega
      simp [testB, h8, this, wk, wk1]
    · have : ¬ t.list.length = 0 := by simp at h3; omega
      simp [testB, h8, this, wk, wk1]
    · have e1 : 1 ≤ t.rel := by simp at h1; omega
      have e2 : t.rel ≤ 7 := by simp at h2; omega
      have e3 : t.list.length = 0 := by simpa using h3
      have hb : testB t = atomB ⟨t.var, t.sym⟩ := by simp [testB, h8, e1, e2, e3]
      rw [hb]
      refine CIf.mk (fun h => (cWord t.var).call ⟨_, rfl, CIf.mk (fun h2 => (cNone t.sym).call ⟨_, rfl, ?_⟩) (fun h2 => ?_)⟩) (fun h => (cConst t.sym).call ⟨_, rfl, ?_⟩) <;> simp_all [atomB, noneB, wk, wk1]

theorem cRefTest (fl : Fl) (t : Test) (ht : t.list.length ≤ 1000000) : Pure Try.prog 95 [.agg [pI t.rel, pS t.var, pI t.sym.k, pS t.sym.t, pI t.sym.n, .list 3 fl (t.list.map Sym.pv)]] (pB (testB t)) := by
  refine PureK.of (G_ponderref06_test.c ?_)
  refine CIf.mk (fun h8 => ?_) (fun h8 => ?_)
  · refine CIf.mk (fun h1 => ?_) (fun h1 => CIf.mk (fun h2 => ?_) (fun h2 => CIf.mk (fun h3 => ?_) (fun h3 => CIf.mk (fun h4 => ?_) (fun h4 => ?_))))
    · simp_all [testB, wk, wk1]
    · have : noneB t.sym = false := nb h2
      simp [testB, h8, this, wk, wk1]
    · have : ¬ 1 ≤ t.list.length := by simp at h3; omega
      simp [testB, h8, this, wk, wk1]
    · have : ¬ t.list.length ≤ 8 := by simp at h4; omega
      simp [testB, h8, this, wk, wk1]
    · have e2 : noneB t.sym = true := nt h2
      have e3 : 1 ≤ t.list.length := by simp at h3; omega
      have e4 : t.list.length ≤ 8 := by simp at h4; omega
      have e1 : strEq t.var ⟨#[]⟩ = true := by simpa using h1
      have hb : testB t = t.list.all constB := by simp [testB, h8, e1, e2, e3, e4]
      rw [hb]
      refine allLoop (p := constB) (l := t.list) (f := 0) rfl (by omega) (fun _ _ _ h => h.elim) (fun k hk u next hy hno => ?_) (fun u next ha => CIf.f (by simp) (by rw [ha]; rfl))
      refine CIf.t (by simpa using hk) ⟨by omega, _, atRow hk, _, _, _, rfl, (cRefConst t.list[k]).call ⟨_, rfl, CIf.mk (fun a => ?_) (fun a => hy (by simpa using a) _)⟩⟩
      rw [hno (by simpa using a)]; rfl
  · refine CIf.mk (fun h1 => CIf.mk (fun h2 => CIf.mk (fun h3 => (cRefAtom ⟨t.var, t.sym⟩).call ⟨_, rfl, ?_⟩) (fun h3 => ?_)) (fun h2 => ?_)) (fun h1 => ?_)
    · have e3 : t.list.length = 0 := by simpa using h3
      have e1 : 1 ≤ t.rel := by simpa using h1
      have e2 : t.rel ≤ 7 := by simpa using h2
      simp [testB, h8, e1, e2, e3, wk, wk1]
    · have e3 : ¬ t.list.length = 0 := by simpa using h3
      simp [testB, h8, e3, wk, wk1]
    · have e2 : ¬ t.rel ≤ 7 := by simpa using h2
      simp [testB, h8, e2, wk, wk1]
    · have e1 : ¬ 1 ≤ t.rel := by simpa using h1
      simp [testB, h8, e1, wk, wk1]

theorem cTests (fl : Fl) (l : List Test) (hl : l.length ≤ 1000000) (ht : ∀ t ∈ l, t.list.length ≤ 1000000) : Pure Try.prog 66 [.list 6 fl (l.map Test.pv)] (pB (l.all testB)) := by
  refine PureK.of (G_shape_tests.c ?_)
  refine allLoop (p := testB) (l := l) (f := 0) rfl (by omega) (fun _ _ _ h => h.elim) (fun k hk u next hy hno => ?_) (fun u next ha => CIf.f (by simp) (by rw [ha]; rfl))
  refine CIf.t (by simpa using hk) ⟨by omega, _, atRow hk, _, _, _, _, _, _, _, rfl, (cTest .sh l[k] (ht _ (List.getElem_mem hk))).call ⟨_, rfl, CIf.mk (fun a => ?_) (fun a => hy (by simpa using a) _)⟩⟩
  rw [hno (by simpa using a)]; rfl

theorem cRefTests (fl : Fl) (l : List Test) (hl : l.length ≤ 1000000) (ht : ∀ t ∈ l, t.list.length ≤ 1000000) : Pure Try.prog 87 [.list 6 fl (l.map Test.pv)] (pB (l.all testB)) := by
  refine PureK.of (G_ponderref06_tests.c ?_)
  refine allLoop (p := testB) (l := l) (f := 0) rfl (by omega) (fun _ _ _ h => h.elim) (fun k hk u next hy hno => ?_) (fun u next ha => CIf.f (by simp) (by rw [ha]; rfl))
  refine CIf.t (by simpa using hk) ⟨by omega, _, atRow hk, _, _, _, _, _, _, _, rfl, (cRefTest .sh l[k] (ht _ (List.getElem_mem hk))).call ⟨_, rfl, CIf.mk (fun a => ?_) (fun a => hy (by simpa using a) _)⟩⟩
  rw [hno (by simpa using a)]; rfl

theorem cWordA (a : Atom) : Pure Try.prog 86 [.agg a.pv] (pB (wordA a)) := by
  refine PureK.of (G_shape_word.c ?_)
  refine CIf.mk (fun h => ?_) (fun h => ?_) <;> simp_all [wordA, wk, wk1]

theorem cOther (k : Int) : Pure Try.prog 69 [pI k] (pB (otherB k)) := by
  refine PureK.of (G_shape_other.c ?_)
  refine CIf.mk (fun h => ?_) (fun h => CIf.mk (fun h2 => ?_) (fun h2 => ?_)) <;> simp [otherB, wk, wk1, *]

theorem cTerm (t : Term) : Pure Try.prog 68 [.agg t.pv] (pB (termB t)) := by
  refine PureK.of (G_shape_term.c ?_)
  refine CIf.mk (fun h => ?_) (fun h => CIf.mk (fun h2 => ?_) (fun h2 => (cAtom t.a).call ⟨_, rfl, CIf.mk (fun h3 => ?_) (fun h3 => CIf.mk (fun h4 => (cEmpty t.b).call ⟨_, rfl, ?_⟩)
    (fun h4 => (cAtom t.b).call ⟨_, rfl, CIf.mk (fun h5 => (cWordA t.a).call ⟨_, rfl, CIf.mk (fun h6 => (cWordA t.b).call ⟨_, rfl, ?_⟩) (fun h6 => ?_)⟩) (fun h5 => ?_)⟩))⟩))
  · have : ¬ 0 ≤ t.op := by simp at h; omega
    simp [termB, this, wk, wk1]
  · have : ¬ t.op ≤ 3 := by simp at h2; omega
    simp [termB, this, wk, wk1]
  all_goals
    have e1 : 0 ≤ t.op := by simp at h; omega
    have e2 : t.op ≤ 3 := by simp at h2; omega
    grind [termB, wk, wk1]

theorem cAct (a : Actn) : Pure Try.prog 43 [.agg a.pv] (pB (actB a)) := by
  refine PureK.of (G_shape_act.c ?_)
  refine (cWord a.id).call ⟨_, rfl, CIf.mk (fun h1 => ?_) (fun h1 => (cAtom a.attr).call ⟨_, rfl, CIf.mk (fun h2 => ?_) (fun h2 => (cTerm a.value).call ⟨_, rfl, CIf.mk (fun h3 => ?_) (fun h3 => CIf.mk (fun h4 => ?_) (fun h4 => CIf.mk (fun h5 => ?_)
    (fun h5 => (cOther a.pref).call ⟨_, rfl, CIf.mk (fun h6 => (cAtom a.other).call ⟨_, rfl, ?_⟩) (fun h6 => (cEmpty a.other).call ⟨_, rfl, ?_⟩)⟩)))⟩)⟩)⟩
  · simp_all [actB, wk, wk1]
  · simp_all [actB, wk, wk1]
  · simp_all [actB, wk, wk1]
  · have : ¬ 1 ≤ a.pref := by simp at h4; omega
    simp [actB, this, wk, wk1]
  · have : ¬ a.pref ≤ 10 := by simp at h5; omega
    simp [actB, this, wk, wk1]
  all_goals
    have e1 : 1 ≤ a.pref := by simp at h4; omega
    have e2 : a.pref ≤ 10 := by simp at h5; omega
    simp_all [actB, wk, wk1]

theorem atom_word {a : Atom} (h : atomB a = true) : (a.sym.k == 3) = wordA a := by
  unfold atomB at h
  unfold wordA
  cases hv : strEq a.var ⟨#[]⟩ with
  | true => simp
  | false =>
    rw [hv] at h
    simp only [cond_false, Bool.and_eq_true, noneB] at h
    have : a.sym.k = 0 := by simpa using h.2.1
    simp [this]

theorem cRefAct (a : Actn) : Pure Try.prog 47 [.agg a.pv] (pB (actB a)) := by
  refine PureK.of (G_ponderref06_act.c ?_)
  refine (cRefWord a.id).call ⟨_, rfl, CIf.mk (fun h1 => ?_) (fun h1 => (cRefAtom a.attr).call ⟨_, rfl, CIf.mk (fun h2 => ?_) (fun h2 => (cRefAtom a.value.a).call ⟨_, rfl, CIf.mk (fun h3 => ?_) (fun h3 => CIf.mk (fun h4 => ?_) (fun h4 => CIf.mk (fun h5 => ?_) (fun h5 => CIf.mk (fun h6 => ?_) (fun h6 => CIf.mk (fun h7 => ?_) (fun h7 => ?_)))))⟩)⟩)⟩
  · simp_all [actB, wk, wk1]
  · simp_all [actB, wk, wk1]
  · simp_all [actB, termB, wk, wk1]
  · have : ¬ 0 ≤ a.value.op := by simp at h4; omega
    simp [actB, termB, this, wk, wk1]
  · have : ¬ a.value.op ≤ 3 := by simp at h5; omega
    simp [actB, termB, this, wk, wk1]
  · have : ¬ 1 ≤ a.pref := by simp at h6; omega
    simp [actB, this, wk, wk1]
  · have : ¬ a.pref ≤ 10 := by simp at h7; omega
    simp [actB, this, wk, wk1]
  · have e4 : 0 ≤ a.value.op := by simp at h4; omega
    have e5 : a.value.op ≤ 3 := by simp at h5; omega
    have e6 : 1 ≤ a.pref := by simp at h6; omega
    have e7 : a.pref ≤ 10 := by simp at h7; omega
    have e1 : wordB a.id = true := by simpa using h1
    have e2 : atomB a.attr = true := by simpa using h2
    have e3 : atomB a.value.a = true := by simpa using h3
    refine ⟨fun _ _ => termB a.value = true, ?_, ?_⟩
    · refine CIf.mk (fun a1 => CIf.mk (fun a2 => ?_) (fun a2 => ?_)) (fun a1 => (cRefAtom a.value.b).call ⟨_, rfl, CIf.mk (fun a2 => ?_) (fun a2 => CIf.mk (fun a3 => ?_) (fun a3 => CIf.mk (fun a4 => ?_) (fun a4 => ?_)))⟩)
      · have : emptyB a.value.b = false := nb a2
        simp [actB, termB, a1, this, wk, wk1]
      · have : emptyB a.value.b = true := nt a2
        simp [termB, e4, e5, e3, a1, this]
      · have : atomB a.value.b = false := by simpa using a2
        simp [actB, termB, a1, this, wk, wk1]
      · rw [atom_word e3] at a3
        simp [actB, termB, a1, a3, wk, wk1]
      · have b1 : atomB a.value.b = true := by simpa using a2
        rw [atom_word b1] at a4
        simp [actB, termB, a1, a4, wk, wk1]
      · have b1 : atomB a.value.b = true := by simpa using a2
        rw [atom_word e3] at a3
        rw [atom_word b1] at a4
        simp [termB, e4, e5, e3, a1, a3, a4, b1]
    · rintro _ u ht
      have ho : otherB a.pref = decide (a.pref ≥ 8) := by
        simp only [otherB]
        rw [Bool.eq_iff_iff]
        simp; omega
      refine CIf.mk (fun a1 => (cRefAtom a.other).call ⟨_, rfl, ?_⟩) (fun a1 => ?_)
      · simp [actB, e1, e2, ht, e6, e7, ho, a1, wk, wk1]
      · have : emptyB a.other = (strEq a.other.var ⟨#[]⟩ && ((a.other.sym.k == 0) && (strEq a.other.sym.t ⟨#[]⟩ && ((a.other.sym.n == 0) && true)))) := rfl
        simp only [actB, e1, e2, ht, e6, e7, ho, a1, this, wk, wk1]
        simp

end Go.Proofs.Ytfjemjnbemdkgaa
