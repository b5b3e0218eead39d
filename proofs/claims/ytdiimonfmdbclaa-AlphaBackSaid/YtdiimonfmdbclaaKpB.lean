import Derived.Test.YtdiimonfmdbclaaKpA
/-
  What the statements keep: are two things the same?
-/
namespace Go.Proofs.Ytdiimonfmdbclaa
open Go.Eng Go.RowKit
set_option linter.unusedVariables false
set_option linter.unusedSimpArgs false
set_option linter.unnecessarySimpa false

/-- It answers whether. -/
def Asks (g : FuncId) (args : List PV) (φ : Prop) : Prop := PureK Try.prog g args fun p => ∃ q : Bool, p = pB q ∧ (q = true ↔ φ)

theorem Asks.call {g : FuncId} {args : List PV} {φ : Prop} (h : Asks g args φ) {μ : Mem} {K : PV → Mem → Prop} (hy : φ → K (pB true) μ) (hn : ¬ φ → K (pB false) μ) : CallP Try.prog g args μ K := PureK.call h fun p ⟨q, e, hq⟩ => by
  subst e
  cases q with
  | true => exact hy (hq.1 rfl)
  | false => exact hn fun h => by have := hq.2 h; cases this

theorem Asks.yes {φ : Prop} (h : φ) : ∃ q : Bool, wk (pB true) = pB q ∧ (q = true ↔ φ) := ⟨true, rfl, fun _ => h, fun _ => rfl⟩
theorem Asks.no {φ : Prop} (h : ¬ φ) : ∃ q : Bool, wk (pB false) = pB q ∧ (q = true ↔ φ) := ⟨false, rfl, (fun h => by cases h), fun h' => absurd h' h⟩
theorem Asks.yes' {φ : Prop} (h : φ) : ∃ q : Bool, pB true = pB q ∧ (q = true ↔ φ) := ⟨true, rfl, fun _ => h, fun _ => rfl⟩
theorem Asks.no' {φ : Prop} (h : ¬ φ) : ∃ q : Bool, pB false = pB q ∧ (q = true ↔ φ) := ⟨false, rfl, (fun h => by cases h), fun h' => absurd h' h⟩

theorem eqLoop {T : Type} {l m : List T} {n : Nat} {body : (Int → Mem → Prop) → Int → Mem → Prop} {u : Mem} (hl : l.length = n) (hm : m.length = n) (hn : n < 9223372036854775808)
    (hin : ∀ (k : Nat) (hk : k < l.length) (hk' : k < m.length) (u : Mem) (next : Int → Mem → Prop), (l[k] = m[k] → ∀ u', next (IntKind.wrap .i64 ((k : Int) + 1)) u') → (l[k] ≠ m[k] → l ≠ m) → body next (k : Int) u) (hout : ∀ (u : Mem) (next : Int → Mem → Prop), l = m → body next (n : Int) u) : LoopI body 0 u := by
  refine LoopI.each (n := n) hn (fun k u => l.take k = m.take k) (by simp) ?_ ?_
  · intro k u next hk hg hnext
    refine hin k (by omega) (by omega) u next (fun e u' => hnext u' ?_) (fun hne e => hne ?_)
    · rw [List.take_add_one, List.take_add_one, hg, List.getElem?_eq_getElem (by omega), List.getElem?_eq_getElem (by omega), e]
    · subst e; rfl
  · intro u next hg
    rw [List.take_of_length_le (by omega), List.take_of_length_le (by omega)] at hg
    exact hout u next hg

theorem neLen {T : Type} {l m : List T} {pv : T → List PV} (h : ((((l.map pv).length : Nat) : Int) != (((m.map pv).length : Nat) : Int)) = true) : l ≠ m := fun e => by subst e; simp at h
theorem eqLen {T : Type} {l m : List T} {pv : T → List PV} (h : ((((l.map pv).length : Nat) : Int) != (((m.map pv).length : Nat) : Int)) = false) : m.length = l.length := by simp at h; omega

theorem qSyms (f g : Fl) (l m : List Sym) (hl : l.length ≤ 1000000000) : Asks 56 [.list 3 f (l.map Sym.pv), .list 3 g (m.map Sym.pv)] (l = m) := by
  refine PureK.of (G_ponderkeep_Syms.c (CIf.mk (fun h => Asks.no (neLen h)) (fun h => ?_)))
  refine eqLoop (l := l) (m := m) (n := l.length) rfl (eqLen h) (by omega) (fun k hk hk' u next hy hno => ?_) (fun u next e => CIf.f (by simp) (Asks.yes e))
  refine CIf.t (by simpa using hk) ⟨by omega, _, atRow hk, _, _, _, rfl, by omega, _, atRow hk', _, _, _, rfl, CIf.mk (fun h => Asks.no (hno fun e => ?_)) (fun h => hy (symEq_iff.1 (nt h)) _)⟩
  have h' : symEq l[k] m[k] = false := nb h
  rw [symEq_iff.2 e] at h'; cases h'
theorem testExt {a b : Test} (h1 : a.rel = b.rel) (h2 : a.var = b.var) (h3 : a.sym = b.sym) (h4 : a.list = b.list) : a = b := by cases a; cases b; simp_all
theorem qTests (f g : Fl) (l m : List Test) (hl : l.length ≤ 1000000000) (ht : ∀ t ∈ l, t.list.length ≤ 1000000000) : Asks 34 [.list 6 f (l.map Test.pv), .list 6 g (m.map Test.pv)] (l = m) := by
  refine PureK.of (G_ponderkeep_Tests.c (CIf.mk (fun h => Asks.no (neLen h)) (fun h => ?_)))
  refine eqLoop (l := l) (m := m) (n := l.length) rfl (eqLen h) (by omega) (fun k hk hk' u next hy hno => ?_) (fun u next e => CIf.f (by simp) (Asks.yes e))
  refine CIf.t (by simpa using hk) ⟨by omega, _, atRow hk, _, rfl, by omega, _, atRow hk', _, rfl, CIf.mk (fun h1 => Asks.no (hno fun e => ?_)) (fun h1 => ⟨by omega, _, atRow hk, _, rfl, by omega, _, atRow hk', _, rfl, CIf.mk (fun h2 => Asks.no (hno fun e => ?_)) (fun h2 => ⟨by omega, _, atRow hk, _, _, _, rfl, by omega, _, atRow hk', _, _, _, rfl, CIf.mk (fun h3 => Asks.no (hno fun e => ?_)) (fun h3 => ⟨by omega, _, atRow hk, _, _, rfl, by omega, _, atRow hk', _, _, rfl, ?_⟩)⟩)⟩)⟩
  · rw [e] at h1; simp at h1
  · rw [e, strEq_self] at h2; cases h2
  · have := nb h3
    rw [show ((l[k].sym.k == m[k].sym.k) && (strEq l[k].sym.t m[k].sym.t && ((l[k].sym.n == m[k].sym.n) && true))) = true from symEq_iff.2 (by rw [e])] at this; cases this
  · refine (qSyms _ _ l[k].list m[k].list (ht _ (List.getElem_mem hk))).call (fun e => ⟨_, rfl, CIf.f rfl (hy (testExt (by simpa using h1) (strEq_iff.1 (nt h2)) (symEq_iff.1 (nt h3)) e) _)⟩) (fun hne => ⟨_, rfl, CIf.t rfl (Asks.no (hno fun e => hne (by rw [e])))⟩)
theorem condExt {a b : Cond} (h1 : a.kind = b.kind) (h2 : a.goal = b.goal) (h3 : a.id = b.id) (h4 : a.attr = b.attr) (h5 : a.value = b.value) (h6 : a.acc = b.acc) (h7 : a.conds = b.conds) : a = b := by
  cases a; cases b; simp_all [Cond.kind, Cond.goal, Cond.id, Cond.attr, Cond.value, Cond.acc, Cond.conds]
theorem qCond' (n : Nat) (ih : ∀ (f g : Fl) (l m : List Cond), sizeL l ≤ n → sizeL l ≤ 1000000 → lightL l → Asks 35 [.list 7 f (l.map Cond.pv), .list 7 g (m.map Cond.pv)] (l = m)) (c d : Cond) (hs : sizeL c.conds ≤ n) (h6 : sizeL c.conds ≤ 1000000) (hl : lightC c) : Asks 13 [.agg [pI c.kind, pB c.goal, pS c.id, .list 6 .sh (c.attr.map Test.pv), .list 6 .sh (c.value.map Test.pv), pB c.acc, .list 7 .sh (c.conds.map Cond.pv)], .agg [pI d.kind, pB d.goal, pS d.id, .list 6 .sh (d.attr.map Test.pv), .list 6 .sh (d.value.map Test.pv), pB d.acc, .list 7 .sh (d.conds.map Cond.pv)]] (c = d) := by
  obtain ⟨_, l1, l2, l3, l4, l5⟩ := (lightC_eq c).1 hl
  refine PureK.of (G_ponderkeep_Cond.c ?_)
  refine CIf.mk (fun h1 => CIf.mk (fun h2 => CIf.mk (fun h3 => CIf.mk (fun h4 => ?_) (fun h => Asks.no fun e => ?_)) (fun h => Asks.no fun e => ?_)) (fun h => Asks.no fun e => ?_)) (fun h => Asks.no fun e => ?_)
  · refine (qTests _ _ c.attr d.attr (by omega) (fun t ht => by have := lightTs l3 t ht; omega)).call (fun e1 => ⟨_, rfl, CIf.t rfl ?_⟩) (fun hne => ⟨_, rfl, CIf.f rfl (Asks.no fun e => hne (by rw [e]))⟩)
    refine (qTests _ _ c.value d.value (by omega) (fun t ht => by have := lightTs l4 t ht; omega)).call (fun e2 => ⟨_, rfl, CIf.t rfl ?_⟩) (fun hne => ⟨_, rfl, CIf.f rfl (Asks.no fun e => hne (by rw [e]))⟩)
    refine (ih .sh .sh c.conds d.conds hs h6 l5).call (fun e3 => ⟨_, rfl, Asks.yes (condExt (by simpa using h1) (by simpa using h2) (strEq_iff.1 h3) e1 e2 (by simpa using h4) e3)⟩) (fun hne => ⟨_, rfl, Asks.no fun e => hne (by rw [e])⟩)
  · subst e; simp at h
  · subst e; rw [strEq_self] at h; cases h
  · subst e; simp at h
  · subst e; simp at h

theorem qConds : ∀ (n : Nat) (f g : Fl) (l m : List Cond), sizeL l ≤ n → sizeL l ≤ 1000000 → lightL l → Asks 35 [.list 7 f (l.map Cond.pv), .list 7 g (m.map Cond.pv)] (l = m) := by
  intro n
  induction n with
  | zero =>
    intro f g l m h _ _
    have : l = [] := by
      cases l with
      | nil => rfl
      | cons c l => simp [sizeL, sizeC_eq] at h
    subst this
    refine PureK.of (G_ponderkeep_Conds.c (CIf.mk (fun h => Asks.no (neLen h)) (fun h => ?_)))
    refine eqLoop (l := []) (m := m) (n := 0) rfl (eqLen h) (by omega) (fun k hk => by simp at hk) (fun u next e => CIf.f (by simp) (Asks.yes e))
  | succ n ih =>
    intro f g l m h h6 hl
    have hll := sizeL_len l
    refine PureK.of (G_ponderkeep_Conds.c (CIf.mk (fun h => Asks.no (neLen h)) (fun h => ?_)))
    refine eqLoop (l := l) (m := m) (n := l.length) rfl (eqLen h) (by omega) (fun k hk hk' u next hy hno => ?_) (fun u next e => CIf.f (by simp) (Asks.yes e))
    have hm := sizeL_mem (List.getElem_mem hk)
    refine CIf.t (by simpa using hk) ⟨by omega, _, atRow hk, _, _, _, _, _, _, _, _, _, _, condRow _, by omega, _, atRow hk', _, _, _, _, _, _, _, _, _, _, condRow _, ?_⟩
    refine (qCond' n ih l[k] m[k] (by omega) (by omega) (lightL_iff.1 hl _ (List.getElem_mem hk))).call (fun e => ⟨_, rfl, CIf.f rfl (hy e _)⟩) (fun hne => ⟨_, rfl, CIf.t rfl (Asks.no (hno hne))⟩)

theorem qCond (c d : Cond) (h6 : sizeL c.conds ≤ 1000000) (hl : lightC c) : Asks 13 [.agg [pI c.kind, pB c.goal, pS c.id, .list 6 .sh (c.attr.map Test.pv), .list 6 .sh (c.value.map Test.pv), pB c.acc, .list 7 .sh (c.conds.map Cond.pv)], .agg [pI d.kind, pB d.goal, pS d.id, .list 6 .sh (d.attr.map Test.pv), .list 6 .sh (d.value.map Test.pv), pB d.acc, .list 7 .sh (d.conds.map Cond.pv)]] (c = d) := qCond' _ (qConds _) c d (Nat.le_refl _) h6 hl
theorem elemExt {a b : Elem} : ((a.id.k == b.id.k) && (strEq a.id.t b.id.t && ((a.id.n == b.id.n) && ((a.attr.k == b.attr.k) && (strEq a.attr.t b.attr.t && ((a.attr.n == b.attr.n) && ((a.value.k == b.value.k) && (strEq a.value.t b.value.t && ((a.value.n == b.value.n) && ((a.acc == b.acc) && ((a.goal == b.goal) && ((a.tag == b.tag) && true)))))))))))) = true ↔ a = b := by
  obtain ⟨⟨a1, a2, a3⟩, ⟨a4, a5, a6⟩, ⟨a7, a8, a9⟩, x, y, t⟩ := a
  obtain ⟨⟨b1, b2, b3⟩, ⟨b4, b5, b6⟩, ⟨b7, b8, b9⟩, x', y', t'⟩ := b
  simp [strEq_iff, and_assoc]
theorem qElems (f g : Fl) (l m : List Elem) (hl : l.length ≤ 1000000000) : Asks 23 [.list 12 f (l.map Elem.pv), .list 12 g (m.map Elem.pv)] (l = m) := by
  refine PureK.of (G_ponderkeep_Elems.c (CIf.mk (fun h => Asks.no (neLen h)) (fun h => ?_)))
  refine eqLoop (l := l) (m := m) (n := l.length) rfl (eqLen h) (by omega) (fun k hk hk' u next hy hno => ?_) (fun u next e => CIf.f (by simp) (Asks.yes e))
  refine CIf.t (by simpa using hk) ⟨by omega, _, atRow hk, _, _, _, _, _, _, _, _, _, _, _, _, rfl, by omega, _, atRow hk', _, _, _, _, _, _, _, _, _, _, _, _, rfl, CIf.mk (fun h => Asks.no (hno fun e => ?_)) (fun h => hy (elemExt.1 (nt h)) _)⟩
  have := nb h
  rw [elemExt.2 e] at this; cases this
theorem cLight (f : Fl) (l : List Elem) (n : Nat) (hn6 : n ≤ 1000000) : PureK Try.prog 48 [.list 12 f (l.map Elem.pv), pI (n : Nat)] fun p => ∃ q : Bool, p = pB q ∧ (q = true → l.length ≤ n) := by
  refine PureK.of (G_ponderlaw10_light.c (CIf.mk (fun h => ⟨false, rfl, fun h => by cases h⟩) (fun h => ?_)))
  have hn : l.length ≤ n := by simpa using h
  refine LoopI.each (n := l.length) (by omega) (fun _ _ => True) trivial (fun k u next hk _ hnext => ?_) (fun u next _ => CIf.f (by simp) ⟨true, rfl, fun _ => hn⟩)
  refine CIf.t (by simpa using hk) ⟨by omega, _, atRow hk, _, rfl, CIf.mk (fun _ => ⟨false, rfl, fun h => by cases h⟩) (fun _ => ⟨by omega, _, atRow hk, _, rfl, CIf.mk (fun _ => ⟨false, rfl, fun h => by cases h⟩) (fun _ => ⟨by omega, _, atRow hk, _, rfl, CIf.mk (fun _ => ⟨false, rfl, fun h => by cases h⟩) (fun _ => hnext _ trivial)⟩)⟩)⟩
theorem cLightT (f : Fl) (l : List Elem) (n : Nat) (hn6 : n ≤ 1000000) : PureK Try.prog 21 [.list 12 f (l.map Elem.pv), pI (n : Nat)] fun p => ∃ q : Bool, p = pB q ∧ (q = true → l.length ≤ n) := by
  refine PureK.of (G_ponderlaw10_Light.c ?_)
  exact (cLight f l n hn6).call fun p ⟨q, e, h⟩ => ⟨q, e, q, rfl, h⟩

end Go.Proofs.Ytdiimonfmdbclaa
