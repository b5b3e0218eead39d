import Derived.Test.YtfliaomdedfleaaQ08
import Derived.Test.YtfliaomdedfleaaRows
import Derived.WalkKit
import Derived.ProofKit
import Derived.OpenShut
import Derived.ShutString
import Derived.ChangeOld
import Derived.Below
/-
  The program's types, opened: symbols, bindings, tests, elements, conditions.
-/
namespace Go.Proofs.Ytfliaomdedfleaa
open Go.Eng
set_option linter.unusedVariables false
set_option linter.unusedSimpArgs false
set_option linter.unnecessarySimpa false
set_option maxRecDepth 100000

theorem progOwn : ownKnob Try.prog.godebug = none := by kernel_rfl
theorem progLaid : laidOutB Try.prog = true := by kernel_rfl

section
variable {w : World}

theorem szInt : Try.prog.cellsOf 3 = 1 := by kernel_rfl
theorem szBool : Try.prog.cellsOf 4 = 1 := by kernel_rfl
theorem szString : Try.prog.cellsOf 9 = 1 := by kernel_rfl
theorem szSym : Try.prog.cellsOf 23 = 3 := by kernel_rfl
theorem szSyms : Try.prog.cellsOf 28 = 1 := by kernel_rfl
theorem szTest : Try.prog.cellsOf 30 = 6 := by kernel_rfl
theorem szTests : Try.prog.cellsOf 42 = 1 := by kernel_rfl
theorem szCond : Try.prog.cellsOf 45 = 7 := by kernel_rfl
theorem szConds : Try.prog.cellsOf 43 = 1 := by kernel_rfl

theorem rdSym (n : Nat) (cs : List Value) (h : Reads Try.prog w n 23 cs) : ∃ s : Sym, RepC (Zall w) s.pv cs ∧ True := by
  obtain ⟨m, rfl, hl, hf⟩ := h.struct Try.underlying23
  rw [szSym] at hl
  obtain ⟨i0, e0, _⟩ := (fldR hf 0 0 szInt rfl rfl rfl).pint Try.underlying3
  obtain ⟨i1, e1, _⟩ := (fldR hf 1 1 szString rfl rfl rfl).pstr Try.underlying9
  obtain ⟨i2, e2, _⟩ := (fldR hf 2 2 szInt rfl rfl rfl).pint Try.underlying3
  match cs, hl with
  | [x0, x1, x2], _ => exact ⟨⟨_, _, _⟩, (e0.append e1).append e2, trivial⟩

theorem rdSyms (n : Nat) (cs : List Value) (h : Reads Try.prog w n 28 cs) : ∃ l : List Sym, RepC (Zall w) [.list 3 .sh (l.map Sym.pv)] cs ∧ (∀ s ∈ l, True) ∧ l.length ≤ maxLen :=
  h.plist Try.underlying28 szSym (by omega) fun m cs _ hr => rdSym m cs hr

theorem rdTest (n : Nat) (cs : List Value) (h : Reads Try.prog w n 30 cs) : ∃ t : Test, RepC (Zall w) t.pv cs ∧ True := by
  obtain ⟨m, rfl, hl, hf⟩ := h.struct Try.underlying30
  rw [szTest] at hl
  obtain ⟨i0, e0, _⟩ := (fldR hf 0 0 szInt rfl rfl rfl).pint Try.underlying3
  obtain ⟨i1, e1, _⟩ := (fldR hf 1 1 szString rfl rfl rfl).pstr Try.underlying9
  obtain ⟨s, e2, _⟩ := rdSym _ _ (fldR hf 2 2 szSym rfl rfl rfl)
  obtain ⟨l, e3, _⟩ := rdSyms _ _ (fldR hf 3 5 szSyms rfl rfl rfl)
  match cs, hl with
  | [x0, x1, x2, x3, x4, x5], _ => exact ⟨⟨_, _, s, l⟩, ((e0.append e1).append e2).append e3, trivial⟩

theorem rdTests (n : Nat) (cs : List Value) (h : Reads Try.prog w n 42 cs) : ∃ l : List Test, RepC (Zall w) [.list 6 .sh (l.map Test.pv)] cs ∧ (∀ s ∈ l, True) ∧ l.length ≤ maxLen :=
  h.plist Try.underlying42 szTest (by omega) fun m cs _ hr => rdTest m cs hr

theorem rdCond : ∀ (n : Nat) (cs : List Value), Reads Try.prog w n 45 cs → ∃ c : Cond, RepC (Zall w) c.pv cs ∧ True := by
  intro n
  induction n using Nat.strongRecOn with
  | ind n ih =>
    intro cs h
    obtain ⟨m, rfl, hl, hf⟩ := h.struct Try.underlying45
    rw [szCond] at hl
    obtain ⟨i0, e0, _⟩ := (fldR hf 0 0 szInt rfl rfl rfl).pint Try.underlying3
    obtain ⟨i1, e1⟩ := (fldR hf 1 1 szBool rfl rfl rfl).pbool Try.underlying4
    obtain ⟨i2, e2, _⟩ := (fldR hf 2 2 szString rfl rfl rfl).pstr Try.underlying9
    obtain ⟨a3, e3, _⟩ := rdTests _ _ (fldR hf 3 3 szTests rfl rfl rfl)
    obtain ⟨a4, e4, _⟩ := rdTests _ _ (fldR hf 4 4 szTests rfl rfl rfl)
    obtain ⟨i5, e5⟩ := (fldR hf 5 5 szBool rfl rfl rfl).pbool Try.underlying4
    obtain ⟨l, e6, _⟩ := (fldR hf 6 6 szConds rfl rfl rfl).plist (pv := Cond.pv) (Q := fun _ => True) Try.underlying43 szCond (by omega) fun m' cs' hm hr => ih m' (by omega) cs' hr
    match cs, hl with
    | [x0, x1, x2, x3, x4, x5, x6], _ =>
      refine ⟨.mk i0 i1 i2 a3 a4 i5 l, ?_, trivial⟩
      rw [Cond.pv_eq]
      exact (((((e0.append e1).append e2).append e3).append e4).append e5).append e6

theorem rdConds (n : Nat) (cs : List Value) (h : Reads Try.prog w n 43 cs) : ∃ l : List Cond, RepC (Zall w) [.list 7 .sh (l.map Cond.pv)] cs ∧ (∀ s ∈ l, True) ∧ l.length ≤ maxLen :=
  h.plist Try.underlying43 szCond (by omega) fun m cs _ hr => rdCond m cs hr

end
end Go.Proofs.Ytfliaomdedfleaa

/-
  The program's types, opened: elements.
-/
namespace Go.Proofs.Ytfliaomdedfleaa
open Go.Eng
set_option linter.unusedVariables false
set_option linter.unusedSimpArgs false
set_option linter.unnecessarySimpa false
set_option maxRecDepth 100000

section
variable {w : World}

theorem szElem : Try.prog.cellsOf 47 = 12 := by kernel_rfl

theorem rdElem (n : Nat) (cs : List Value) (h : Reads Try.prog w n 47 cs) : ∃ s : Elem, RepC (Zall w) s.pv cs ∧ True := by
  obtain ⟨m, rfl, hl, hf⟩ := h.struct Try.underlying47
  rw [szElem] at hl
  obtain ⟨a, e0, _⟩ := rdSym _ _ (fldR hf 0 0 szSym rfl rfl rfl)
  obtain ⟨b, e1, _⟩ := rdSym _ _ (fldR hf 1 3 szSym rfl rfl rfl)
  obtain ⟨c, e2, _⟩ := rdSym _ _ (fldR hf 2 6 szSym rfl rfl rfl)
  obtain ⟨i3, e3⟩ := (fldR hf 3 9 szBool rfl rfl rfl).pbool Try.underlying4
  obtain ⟨i4, e4⟩ := (fldR hf 4 10 szBool rfl rfl rfl).pbool Try.underlying4
  obtain ⟨i5, e5, _⟩ := (fldR hf 5 11 szInt rfl rfl rfl).pint Try.underlying3
  match cs, hl with
  | [x0, x1, x2, x3, x4, x5, x6, x7, x8, x9, x10, x11], _ => exact ⟨⟨a, b, c, _, _, _⟩, ((((e0.append e1).append e2).append e3).append e4).append e5, trivial⟩

end
end Go.Proofs.Ytfliaomdedfleaa

/-
  Conditions of any size: as they are read; whether they are more than is played.
-/
namespace Go.Proofs.Ytfliaomdedfleaa
open Go.Eng Go.RowKit
set_option linter.unusedVariables false
set_option linter.unusedSimpArgs false
set_option linter.unnecessarySimpa false
set_option maxRecDepth 100000

/-- No list of inner conditions is longer than a list may be. -/
inductive BigC : Cond → Prop where
  | mk (c : Cond) (h : c.conds.length ≤ maxLen) (h2 : ∀ d ∈ c.conds, BigC d) : BigC c

section
variable {w : World}

theorem szBind : Try.prog.cellsOf 34 = 4 := by kernel_rfl

theorem rdBind (n : Nat) (cs : List Value) (h : Reads Try.prog w n 34 cs) : ∃ s : Eng.Bind, RepC (Zall w) s.pv cs ∧ True := by
  obtain ⟨m, rfl, hl, hf⟩ := h.struct Try.underlying34
  rw [szBind] at hl
  obtain ⟨i0, e0, _⟩ := (fldR hf 0 0 szString rfl rfl rfl).pstr Try.underlying9
  obtain ⟨a, e1, _⟩ := rdSym _ _ (fldR hf 1 1 szSym rfl rfl rfl)
  match cs, hl with
  | [x0, x1, x2, x3], _ => exact ⟨⟨_, a⟩, e0.append e1, trivial⟩

theorem rdCondW : ∀ (n : Nat) (cs : List Value), Reads Try.prog w n 45 cs → ∃ c : Cond, RepC (Zall w) c.pv cs ∧ BigC c := by
  intro n
  induction n using Nat.strongRecOn with
  | ind n ih =>
    intro cs h
    obtain ⟨m, rfl, hl, hf⟩ := h.struct Try.underlying45
    rw [szCond] at hl
    obtain ⟨i0, e0, _⟩ := (fldR hf 0 0 szInt rfl rfl rfl).pint Try.underlying3
    obtain ⟨i1, e1⟩ := (fldR hf 1 1 szBool rfl rfl rfl).pbool Try.underlying4
    obtain ⟨i2, e2, _⟩ := (fldR hf 2 2 szString rfl rfl rfl).pstr Try.underlying9
    obtain ⟨a3, e3, _⟩ := rdTests _ _ (fldR hf 3 3 szTests rfl rfl rfl)
    obtain ⟨a4, e4, _⟩ := rdTests _ _ (fldR hf 4 4 szTests rfl rfl rfl)
    obtain ⟨i5, e5⟩ := (fldR hf 5 5 szBool rfl rfl rfl).pbool Try.underlying4
    obtain ⟨l, e6, h6, h7⟩ := (fldR hf 6 6 szConds rfl rfl rfl).plist (pv := Cond.pv) (Q := BigC) Try.underlying43 szCond (by omega) fun m' cs' hm hr => ih m' (by omega) cs' hr
    match cs, hl with
    | [x0, x1, x2, x3, x4, x5, x6], _ =>
      refine ⟨.mk i0 i1 i2 a3 a4 i5 l, ?_, .mk _ h7 h6⟩
      rw [Cond.pv_eq]
      exact (((((e0.append e1).append e2).append e3).append e4).append e5).append e6
end

theorem cHeavyCondsW : ∀ (c : Cond), BigC c → ∀ fl : Fl, PureK Try.prog 30 [.list 7 fl (c.conds.map Cond.pv)] fun p => ∃ q : Bool, p = pB q ∧ (q = false → lightL c.conds) := by
  intro c hc
  induction hc with
  | mk c hlen hin ih =>
    intro fl
    refine PureK.of (G_ponderkeep_HeavyConds.c ?_)
    have h62 : c.conds.length < 9223372036854775808 := by
      have : maxLen < 9223372036854775808 := by decide
      omega
    refine LoopI.each (n := c.conds.length) h62 (fun k u => ∀ d ∈ c.conds.take k, lightC d) (by simp) ?_ ?_
    · intro k u next hk hg hnext
      have yes : ∃ q : Bool, wk (pB true) = pB q ∧ (q = false → lightL c.conds) := ⟨true, rfl, fun h => by cases h⟩
      refine CIf.t (by simpa using hk) ⟨by omega, _, atRow hk, _, _, _, _, _, _, _, _, _, _, by rw [Cond.pv_eq]; rfl, CIf.mk (fun _ => yes) (fun a1 => CIf.mk (fun _ => yes) (fun a2 => CIf.mk (fun _ => yes) (fun a3 => ?_)))⟩
      have a1 := of_decide_eq_false a1
      have a2 := of_decide_eq_false a2
      have a3 := of_decide_eq_false a3
      simp only [List.length_map] at a2 a3
      refine (cHeavyTests .sh c.conds[k].attr (by omega)).call ?_
      rintro _ ⟨q1, rfl, hq1⟩
      refine ⟨_, rfl, CIf.mk (fun _ => yes) (fun b1 => (cHeavyTests .sh c.conds[k].value (by omega)).call ?_)⟩
      rintro _ ⟨q2, rfl, hq2⟩
      refine ⟨_, rfl, CIf.mk (fun _ => yes) (fun b2 => (ih c.conds[k] (List.getElem_mem hk) .sh).call ?_)⟩
      rintro _ ⟨q3, rfl, hq3⟩
      refine ⟨_, rfl, CIf.mk (fun _ => yes) (fun b3 => hnext _ ?_)⟩
      intro d hd
      rw [List.take_add_one, List.getElem?_eq_getElem hk, List.mem_append] at hd
      rcases hd with hd | hd
      · exact hg d hd
      · simp only [Option.toList_some, List.mem_singleton] at hd
        subst hd
        exact (lightC_eq _).2 ⟨by omega, by omega, by omega, hq1 b1, hq2 b2, hq3 b3⟩
    · intro u next hg
      rw [List.take_length] at hg
      exact CIf.f (by simp) ⟨false, rfl, fun _ => lightL_iff.2 hg⟩

/-- The same, of one condition. -/
theorem cHeavyCond1 (c : Cond) (hc : BigC c) (fl : Fl) : PureK Try.prog 30 [.list 7 fl [c.pv]] fun p => ∃ q : Bool, p = pB q ∧ (q = false → lightC c) := by
  refine (cHeavyCondsW (.mk 0 false ⟨#[]⟩ [] [] false [c]) (.mk _ (by show 1 ≤ maxLen; decide) fun d hd => by simp [Cond.conds] at hd; subst hd; exact hc) fl).mono ?_
  rintro _ ⟨q, rfl, h⟩
  exact ⟨q, rfl, fun hq => (h hq).1⟩

end Go.Proofs.Ytfliaomdedfleaa

/-
  The law TestSome.
-/
namespace Go.Proofs.Ytfliaomdedfleaa
open Go.Eng Go.RowKit
set_option linter.unusedVariables false
set_option linter.unusedSimpArgs false
set_option linter.unnecessarySimpa false

theorem cOfE (f : Fl) (l : List Elem) : Pure Try.prog 23 [.list 12 f (l.map Elem.pv)] (.fn (.func 35) [] [.fptr [.list 12 .sh (l.map Elem.pv)] 0]) := PureK.of (G_ponderkeep_Of_api_Elem.c rfl)

theorem seqOfE (l : List Elem) (hl : l.length ≤ 1000000) : SeqO Try.prog (.fn (.func 35) [] [.fptr [.list 12 .sh (l.map Elem.pv)] 0]) (l.map fun e => [.agg e.pv]) (fun _ => True) (fun _ => True) := by
  refine SeqO.ofP (SeqP.mk fun fy ya yb I S μ hy h0 hstep => ?_)
  show CallP _ _ [.fn fy ya yb, .fptr [.list 12 .sh (l.map Elem.pv)] 0] _ _
  refine G_ponderkeep_Of_api_Elem_1.c ?_
  refine LoopI.each (n := l.length) (by omega) (fun k u => I k u) h0 ?_ ?_
  · intro k u next hk hI hnext
    refine ⟨_, _, rfl, CIf.t (by simpa using hk) ⟨_, _, rfl, by omega, _, atRow hk, _, _, _, _, _, _, _, _, _, _, _, _, rfl, ?_⟩⟩
    have hs := hstep k (by simpa using hk) u hI
    rw [List.getElem_map] at hs
    refine CallVP.mono hs fun v μ' h => ?_
    rcases h with ⟨rfl, h⟩ | ⟨rfl, h⟩
    · exact ⟨_, rfl, CIf.f rfl (hnext _ h)⟩
    · exact ⟨_, rfl, CIf.t rfl (.inr h)⟩
  · intro u next hI
    refine ⟨_, _, rfl, CIf.f (by simp) (.inl ?_)⟩
    simpa using hI

theorem cOne (fl fl2 : Fl) (t : Test) (s : Sym) (l : List Eng.Bind) (hn : l.length ≤ 1000000) (ht : t.list.length ≤ 1000000) : Pure Try.prog 14 [.agg [pI t.rel, pS t.var, pI t.sym.k, pS t.sym.t, pI t.sym.n, .list 3 fl2 (t.list.map Sym.pv)], .agg s.pv, .list 4 fl (l.map Bind.pv)] (ansP (met t s l)) := by
  refine PureK.of (G_test_One.c ((cMet fl t s l hn ht).call ?_))
  rintro _ ⟨l1, rfl, h1⟩
  refine ⟨_, _, _, rfl, ?_⟩
  cases hm : met t s l with
  | none => exact CIf.t rfl rfl
  | some r =>
    obtain rfl := h1 r hm
    have := met_len hm
    exact CIf.f rfl ((cOwn _ l1 (by omega)).call ⟨_, _, rfl, rfl⟩)

theorem cI9 (t : ByteArray) (n : Int) : Pure Try.prog 25 [pS t, pI n] (.agg [pI 1, pS t, pI n]) := PureK.of (G_ponderlaw09_I.c rfl)
theorem cW9' (t : ByteArray) : Pure Try.prog 26 [pS t] (.agg [pI 3, pS t, pI 0]) := PureK.of (G_ponderlaw09_W.c rfl)

theorem cWakes9 : Pure Try.prog 11 [] (pB true) := by
  refine PureK.of (G_ponderlaw09_wakes.c ((cI9 _ _).call ⟨_, _, _, rfl, (cI9 _ _).call ⟨_, _, _, rfl, ?_⟩⟩))
  refine (cOne .nr .sh ⟨2, ⟨#[120]⟩, ⟨0, ⟨#[]⟩, 0⟩, []⟩ ⟨1, ⟨#[83]⟩, 1⟩ [⟨⟨#[120]⟩, ⟨1, ⟨#[83]⟩, 2⟩⟩] (by decide) (by decide)).call ?_
  have e1 : met ⟨2, ⟨#[120]⟩, ⟨0, ⟨#[]⟩, 0⟩, []⟩ ⟨1, ⟨#[83]⟩, 1⟩ [⟨⟨#[120]⟩, ⟨1, ⟨#[83]⟩, 2⟩⟩] = some [⟨⟨#[120]⟩, ⟨1, ⟨#[83]⟩, 2⟩⟩] := by kernel_rfl
  rw [e1]
  refine ⟨_, _, _, rfl, (cW9' _).call ⟨_, _, _, rfl, (cI9 _ _).q ⟨_, _, _, rfl, (cW9' _).q ⟨_, _, _, rfl, (cI9 _ _).q ⟨_, _, _, rfl, ?_⟩⟩⟩⟩⟩
  refine (cCond' .sh .sh .sh .nil (.mk 1 false ⟨#[115]⟩ [⟨1, ⟨#[]⟩, ⟨3, ⟨#[120]⟩, 0⟩, []⟩] [⟨1, ⟨#[115]⟩, ⟨0, ⟨#[]⟩, 0⟩, []⟩] false []) ⟨⟨1, ⟨#[83]⟩, 1⟩, ⟨3, ⟨#[120]⟩, 0⟩, ⟨1, ⟨#[83]⟩, 1⟩, false, false, 0⟩ [] (by decide) (by simp [Cond.attr]) (by simp [Cond.value])).call ?_
  have e2 : condS (.mk 1 false ⟨#[115]⟩ [⟨1, ⟨#[]⟩, ⟨3, ⟨#[120]⟩, 0⟩, []⟩] [⟨1, ⟨#[115]⟩, ⟨0, ⟨#[]⟩, 0⟩, []⟩] false []) ⟨⟨1, ⟨#[83]⟩, 1⟩, ⟨3, ⟨#[120]⟩, 0⟩, ⟨1, ⟨#[83]⟩, 1⟩, false, false, 0⟩ [] = some [⟨⟨#[115]⟩, ⟨1, ⟨#[83]⟩, 1⟩⟩] := by kernel_rfl
  rw [e2]
  refine ⟨_, _, _, rfl, CIf.t rfl (CIf.t rfl (CIf.t rfl ⟨by omega, _, rfl, _, _, _, rfl, (cI9 _ _).q ⟨_, _, _, rfl, by show wk _ = pB true; kernel_rfl⟩⟩))⟩

theorem cHeavy9 (c : Cond) (hc : BigC c) (fl : Fl) (l : List Eng.Bind) : PureK Try.prog 19 [.agg [pI c.kind, pB c.goal, pS c.id, .list 6 .sh (c.attr.map Test.pv), .list 6 .sh (c.value.map Test.pv), pB c.acc, .list 7 .sh (c.conds.map Cond.pv)], .list 4 fl (l.map Bind.pv)] fun p => ∃ q : Bool, p = pB q ∧ (q = false → l.length ≤ 40 ∧ lightC c) := by
  refine PureK.of (G_ponderlaw09_heavy.c ?_)
  have yes : ∃ q : Bool, wk (pB true) = pB q ∧ (q = false → l.length ≤ 40 ∧ lightC c) := ⟨true, rfl, fun h => by cases h⟩
  refine CIf.mk (fun _ => yes) (fun h1 => CIf.mk (fun _ => yes) (fun h2 => CIf.mk (fun _ => yes) (fun h3 => ?_)))
  have h1 := of_decide_eq_false h1
  simp only [List.length_map] at h1
  have e : ∀ f, PV.list 7 f [[pI c.kind, pB c.goal, pS c.id, .list 6 .sh (c.attr.map Test.pv), .list 6 .sh (c.value.map Test.pv), pB c.acc, .list 7 .sh (c.conds.map Cond.pv)]] = .list 7 f [c.pv] := fun f => by rw [Cond.pv_eq]
  rw [e]
  refine (cHeavyCond1 c hc .nr).call ?_
  rintro _ ⟨q, rfl, hq⟩
  refine ⟨_, rfl, CIf.mk (fun _ => yes) (fun hf => (cKSize _ .nr [c] 20 0 (Nat.le_refl _) (by omega) (by omega)).call ?_)⟩
  rintro _ ⟨r, rfl, _⟩
  exact ⟨_, rfl, _, rfl, fun _ => ⟨by omega, hq hf⟩⟩

theorem qBinds (f g : Fl) (l m : List Eng.Bind) (hl : l.length ≤ 1000000000) : Asks 16 [.list 4 f (l.map Bind.pv), .list 4 g (m.map Bind.pv)] (l = m) := by
  refine PureK.of (G_ponderkeep_Binds.c (CIf.mk (fun h => Asks.no (neLen h)) (fun h => ?_)))
  refine eqLoop (l := l) (m := m) (n := l.length) rfl (eqLen h) (by omega) (fun k hk hk' u next hy hno => ?_) (fun u next e => CIf.f (by simp) (Asks.yes e))
  refine CIf.t (by simpa using hk) ⟨by omega, _, atRow hk, _, _, _, _, rfl, by omega, _, atRow hk', _, _, _, _, rfl, CIf.mk (fun h => Asks.no (hno fun e => ?_)) (fun h => hy (bindEq_iff.1 (nt h)) _)⟩
  have h' : bindEq l[k] m[k] = false := nb h
  rw [bindEq_iff.2 e] at h'; cases h'

abbrev tI : TypeId := 3
abbrev tB : TypeId := 4
abbrev eRow (x : Elem × List Eng.Bind) : List PV := x.1.pv
abbrev bRow (x : Elem × List Eng.Bind) : List PV := [.list 4 .sh (x.2.map Bind.pv)]

/-- The bindings are written into, and let go. -/
theorem spoilB {a : Option Addr} {k2 : Nat} {r : List Eng.Bind} (hr : r.length ≤ 1000000) {L : List Asn} {u : Mem} (hO : Ow (BVec (.raw (.slice a r.length k2)) r :: L) u) {K : Mem → Prop} (hk : ∀ u', Ow L u' → K u') :
    LoopI (α := Int) (fun next s u => CIf (decide ((s : Int) < ((r.length : Nat) : Int))) (withSl a fun b o => (0 : Int) ≤ s ∧ s < ((r.length : Nat) : Int) ∧ stM b (o + Int.toNat s * 4) [pS ⟨#[103, 111, 110, 101]⟩] u fun u' => next (IntKind.wrap .i64 (s + 1)) u') (K u)) 0 u := by
  refine LoopI.each (n := r.length) (by omega) (fun i u => ∃ rows : List (List PV), rows.length = r.length ∧ (∀ x ∈ rows, x.length = 4) ∧ Ow (Vec 34 4 (.raw (.slice a r.length k2)) rows :: L) u) ⟨_, by simp, bLen r, hO⟩ ?_ ?_
  · rintro i u next hi ⟨rows, h1, h2, hO⟩ hnext
    obtain ⟨b, rfl, _, hst⟩ := Vec.at_ 0 hO rfl h2 (j := i) (by omega)
    refine CIf.t (by simpa using hi) ⟨by omega, by omega, ?_⟩
    rw [Int.toNat_natCast]
    have hl : rows[i].length = 4 := h2 _ (List.getElem_mem (by omega))
    refine hst 0 [pS ⟨#[103, 111, 110, 101]⟩] _ (by simp) fun u' h => hnext _ ⟨_, by rw [List.length_set]; exact h1, fun x hx => ?_, h⟩
    rcases List.mem_or_eq_of_mem_set hx with h | rfl
    · exact h2 x h
    · unfold wrL; simp only [List.length_append, List.length_take, List.length_drop, List.length_cons, List.length_nil]; omega
  · rintro u next ⟨rows, h1, h2, hO⟩
    exact CIf.f (by simp) (hk _ hO.drop)

theorem cTestSome (c : Cond) (hc : BigC c) (es : List Elem) (_ : (∀ s ∈ es, True) ∧ es.length ≤ maxLen) (l : List Eng.Bind) (_ : (∀ s ∈ l, True) ∧ l.length ≤ maxLen) (n : Int) : Pure Try.prog 8 [.agg c.pv, .list 12 .sh (es.map Elem.pv), .list 4 .sh (l.map Bind.pv), pI n] (pB true) := by
  rw [Cond.pv_eq]
  refine PureK.of (G_ponderlaw09_TestSome.c fun b7 h7 b8 h8 => ?_)
  have O1 := (Ow.new (L := []) tI [pI n] trivial h7).new tB [pB false] h8
  refine ⟨fun s u => (s = false → l.length ≤ 40 ∧ lightC c ∧ es.length ≤ 40) ∧ Ow [Pt b8 tB [pB false], Pt b7 tI [pI n]] u, ?_, ?_⟩
  · refine (cHeavy9 c hc .sh l).call ?_
    rintro _ ⟨q, rfl, hq⟩
    refine ⟨_, rfl, CIf.mk (fun h => ⟨(fun h => by cases h), O1⟩) (fun h => ⟨fun h2 => ?_, O1⟩)⟩
    simp only [List.length_map, decide_eq_false_iff_not] at h2
    exact ⟨(hq h).1, (hq h).2, by omega⟩
  rintro s u ⟨hs, hO⟩
  refine CIf.mk (fun h => cWakes9.call ⟨_, rfl, hO.st 0 rfl (by simp) fun u1 O => ⟨_, O.rd 0 rfl (by simp [wrL]), rfl⟩⟩) (fun h => ?_)
  obtain ⟨hl, hlc, hes⟩ := hs h
  obtain ⟨_, c1, c2, c3, c4, _⟩ := (lightC_eq c).1 hlc
  have hn1 : l.length + 1 + c.attr.length + c.value.length ≤ 1000000 := by omega
  have ha : ∀ t ∈ c.attr, t.list.length ≤ 1000000 := fun t ht => by have := (c3 t ht).1; omega
  have hv : ∀ t ∈ c.value, t.list.length ≤ 1000000 := fun t ht => by have := (c4 t ht).1; omega
  intro b9 h9 b10 h10
  have O2 := (hO.new 51 [.list 12 .nil []] h9).new 52 [.list 1 .nil []] h10
  refine LoopI.each (n := es.length) (by omega) (fun k u => ∃ fr fb, Ow [Tip fr (someL c l (es.take k)).length 12, Tip fb (someL c l (es.take k)).length 1, Pt b10 52 [.list 1 fb ((someL c l (es.take k)).map bRow)], Pt b9 51 [.list 12 fr ((someL c l (es.take k)).map eRow)], Pt b8 tB [pB false], Pt b7 tI [pI n]] u) ⟨.nil, .nil, Ow.nil (Ow.nil O2 (.inl rfl)) (.inl rfl)⟩ ?_ ?_
  · rintro k u next hk ⟨fr, fb, hO⟩ hnext
    have htk := someL_take (c := c) (l := l) (es := es) hk
    have hlk : (someL c l (es.take k)).length ≤ 40 := by
      have := someL_len (c := c) (l := l) (es := es.take k)
      rw [List.length_take] at this; omega
    refine CIf.t (by simpa using hk) ⟨by omega, _, atRow hk, _, _, _, _, _, _, _, _, _, _, _, _, rfl, (cRCond9 .sh .sh .sh .sh c es[k] l hn1 ha hv).call ?_⟩
    rintro _ ⟨l', rfl, hl'⟩
    refine ⟨_, _, _, rfl, ?_⟩
    cases hc : condS c es[k] l with
    | none =>
      refine CIf.f rfl (hnext _ ⟨fr, fb, ?_⟩)
      rw [htk, hc]; simpa using hO
    | some r =>
      obtain rfl := hl' r hc
      refine CIf.t rfl ⟨_, _, hO.rd 3 rfl (by simp), by omega, _, atRow hk, _, _, _, _, _, _, _, _, _, _, _, _, rfl, ?_⟩
      refine Ow.app hO (by simp) (by simp only [List.length_singleton]; omega) (by simp only [List.length_singleton]; omega) fun fr' u1 O3 => ?_
      refine O3.st 3 rfl (by simp) fun u2 O4 => ⟨_, _, O4.rd 2 rfl (by simp), ?_⟩
      refine Ow.app O4.swap (by simp) (by simp only [List.length_singleton]; omega) (by simp only [List.length_singleton]; omega) fun fb' u3 O5 => ?_
      refine O5.st 2 rfl (by simp) fun u4 O6 => hnext _ ⟨fr', fb', ?_⟩
      rw [htk, hc]
      simp only [Option.map_some, Option.toList_some, List.length_append, List.map_append]
      exact Ow.swap O6
  rintro u next ⟨fr, fb, hO⟩
  rw [List.take_length] at hO
  refine CIf.f (by simp) fun b14 h14 => ?_
  generalize hrs : someL c l es = rs at hO
  have hrl : rs.length ≤ 40 := by rw [← hrs]; have := someL_len (c := c) (l := l) (es := es); omega
  have hrb : ∀ x ∈ rs, x.2.length ≤ 1000 := fun x hx => by
    rw [← hrs] at hx
    obtain ⟨e, _, he⟩ := List.mem_filterMap.1 hx
    cases hce : condS c e l with
    | none => rw [hce] at he; cases he
    | some r =>
      rw [hce] at he
      simp only [Option.map_some, Option.some.injEq] at he
      subst he
      have := condS_len hce
      show r.length ≤ 1000
      omega
  refine (hO.new tI [pI 0] h14).st 0 rfl (by simp) fun u10 O3 => (cOfE .sh es).q ⟨_, _, _, rfl, ?_⟩
  rw [Mem.or_M0]
  have hsq := seqSome (c := c) (l := l) (seqOfE es (by omega)) hn1 ha hv
  rw [hrs] at hsq
  refine (cSome _ _ _ c .sh .sh .sh .sh l (by omega)).call ⟨_, _, _, rfl, ?_⟩
  have O4 : Ow [Pt b14 tI [pI 0], Pt b10 52 [.list 1 fb (rs.map bRow)], Pt b9 51 [.list 12 fr (rs.map eRow)], Pt b8 tB [pB false], Pt b7 tI [pI n]] u10 := O3.tail fun _ h => h.drop.drop
  refine RangeP.ownW hsq (addT O4) (fun k u => Ow [Pt b14 tI [pI (k : Nat)], Pt b10 52 [.list 1 fb (rs.map bRow)], Pt b9 51 [.list 12 fr (rs.map eRow)], Pt b8 tB [pB false], Pt b7 tI [pI n]] u) (fun _ _ => False) (fun k => UpC.own _) (fun _ _ _ _ h => h.elim) (fun μ' h => h.drop) ?_ ?_ (fun _ _ h => h.elim)
  · intro k hk vs u1 R hO hnone _
    have hk' : k < rs.length := by simpa using hk
    rw [List.getElem_map] at hO
    obtain ⟨a, hO⟩ := Ow.ex hO
    obtain ⟨k2, hO⟩ := Ow.ex hO
    obtain ⟨hvs, hO1⟩ := Ow.and hO
    subst hvs
    clear hO
    have hO : Ow (BVec (.raw (.slice a rs[k].2.length k2)) rs[k].2 :: [Pt b14 tI [pI (k : Nat)], Pt b10 52 [.list 1 fb (rs.map bRow)], Pt b9 51 [.list 12 fr (rs.map eRow)], Pt b8 tB [pB false], Pt b7 tI [pI n]]) u1 := hO1.tail fun _ h => h.ones
    have hbk := hrb _ (List.getElem_mem hk')
    refine ⟨_, _, _, _, _, _, _, _, _, _, _, _, _, _, _, rfl, _, hO.rd 1 rfl (by simp), _, _, hO.rd 3 rfl (by simp), CIf.f (by simp; omega) ⟨_, _, hO.rd 3 rfl (by simp), _, hO.rd 1 rfl (by simp), by omega, _, atRow hk', _, _, _, _, _, _, _, _, _, _, _, _, rfl, CIf.f (by simp [strEq_self]) ⟨_, _, hO.rd 2 rfl (by simp), _, hO.rd 1 rfl (by simp), by omega, _, atRow hk', _, _, rfl, ?_⟩⟩⟩
    refine CallP.view (args' := [.list 4 .sh (rs[k].2.map Bind.pv), .list 4 .sh (rs[k].2.map Bind.pv)]) (qBinds .sh .sh rs[k].2 rs[k].2 (by omega)) rfl (fun i p q hp hq => ?_) (fun p ⟨q, e, _⟩ => by rw [e]; rfl) ?_
    · match i with
      | 0 => simp only [List.getElem?_cons_zero, Option.some.injEq] at hp hq; subst hp hq; exact ⟨Vec.view 0 hO rfl (bLen _) (bCell _), rfl⟩
      | 1 => simp only [List.getElem?_cons_zero, List.getElem?_cons_succ, Option.some.injEq] at hp hq; subst hp hq; exact ⟨.same _, rfl⟩
      | i + 2 => simp at hp
    · rintro _ ⟨q, rfl, hq⟩
      obtain rfl : q = true := hq.2 rfl
      refine ⟨_, rfl, CIf.f rfl (spoilB (by omega) hO fun u2 O => ⟨_, O.rd 0 rfl (by simp), O.st 0 rfl (by simp) fun u3 O2 => hnone _ ?_⟩)⟩
      have e : IntKind.wrap .i64 (((k : Nat) : Int) + 1) = ((k + 1 : Nat) : Int) := by rw [wrap_id (by omega) (by omega)]; omega
      rw [e] at O2
      exact O2
  · intro u1 hO
    simp only [List.length_map] at hO
    have hm : withinV n (rs.length + 1) < rs.length + 1 := withinV_lt n (by omega)
    have e1 : IntKind.wrap .i64 ((((rs.map eRow).length : Nat) : Int) + 1) = ((rs.length + 1 : Nat) : Int) := by rw [List.length_map, wrap_id (by omega) (by omega)]; omega
    refine ⟨_, hO.rd 4 rfl (by simp), _, _, hO.rd 2 rfl (by simp), ?_⟩
    rw [e1]
    refine (cWithinV n (rs.length + 1) (by omega) (by omega)).call ⟨_, rfl, hO.st 4 rfl (by simp) fun u2 O2 => fun b19 h19 => ?_⟩
    generalize hmm : withinV n (rs.length + 1) = m at hm O2
    refine (Ow.new tI [pI 0] O2 h19).st 0 rfl (by simp) fun u3 O3 => ?_
    refine ⟨fun _ u => Ow [Pt b19 tI [pI (m : Nat)], Pt b14 tI [pI (rs.length : Nat)], Pt b10 52 [.list 1 fb (rs.map bRow)], Pt b9 51 [.list 12 fr (rs.map eRow)], Pt b8 tB [pB false], Pt b7 tI [pI (m : Nat)]] u, ?_, ?_⟩
    · refine RangeP.ownW hsq (addT O3) (fun k u => k ≤ m ∧ Ow [Pt b19 tI [pI (k : Nat)], Pt b14 tI [pI (rs.length : Nat)], Pt b10 52 [.list 1 fb (rs.map bRow)], Pt b9 51 [.list 12 fr (rs.map eRow)], Pt b8 tB [pB false], Pt b7 tI [pI (m : Nat)]] u) (fun cd u => cd = .exit 6 ∧ Ow [Pt b19 tI [pI (m : Nat)], Pt b14 tI [pI (rs.length : Nat)], Pt b10 52 [.list 1 fb (rs.map bRow)], Pt b9 51 [.list 12 fr (rs.map eRow)], Pt b8 tB [pB false], Pt b7 tI [pI (m : Nat)]] u) (fun k => UpC.and (UpC.own _)) (fun _ => UpC.and (UpC.own _)) (fun μ' h => ⟨Nat.zero_le _, h.drop⟩) ?_ ?_ ?_
      · intro k hk vs u4 R hO hnone hsome
        have hk' : k < rs.length := by simpa using hk
        rw [List.getElem_map] at hO
        obtain ⟨a, hO⟩ := Ow.ex hO
        obtain ⟨k2, hO⟩ := Ow.ex hO
        obtain ⟨hvs, hO1⟩ := Ow.and hO
        subst hvs
        clear hO
        obtain ⟨hkm, hO2⟩ := Ow.and hO1.drop
        have hO := hO2.ones
        refine ⟨_, _, _, _, _, _, _, _, _, _, _, _, _, _, _, rfl, _, hO.rd 0 rfl (by simp), _, hO.rd 5 rfl (by simp), CIf.mk (fun h => ?_) (fun h => ⟨_, hO.rd 0 rfl (by simp), hO.st 0 rfl (by simp) fun u5 O5 => hnone _ ?_⟩)⟩
        · have : k = m := by have : ((k : Nat) : Int) = m := by simpa using h
                             omega
          subst this
          exact hsome _ _ ⟨rfl, hO⟩
        · have hne : k ≠ m := fun e => by subst e; simp at h
          have e : IntKind.wrap .i64 (((k : Nat) : Int) + 1) = ((k + 1 : Nat) : Int) := by rw [wrap_id (by omega) (by omega)]; omega
          rw [e] at O5
          exact ⟨by omega, O5⟩
      · rintro u4 ⟨hkm, hO⟩
        simp only [List.length_map] at hkm hO
        have : m = rs.length := by omega
        subst this
        exact hO
      · rintro cd u4 ⟨rfl, hO⟩
        exact hO
    · intro _ u4 hO
      refine ⟨_, hO.rd 1 rfl (by simp), _, _, hO.rd 3 rfl (by simp), CIf.t (by simp) ⟨_, hO.rd 0 rfl (by simp), _, hO.rd 5 rfl (by simp), CIf.t (by simp) (cWakes9.call ⟨_, rfl, hO.st 4 rfl (by simp) fun u5 O5 => ⟨_, O5.rd 4 rfl (by simp [wrL]), rfl⟩⟩)⟩⟩

end Go.Proofs.Ytfliaomdedfleaa

namespace Go.Proofs.Ytfliaomdedfleaa
open Go.ChangeShapes Go.WideShapes Go.ChangeAt Go.RowKit Go.Eng
set_option linter.unusedVariables false

set_option maxRecDepth 100000 in
theorem TestSome.lifted (os : Os) (started : os.Started) (H : Type) (enc : TypeId × Value → H) :
    ReturnsInHanded {} Try.checked os 8 .any (Rows.testSomeSpec.pre6 enc Try.prog Try.f8 Rows.testSomeRow.domain false) (Rows.testSomeSpec.post enc Try.prog Try.f8 false true false false) := by
  refine returnsInHanded_of_change (C := Try.checked) progOwn started (by kernel_rfl) Try.func8
    (ChangeSpec.witness6 (enc := enc) (C := Try.checked) false ⟨#[], #[.agg #[.int .i64 0, .bool false, .string ByteArray.empty, .slice none 0 0, .slice none 0 0, .bool false, .slice none 0 0], .slice none 0 0, .slice none 0 0, .int .i64 0], []⟩ 12 (by kernel_rfl) (by kernel_rfl) (by kernel_rfl) (by kernel_rfl)) ?_
  intro W base args ds gs before hval0 hW hcnd _
  have hval : ∀ (j : Nat) t v, Try.f8.params[j]? = some t → args[j]? = some v → Value.okWide Try.prog W .any base t v := hval0
  have hW' := hW
  obtain ⟨p, q, hA0, hV, rfl, hfz, hnd⟩ := hW
  have hA : DataW.TrodAll enc Try.prog W 0 (fun _ => true) true Try.f8.params.toList args.toList ds p := hA0
  rw [Try.params8] at hA hval
  obtain ⟨v0, vs0, d0, ds0, p0, q0, hargs, rfl, rfl, h0, r0⟩ := trodAll_cons hA
  obtain ⟨v1, vs1, d1, ds1, p1, q1, rfl, rfl, rfl, h1, r1⟩ := trodAll_cons r0
  obtain ⟨v2, vs2, d2, ds2, p2, q2, rfl, rfl, rfl, h2, r2⟩ := trodAll_cons r1
  obtain ⟨v3, vs3, d3, ds3, p3, q3, rfl, rfl, rfl, h3, r3⟩ := trodAll_cons r2
  obtain ⟨rfl, rfl, rfl⟩ := trodAll_nil r3
  obtain rfl : args = #[v0, v1, v2, v3] := by cases args; simp_all
  obtain ⟨rfl, rfl⟩ := trodVars_none hV
  have lt0 : ∀ x ∈ p0, x.block < W.heap.size := by obtain ⟨m, hm⟩ := h0; exact DataW.trod_lt m _ _ _ hm
  obtain ⟨a0, e0, w0⟩ := pargAgg Try.underlying45 rdCondW (hval 0 45 v0 rfl rfl) h0
  have lt1 : ∀ x ∈ p1, x.block < W.heap.size := by obtain ⟨m, hm⟩ := h1; exact DataW.trod_lt m _ _ _ hm
  obtain ⟨a1, e1, w1⟩ := pargList Try.underlying51 szElem (by omega) rdElem (hval 1 51 v1 rfl rfl) h1
  have lt2 : ∀ x ∈ p2, x.block < W.heap.size := by obtain ⟨m, hm⟩ := h2; exact DataW.trod_lt m _ _ _ hm
  obtain ⟨a2, e2, w2⟩ := pargList Try.underlying31 szBind (by omega) rdBind (hval 2 31 v2 rfl rfl) h2
  have lt3 : ∀ x ∈ p3, x.block < W.heap.size := by obtain ⟨m, hm⟩ := h3; exact DataW.trod_lt m _ _ _ hm
  obtain ⟨a3, e3, w3⟩ := pargInt Try.underlying3 (hval 3 3 v3 rfl rfl) h3
  clear hA0 hval0
  refine (PureK.calls (vs := [v0, v1, v2, v3]) (cTestSome a0 w0 a1 w1 a2 w2 a3) (Reps.cons rfl e0 (Reps.cons rfl e1 (Reps.cons rfl e2 (Reps.cons rfl e3 (Reps.nil _)))))).mono fun e W' ⟨⟨v, x, Z, he, hr, hx⟩, bel⟩ => ?_
  subst hx; subst he; rw [hr.ofRaw.1]
  exact ⟨_, rfl, _, _, _, [], _, [], hW', trodAll_mk1 (shut_bool Try.underlying4 _), (trodAll_cons_mk (Below.trod progLaid (by kernel_rfl) (of_decide_eq_true (by kernel_rfl)) h0 bel lt0) (trodAll_cons_mk (Below.trod progLaid (by kernel_rfl) (of_decide_eq_true (by kernel_rfl)) h1 bel lt1) (trodAll_cons_mk (Below.trod progLaid (by kernel_rfl) (of_decide_eq_true (by kernel_rfl)) h2 bel lt2) (trodAll_cons_mk (Below.trod progLaid (by kernel_rfl) (of_decide_eq_true (by kernel_rfl)) h3 bel lt3) trodAll_mk0)))), rfl, bel.frame _, fun h => by cases h⟩

theorem TestSome.proved : Rows.TestSomeSaid :=
  OpenClaim.holds_of_wide 8 Try.f8 rfl rfl rfl rfl rfl rfl rfl ⟨rfl, rfl, rfl, rfl, rfl⟩ rfl rfl rfl rfl rfl (by kernel_rfl) Try.func8 (by kernel_rfl)
    (of_decide_eq_true (by kernel_rfl)) (by unfold Func.isWrapper; first | (rw [if_pos (by decide +kernel)]; kernel_rfl) | (rw [if_neg (by decide +kernel)]; exact ⟨rfl, rfl⟩))
    (fun os started H enc _ => TestSome.lifted os started H enc)

end Go.Proofs.Ytfliaomdedfleaa
