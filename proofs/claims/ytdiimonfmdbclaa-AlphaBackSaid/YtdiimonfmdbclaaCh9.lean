import Derived.Test.YtdiimonfmdbclaaV
import Derived.Test.YtdiimonfmdbclaaCh9D
/-
  Tests: contracts of package test.
-/
namespace Go.Proofs.Ytdiimonfmdbclaa
open Go.Eng Go.RowKit
set_option linter.unusedVariables false
set_option linter.unusedSimpArgs false
set_option linter.unnecessarySimpa false

theorem cHolds (rel : Int) (a b : Sym) : Pure Try.prog 88 [pI rel, .agg a.pv, .agg b.pv] (pB (holds rel a b)) := by
  refine PureK.of (G_test_Holds.c ?_)
  refine ⟨fun s u => s = (a.k == 2 && b.k == 2), ?_, ?_⟩
  · exact CIf.mk (fun h => by simp [h]) (fun h => by simp [h])
  · rintro s u rfl
    repeat' (refine CIf.mk (fun h => ?_) (fun h => ?_))
    all_goals simp_all [holds, symEq, wk, wk1]

/-- What Get answers. -/
@[reducible] def getP : Option Sym → PV
  | some s => .tup [.agg s.pv, pB true]
  | none => .tup [.agg [pI 0, pS ⟨#[]⟩, pI 0], pB false]

theorem cGet (fl : Fl) (l : List Eng.Bind) (hn : l.length ≤ 1000000) (v : ByteArray) : Pure Try.prog 89 [.list 4 fl (l.map Bind.pv), pS v] (getP (getB l v)) := by
  refine PureK.of (G_test_Get.c ?_)
  refine LoopI.each (n := l.length) (by omega) (fun k u => getB (l.take k) v = none) (by simp [getB]) ?_ ?_
  · intro k u next hk hg hnext
    refine CIf.t (by simpa using hk) ⟨by omega, _, atRow hk, _, _, _, _, rfl, CIf.mk (fun he => ?_) (fun he => ?_)⟩
    · rw [getB_hit hk hg he]; rfl
    · exact hnext _ (by rw [getB_take hk hg, he]; rfl)
  · intro u next hg
    refine CIf.f (by simp) ?_
    rw [List.take_length] at hg
    rw [hg]; rfl

/-- Bindings, if there are any. -/
@[reducible] def ansP : Option (List Eng.Bind) → PV
  | some l => .tup [.list 4 .sh (l.map Bind.pv), pB true]
  | none => .tup [.list 4 .sh [], pB false]

/-- The same; where there are none, any list. -/
def AnsQ (o : Option (List Eng.Bind)) (p : PV) : Prop := ∃ l : List Eng.Bind, p = .tup [.list 4 .sh (l.map Bind.pv), pB o.isSome] ∧ ∀ l', o = some l' → l = l'

theorem cMet (fl : Fl) (t : Test) (s : Sym) (l : List Eng.Bind) (hn : l.length ≤ 1000000) (ht : t.list.length ≤ 1000000) : PureK Try.prog 83 [.agg t.pv, .agg s.pv, .list 4 fl (l.map Bind.pv)] (AnsQ (met t s l)) := by
  refine PureK.of (G_test_met.c ?_)
  have no : met t s l = none → AnsQ (met t s l) (wk (.tup [.list 4 .nil [], pB false])) := fun h => ⟨[], by rw [h]; rfl, fun l' e => by rw [h] at e; cases e⟩
  have yes : ∀ {q : Bool}, met t s l = (if q = true then some l else none) → AnsQ (met t s l) (wk (.tup [.list 4 fl (l.map Bind.pv), pB q])) := fun {q} h => by
    rw [h]
    cases q
    · exact ⟨l, rfl, fun l' e => by cases e⟩
    · exact ⟨l, rfl, fun l' e => by cases e; rfl⟩
  refine CIf.mk (fun h8 => ?_) (fun h8 => ?_)
  · have h8 : t.rel = 8 := by simpa using h8
    have hm : met t s l = if t.list.any (fun x => symEq x s) = true then some l else none := by rw [met, if_pos h8]
    refine LoopI.each (n := t.list.length) (by omega) (fun k u => (t.list.take k).any (fun x => symEq x s) = false) (by simp) ?_ ?_
    · intro k u next hk hg hnext
      refine CIf.t (by simpa using hk) ⟨by omega, _, atRow hk, _, _, _, rfl, CIf.mk (fun he => ?_) (fun he => ?_)⟩
      · exact yes (q := true) (by rw [hm, anyHit (p := fun x => symEq x s) hk he])
      · exact hnext _ (by rw [any_take hk hg]; exact he)
    · intro u next hg
      refine CIf.f (by simp) (no ?_)
      rw [List.take_length] at hg
      rw [hm, hg]; rfl
  · have h8 : ¬ t.rel = 8 := by simpa using h8
    refine CIf.mk (fun h1 => no ?_) (fun h1 => ?_)
    · rw [met, if_neg h8, if_pos (.inl (by simpa using h1))]
    · refine CIf.mk (fun h7 => no ?_) (fun h7 => ?_)
      · rw [met, if_neg h8, if_pos (.inr (by simpa using h7))]
      · have hr : ¬ (t.rel < 1 ∨ t.rel > 7) := by simp at h1 h7; omega
        refine CIf.mk (fun hv => ?_) (fun hv => ?_)
        · refine (cHolds t.rel s t.sym).call ⟨_, rfl, yes ?_⟩
          rw [met, if_neg h8, if_neg hr, if_pos (strEq_iff.1 hv)]
        · have hv : ¬ t.var = ⟨#[]⟩ := strEq_false.1 hv
          refine (cGet fl l hn t.var).call ?_
          cases hg : getB l t.var with
          | some x =>
            refine ⟨_, _, _, _, rfl, CIf.t rfl ((cHolds t.rel s x).call ⟨_, rfl, yes ?_⟩)⟩
            rw [met, if_neg h8, if_neg hr, if_neg hv, hg]
          | none =>
            refine ⟨_, _, _, _, rfl, CIf.f rfl (CIf.mk (fun h1 => no ?_) (fun h1 => ?_))⟩
            · have h1 : ¬ t.rel = 1 := by simpa using h1
              rw [met, if_neg h8, if_neg hr, if_neg hv, hg]; simp [h1]
            · have h1 : t.rel = 1 := by simpa using h1
              refine ⟨by omega, by omega, by omega, rfl, ?_⟩
              simp only [Int.toNat_zero, Int.toNat_natCast, List.take_length, List.drop_zero]
              refine appL.go1 (by trivial) (by simp; omega) (by simp; omega) fun fl' μ' _ => ⟨l ++ [⟨t.var, s⟩], ?_, fun l' e => ?_⟩
              · rw [met, if_neg h8, if_neg hr, if_neg hv, hg]; simp [h1, wk, wk1, wk2]
              · rw [met, if_neg h8, if_neg hr, if_neg hv, hg] at e; simp [h1] at e; exact e

theorem cAll (fl fl' : Fl) (ts : List Test) (s : Sym) (l : List Eng.Bind) (hn : l.length + ts.length ≤ 1000000) (ht : ∀ t ∈ ts, t.list.length ≤ 1000000) : PureK Try.prog 84 [.list 6 fl (ts.map Test.pv), .agg s.pv, .list 4 fl' (l.map Bind.pv)] (AnsQ (allT ts s l)) := by
  refine PureK.of (G_test_all.c ?_)
  refine LoopI.each2 (n := ts.length) (by omega) (fun k x u => ∃ lk, allT (ts.take k) s l = some lk ∧ x.2 = lk.map Bind.pv) ⟨l, rfl, rfl⟩ ?_ ?_
  · rintro k ⟨xf, xr⟩ u next hk ⟨lk, hlk, rfl⟩ hnext
    have hkb := allT_len hlk
    rw [List.length_take] at hkb
    refine CIf.t (by simpa using hk) ⟨by omega, _, atRow hk, _, _, _, _, _, _, _, rfl, ?_⟩
    refine (cMet xf ts[k] s lk (by omega) (ht _ (List.getElem_mem hk))).call ?_
    rintro _ ⟨l', rfl, hl'⟩
    refine ⟨_, _, _, rfl, ?_⟩
    cases hm : met ts[k] s lk with
    | none =>
      refine CIf.t rfl ⟨[], ?_, fun l2 e => ?_⟩
      · rw [allT_fail (k + 1) (by rw [allT_take hk hlk, hm])]; rfl
      · rw [allT_fail (k + 1) (by rw [allT_take hk hlk, hm])] at e; cases e
    | some l2 =>
      have := hl' l2 hm
      subst this
      exact CIf.f rfl (hnext (_, _) _ ⟨l', by rw [allT_take hk hlk, hm], rfl⟩)
  · rintro ⟨xf, xr⟩ u next ⟨lk, hlk, rfl⟩
    rw [List.take_length] at hlk
    exact CIf.f (by simp) ⟨lk, by rw [hlk]; rfl, fun l2 e => by rw [hlk] at e; cases e; rfl⟩

theorem cOwn (fl : Fl) (l : List Eng.Bind) (hn : l.length ≤ 2000000) : Pure Try.prog 85 [.list 4 fl (l.map Bind.pv)] (.list 4 .sh (l.map Bind.pv)) := by
  refine PureK.of (G_test_own.c ?_)
  exact appL.go1 (by trivial) (by simp; omega) (by simp; omega) fun fl' μ' _ => rfl

theorem cCond' (fa fv fc fl : Fl) (c : Cond) (e : Elem) (l : List Eng.Bind) (hn : l.length + 1 + c.attr.length + c.value.length ≤ 1000000) (ha : ∀ t ∈ c.attr, t.list.length ≤ 1000000) (hv : ∀ t ∈ c.value, t.list.length ≤ 1000000) :
    Pure Try.prog 67 [.agg [pI c.kind, pB c.goal, pS c.id, .list 6 fa (c.attr.map Test.pv), .list 6 fv (c.value.map Test.pv), pB c.acc, .list 7 fc (c.conds.map Cond.pv)], .agg e.pv, .list 4 fl (l.map Bind.pv)] (ansP (condS c e l)) := by
  refine PureK.of (G_test_Cond.c ?_)
  refine ⟨fun _ u => ((c.kind = 1 ∨ c.kind = 2) ∧ (c.goal = true → e.goal = true) ∧ c.acc = e.acc), ?_, ?_⟩
  · repeat' (refine CIf.mk (fun h => ?_) (fun h => ?_))
    all_goals first
      | (simp_all; done)
      | (rw [condS, if_neg (by simp_all)]; rfl)
  · rintro _ u hc
    rw [condS, if_pos hc]
    refine (cMet fl (idTest c.id) e.id l (by omega) (by simp)).call ?_
    rintro _ ⟨l1, rfl, h1⟩
    refine ⟨_, _, _, rfl, ?_⟩
    cases hm : met (idTest c.id) e.id l with
    | none => exact CIf.t rfl rfl
    | some l1' =>
      obtain rfl := h1 l1' hm
      have g1 := met_len hm
      refine CIf.f rfl ((cAll fa _ c.attr e.attr l1 (by omega) ha).call ?_)
      rintro _ ⟨l2, rfl, h2⟩
      refine ⟨_, _, _, rfl, ?_⟩
      simp only [Option.bind_some]
      cases hm2 : allT c.attr e.attr l1 with
      | none => exact CIf.t rfl rfl
      | some l2' =>
        obtain rfl := h2 l2' hm2
        have g2 := allT_len hm2
        refine CIf.f rfl ((cAll fv _ c.value e.value l2 (by omega) hv).call ?_)
        rintro _ ⟨l3, rfl, h3⟩
        refine ⟨_, _, _, rfl, ?_⟩
        simp only [Option.bind_some]
        cases hm3 : allT c.value e.value l2 with
        | none => exact CIf.t rfl rfl
        | some l3' =>
          obtain rfl := h3 l3' hm3
          have g3 := allT_len hm3
          exact CIf.f rfl ((cOwn _ l3 (by omega)).call ⟨_, _, rfl, rfl⟩)

theorem cCond (fl : Fl) (c : Cond) (e : Elem) (l : List Eng.Bind) (hn : l.length + 1 + c.attr.length + c.value.length ≤ 1000000) (ha : ∀ t ∈ c.attr, t.list.length ≤ 1000000) (hv : ∀ t ∈ c.value, t.list.length ≤ 1000000) :
    Pure Try.prog 67 [.agg c.pv, .agg e.pv, .list 4 fl (l.map Bind.pv)] (ansP (condS c e l)) := by
  rw [Cond.pv_eq]
  exact cCond' .sh .sh .sh fl c e l hn ha hv

end Go.Proofs.Ytdiimonfmdbclaa
