import Derived.Test.YtfjemjnbemdkgaaCh6G
/-
  The laws of chapter 6: variables.
-/
namespace Go.Proofs.Ytfjemjnbemdkgaa
open Go.Eng Go.RowKit
set_option linter.unusedVariables false

theorem cKTexts (f g : Fl) (l : List ByteArray) (hl : l.length ≤ 1000000) : Pure Try.prog 23 [.list 1 f (rowsS l), .list 1 g (rowsS l)] (pB true) := by
  refine PureK.of (G_ponderkeep_Texts.c (CIf.f (by simp) ?_))
  refine LoopI.each (n := l.length) (by omega) (fun _ _ => True) trivial (fun k u next hk _ hnext => ?_) (fun u next _ => CIf.f (by simp) rfl)
  exact CIf.t (by simpa using hk) ⟨by omega, _, rowsS_at hk, _, rfl, by omega, _, rowsS_at hk, _, rfl, CIf.f (by simp [sEq]) (hnext _ trivial)⟩

theorem varsLen (p : Prod) : (checkE p).2.2.length ≤ 1000 := by
  by_cases h : (checkE p).2.1 = 0
  · obtain ⟨h1, h2⟩ := checkE_ok h
    obtain ⟨_, s2, _, _, hok⟩ := shapeE_ok h1
    have := knowL_len hok h2
    simp at this; omega
  · rw [checkE_no h]; simp

theorem cShapeVars (p : Prod) : Pure Try.prog 6 [.agg p.pv] (pB true) := by
  refine PureK.of (G_ponderlaw06_ShapeVars.c ?_)
  refine (cHeavy .sh .sh p).call ?_
  rintro _ ⟨q, rfl, hq⟩
  refine ⟨_, rfl, CIf.mk (fun h => cWakes.call ⟨_, rfl, rfl⟩) (fun h => ?_)⟩
  obtain ⟨hl, hs, ha, hn⟩ := hq h
  have hlen := varsLen p
  refine cVarsR .sh .sh p hl (by omega) (by omega) fun μ q Fr ho hm => ?_
  have hv := ho.view (rowsS_each _) (rowsS_cell _)
  obtain ⟨a, c, rfl, _⟩ := ho.app (rowsS_each _)
  refine ⟨_, _, _, rfl, (cRVars .sh .sh p hl (by omega) (by omega)).call ⟨_, _, rfl, ?_⟩⟩
  refine CallP.view (cKTexts .sh .sh _ (by omega)) rfl (fun i x y hx hy => ?_) (fun p hp => by rw [hp]; rfl) (fun r hr => ?_)
  · match i with
    | 0 => simp only [List.getElem?_cons_zero, Option.some.injEq] at hx hy; subst hx hy; exact ⟨hv, rfl⟩
    | 1 => simp at hx hy; subst hx hy; exact ⟨.same _, rfl⟩
    | n + 2 => simp at hx
  subst hr
  refine ⟨_, rfl, CIf.f rfl ?_⟩
  rw [rowsS_len]
  refine LoopI.each (n := (checkE p).2.2.length) (by omega) (fun i u => (checkE p).2.2.length ≠ 0 → ∃ b T cs, a = some ⟨b, 0, none⟩ ∧ u b = some (.cells T cs) ∧ (checkE p).2.2.length ≤ cs.length) (fun h0 => ?_) ?_ ?_
  · rcases ho with ⟨_, h1, _⟩ | ⟨b, c', rest, h1, _, h2, _⟩
    · have := congrArg List.length h1; simp at this; simp [this] at h0
    · simp only [PV.raw.injEq, Value.slice.injEq] at h1
      refine ⟨b, _, _, h1.1, h2, ?_⟩
      have hfl := flatLen (rowsS_each (checkE p).2.2)
      rw [rowsS_len] at hfl
      rw [List.length_append, hfl]; omega
  · intro i u next hi hI hnext
    obtain ⟨b, T, cs, rfl, h2, h3⟩ := hI (by omega)
    refine CIf.t (by simpa using hi) ⟨by omega, by omega, _, _, h2, by simp; omega, hnext _ fun _ => ⟨b, T, _, rfl, Mem.set_same _ _ _, ?_⟩⟩
    unfold wrL
    simp only [List.length_append, List.length_take, List.length_drop, List.length_singleton]
    omega
  · intro u next hI
    refine CIf.f (by simp) ?_
    refine (cVars .sh .sh p hl (by omega) (by omega)).q ⟨_, _, rfl, (cRVars .sh .sh p hl (by omega) (by omega)).call ⟨_, _, rfl, (cKTexts .sh .sh _ (by omega)).call ⟨_, rfl, CIf.t rfl (cWakes.call ⟨_, rfl, rfl⟩)⟩⟩⟩

end Go.Proofs.Ytfjemjnbemdkgaa
