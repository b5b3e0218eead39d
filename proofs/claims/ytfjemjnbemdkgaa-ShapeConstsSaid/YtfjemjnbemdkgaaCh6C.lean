import Derived.Test.YtfjemjnbemdkgaaCh6B
/-
  Productions that may be: forms.
-/
namespace Go.Proofs.Ytfjemjnbemdkgaa
open Go.Eng Go.RowKit
set_option linter.unusedVariables false
set_option linter.unusedSimpArgs false
set_option linter.unnecessarySimpa false

theorem rdM_one {μ : Mem} {b : Nat} {T : TypeId} {p : PV} (h : μ b = some (.cells T [p])) : rdM μ b 0 1 = some [p] := by simp [rdM, h]

theorem wrAt {μ : Mem} {b : Nat} {T : TypeId} {p q : PV} : (μ.set b (some (.cells T (wrL [p] 0 [q])))) b = some (.cells T [q]) := by simp [wrL]
theorem rdM_wr {μ : Mem} {b : Nat} {T : TypeId} {p q : PV} : rdM (μ.set b (some (.cells T (wrL [p] 0 [q])))) b 0 1 = some [q] := rdM_one wrAt

@[reducible] def pairP (x : Int × Int) : PV := .tup [pI x.1, pI x.2]

/-- The first action that is wrong: a loop. -/
theorem actsLoop {l : List Actn} {body : (Int → Mem → Prop) → Int → Mem → Prop} {u : Mem} {A : Mem → Prop} (hl : l.length ≤ 1000000) (h0 : A u)
    (hin : ∀ (k : Nat) (hk : k < l.length) (u : Mem) (next : Int → Mem → Prop), A u → (actB l[k] = true → ∀ u', A u' → next (IntKind.wrap .i64 ((k : Int) + 1)) u') → (actB l[k] = false → firstA 0 l = some k) → body next (k : Int) u)
    (hout : ∀ (u : Mem) (next : Int → Mem → Prop), A u → firstA 0 l = none → body next (l.length : Int) u) : LoopI body 0 u := by
  refine LoopI.each (n := l.length) (by omega) (fun k u => A u ∧ firstA 0 (l.take k) = none) ⟨h0, rfl⟩ ?_ ?_
  · rintro k u next hk ⟨hA, hf⟩ hnext
    exact hin k hk u next hA (fun ha u' hA' => hnext u' ⟨hA', by rw [firstA_take hk hf, ha]; rfl⟩) (fun ha => by have := firstA_hit hk hf ha; simpa using this)
  · rintro u next ⟨hA, hf⟩
    rw [List.take_length] at hf
    exact hout u next hA hf

theorem cRefShape (fc fa : Fl) (p : Prod) (hl : lightL p.conds) (hs : sizeL p.conds ≤ 1000000) (ha : p.acts.length ≤ 1000000) : Pure Try.prog 14 [.agg [pS p.name, .list 7 fc (p.conds.map Cond.pv), .list 19 fa (p.acts.map Actn.pv)]] (pairP (shapeE p)) := by
  refine PureK.of (G_ponderref06_Shape.c ?_)
  refine (cRefWord p.name).call ⟨_, rfl, CIf.mk (fun h1 => ?_) (fun h1 => (cRefSize _ fc p.conds (Nat.le_refl _) hs).call ⟨_, rfl, CIf.mk (fun h2 => ?_) (fun h2 => CIf.mk (fun h3 => ?_) (fun h3 => CIf.mk (fun h4 => ?_) (fun h4 => CIf.mk (fun h5 => ?_) (fun h5 => ?_))))⟩)⟩
  · simp [shapeE, nb h1, wk, wk1, wk2]
  all_goals have e1 : wordB p.name = true := nt h1
  · have : sizeL p.conds < 1 := by have := of_decide_eq_true h2; omega
    simp [shapeE, e1, this, wk, wk1, wk2]
  · have : 16 < sizeL p.conds := by simp at h3; omega
    simp [shapeE, e1, this, wk, wk1, wk2]
  · have : p.acts.length < 1 := by have := of_decide_eq_true h4; simp only [List.length_map] at this; omega
    simp [shapeE, e1, this, wk, wk1, wk2]
  · have : 16 < p.acts.length := by simp at h5; omega
    simp [shapeE, e1, this, wk, wk1, wk2]
  · have e2 : ¬ sizeL p.conds < 1 := by have := of_decide_eq_false h2; omega
    have e3 : ¬ 16 < sizeL p.conds := by simp at h3; omega
    have e4 : ¬ p.acts.length < 1 := by have := of_decide_eq_false h4; simp only [List.length_map] at this; omega
    have e5 : ¬ 16 < p.acts.length := by simp at h5; omega
    refine (cRefConds _ fc p.conds 0 0 (Nat.le_refl _) hl (by omega) (by omega)).call ?_
    have hsh : shapeE p = shapeT p := by simp [shapeE, e1, e2, e3, e4, e5]
    cases hf : firstE (preL p.conds 0 0) with
    | some r =>
      obtain ⟨x, e⟩ := r
      have hne := firstE_ne hf
      simp only [condsE, hf]
      refine ⟨_, _, rfl, CIf.t (by simpa using hne) ?_⟩
      rw [hsh, shapeT_e hf]; rfl
    | none =>
      simp only [condsE, hf]
      refine ⟨_, _, rfl, CIf.f rfl ?_⟩
      refine actsLoop (l := p.acts) (A := fun _ => True) ha trivial (fun k hk u next _ hy hno => ?_) (fun u next _ hfa => ?_)
      · refine CIf.t (by simpa using hk) ⟨by omega, _, atRow hk, _, _, _, _, _, _, _, _, _, _, _, _, _, _, _, _, _, _, _, rfl, (cRefAct p.acts[k]).call ⟨_, rfl, CIf.mk (fun a => ?_) (fun a => hy (nt a) _ trivial)⟩⟩
        rw [hsh, shapeT_a hf (hno (nb a)), wrap_id (by omega) (by omega)]
        simp [wk, wk1, wk2]
      · refine CIf.f (by simp) ?_
        rw [hsh, shapeT_ok hf hfa]; rfl

theorem cShape (fc fa : Fl) (p : Prod) (hl : lightL p.conds) (hs : sizeL p.conds ≤ 1000000) (ha : p.acts.length ≤ 1000000) : Pure Try.prog 13 [.agg [pS p.name, .list 7 fc (p.conds.map Cond.pv), .list 19 fa (p.acts.map Actn.pv)]] (pairP (shapeE p)) := by
  refine PureK.of (G_shape_Shape.c ?_)
  refine (cWord p.name).call ⟨_, rfl, CIf.mk (fun h1 => ?_) (fun h1 => ?_)⟩
  · simp [shapeE, nb h1, wk, wk1, wk2]
  have e1 : wordB p.name = true := nt h1
  intro b4 hb4
  refine ⟨_, _, Mem.set_same _ _ _, by simp, ?_⟩
  rw [Mem.set_set]
  have hpl := preL_len p.conds 0 0
  refine CallP.mono (cWalk (.func 40) [] [pP b4 0] trivial (fun k μ => μ b4 = some (.cells 3 [pI (k : Nat)]) ∧ k ≤ 16) (fun μ => μ b4 = some (.cells 3 [pI 17]) ∧ 16 < sizeL p.conds) _ fc p.conds 0 0 0 _ (Nat.le_refl _) (by omega) (by omega) ⟨by simp [Mem.set_same, wrL], by omega⟩ (fun k x μ hx hI => ?_)) ?_
  · rw [Nat.zero_add] at hI ⊢
    have hx1 := preL_count _ _ _ _ _ hx
    have hk : k < sizeL p.conds := by rw [← hpl]; exact (List.getElem?_eq_some_iff.1 hx).1
    show CallP _ _ _ _ _
    rw [Cond.pv_eq]
    refine G_shape_Shape_1.c ?_
    refine ⟨_, _, hI.1, by simp, _, rdM_wr, ?_⟩
    rw [hx1, Nat.zero_add, wrap_id (by omega) (by omega)]
    by_cases h16 : k + 1 ≤ 16
    · exact .inl ⟨by simp; omega, by rw [wrAt]; rfl, h16⟩
    · have : k = 16 := by omega
      subst this
      exact .inr ⟨by simp, by rw [wrAt]; rfl, hk⟩
  rintro v μ1 hv
  have hres : ∃ (x : Int) (q : Bool) (m : Nat), v = .tup [pI x, pB q] ∧ μ1 b4 = some (.cells 3 [pI (m : Nat)]) ∧ (m ≤ 16 → m = sizeL p.conds) ∧ (16 < m → 16 < sizeL p.conds) := by
    rcases hv with ⟨rfl, h1, h2⟩ | ⟨x, rfl, h1, h2⟩
    · rw [Nat.zero_add] at h1 h2
      exact ⟨_, _, _, rfl, h1, fun _ => rfl, fun h => by omega⟩
    · exact ⟨_, _, 17, rfl, h1, fun h => by omega, fun _ => h2⟩
  obtain ⟨x, q, m, rfl, hm1, hm2, hm3⟩ := hres
  refine ⟨_, _, rfl, _, rdM_one hm1, CIf.mk (fun h2 => ?_) (fun h2 => ⟨_, rdM_one hm1, CIf.mk (fun h3 => ?_) (fun h3 => CIf.mk (fun h4 => ?_) (fun h4 => CIf.mk (fun h5 => ?_) (fun h5 => ?_)))⟩)⟩
  · have : sizeL p.conds < 1 := by have := of_decide_eq_true h2; have := hm2 (by omega); omega
    simp [shapeE, e1, this, wk, wk1, wk2]
  · have : 16 < sizeL p.conds := hm3 (by simp at h3; omega)
    simp [shapeE, e1, this, wk, wk1, wk2]
  · have : p.acts.length < 1 := by have := of_decide_eq_true h4; simp only [List.length_map] at this; omega
    simp [shapeE, e1, this, wk, wk1, wk2]
  · have : 16 < p.acts.length := by simp at h5; omega
    simp [shapeE, e1, this, wk, wk1, wk2]
  have hmm : m = sizeL p.conds := hm2 (by simp at h3; omega)
  subst hmm
  have e2 : ¬ sizeL p.conds < 1 := by have := of_decide_eq_false h2; omega
  have e3 : ¬ 16 < sizeL p.conds := by simp at h3; omega
  have e4 : ¬ p.acts.length < 1 := by have := of_decide_eq_false h4; simp only [List.length_map] at this; omega
  have e5 : ¬ 16 < p.acts.length := by simp at h5; omega
  have hsh : shapeE p = shapeT p := by simp [shapeE, e1, e2, e3, e4, e5]
  intro b5 hb5 b6 hb6
  have n54 : b5 ≠ b4 := by rintro rfl; rw [hm1] at hb5; cases hb5
  have n65 : b6 ≠ b5 := by rintro rfl; rw [Mem.set_same] at hb6; cases hb6
  have n64 : b6 ≠ b4 := by rintro rfl; rw [Mem.set_ne _ _ (Ne.symm n54)] at hb6; rw [hm1] at hb6; cases hb6
  refine ⟨_, _, by rw [Mem.set_ne _ _ (Ne.symm n65)]; exact Mem.set_same _ _ _, by simp, ?_⟩
  refine ⟨_, _, by rw [Mem.set_ne _ _ n65]; exact Mem.set_same _ _ _, by simp, ?_⟩
  refine CallP.mono (cWalk (.func 41) [] [pP b6 0, pP b5 0] trivial (fun k μ => μ b4 = some (.cells 3 [pI (sizeL p.conds : Nat)]) ∧ μ b5 = some (.cells 3 [pI (-1)]) ∧ μ b6 = some (.cells 28 [pI 0]) ∧ firstE ((preL p.conds 0 0).take k) = none)
    (fun μ => ∃ a e, μ b5 = some (.cells 3 [pI (a : Nat)]) ∧ μ b6 = some (.cells 28 [pI e]) ∧ firstE (preL p.conds 0 0) = some (a, e)) _ fc p.conds 0 0 0 _ (Nat.le_refl _) (by omega) (by omega) ?_ (fun k x μ hx hI => ?_)) ?_
  · refine ⟨?_, ?_, by simp [wrL], rfl⟩
    · rw [Mem.set_ne _ _ (Ne.symm n64), Mem.set_ne _ _ (Ne.symm n54), Mem.set_ne _ _ (Ne.symm n64), Mem.set_ne _ _ (Ne.symm n54)]; exact hm1
    · rw [Mem.set_ne _ _ (Ne.symm n65), Mem.set_same]; simp [wrL]
  · rw [Nat.zero_add] at hI ⊢
    obtain ⟨i4, i5, i6, hfk⟩ := hI
    have hlx := lightL_pre _ _ _ x hl (List.mem_of_getElem? hx)
    have htk := firstE_take hx hfk
    show CallP _ _ _ _ _
    have hc := cCondE x.2.2 x.2.1 hlx
    rw [Cond.pv_eq] at hc ⊢
    refine G_shape_Shape_2.c (hc.call ⟨_, rfl, _, _, i6, by simp, _, rdM_wr, CIf.mk (fun h => ?_) (fun h => ?_)⟩)
    · have hne : (condE x.2.2 x.2.1 == 0) = false := by simpa using h
      refine ⟨_, _, by rw [Mem.set_ne _ _ (Ne.symm n65)]; exact i5, by simp, _, rdM_one (by rw [Mem.set_ne _ _ n65]; exact wrAt), .inr ⟨by rw [hne], x.1, condE x.2.2 x.2.1, ?_, ?_, ?_⟩⟩
      · exact wrAt
      · rw [Mem.set_ne _ _ n65]; exact wrAt
      · rw [hne] at htk; exact firstE_stop htk
    · have he : (condE x.2.2 x.2.1 == 0) = true := by simpa using h
      have he0 : condE x.2.2 x.2.1 = 0 := by simpa using he
      refine ⟨_, rdM_wr, .inl ⟨by rw [he], ?_, ?_, ?_, ?_⟩⟩
      · rw [Mem.set_ne _ _ (Ne.symm n64)]; exact i4
      · rw [Mem.set_ne _ _ (Ne.symm n65)]; exact i5
      · rw [wrAt, he0]
      · rw [htk, he]; rfl
  rintro v μ2 hv
  rcases hv with ⟨rfl, i4, i5, i6, hfk⟩ | ⟨x, rfl, a, e, i5, i6, hfe⟩
  · rw [Nat.zero_add, ← hpl, List.take_length] at hfk
    refine ⟨_, _, rfl, _, rdM_one i6, CIf.f rfl ?_⟩
    refine actsLoop (l := p.acts) (A := fun μ => μ b4 = some (.cells 3 [pI (sizeL p.conds : Nat)])) ha i4 (fun k hk u next hA hy hno => ?_) (fun u next _ hf => ?_)
    · refine CIf.t (by simpa using hk) ⟨by omega, _, atRow hk, _, _, _, _, _, _, _, _, _, _, _, _, _, _, _, _, _, _, _, rfl, (cAct p.acts[k]).call ⟨_, rfl, CIf.mk (fun a => ⟨_, rdM_one hA, ?_⟩) (fun a => hy (nt a) _ hA)⟩⟩
      rw [hsh, shapeT_a hfk (hno (nb a)), wrap_id (by omega) (by omega)]
      simp [wk, wk1, wk2]
    · refine CIf.f (by simp) ?_
      rw [hsh, shapeT_ok hfk hf]; rfl
  · have hne := firstE_ne hfe
    refine ⟨_, _, rfl, _, rdM_one i6, CIf.t (by simpa using hne) ⟨_, rdM_one i5, _, rdM_one i6, ?_⟩⟩
    rw [hsh, shapeT_e hfe]; rfl

end Go.Proofs.Ytfjemjnbemdkgaa
