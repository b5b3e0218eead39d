import Derived.Test.YtfjemjnbemdkgaaCh6A
/-
  Productions that may be: conditions, the walk, forms.
-/
namespace Go.Proofs.Ytfjemjnbemdkgaa
open Go.Eng Go.RowKit
set_option linter.unusedVariables false
set_option linter.unusedSimpArgs false
set_option linter.unnecessarySimpa false

theorem lightTs {l : List Test} (h : ∀ t ∈ l, lightT t) : ∀ t ∈ l, t.list.length ≤ 1000000 := fun t ht => Nat.le_trans (h t ht).1 (by omega)

theorem gt0 {n : Nat} {b : Bool} (h : decide (((n : Nat) : Int) > 0) = b) : decide (0 < n) = b := by rw [← h]; simp
theorem eq0 {n : Nat} {b : Bool} (h : (((n : Nat) : Int) == 0) = b) : decide (n = 0) = b := by
  rw [← h, Bool.eq_iff_iff]; simp
theorem gt4 {n : Nat} {b : Bool} (h : decide (((n : Nat) : Int) > 4) = b) : decide (4 < n) = b := by
  rw [← h, Bool.eq_iff_iff]; simp; omega

theorem cCondE (c : Cond) (deep : Int) (hl : lightC c) : Pure Try.prog 42 [.agg c.pv, pI deep] (pI (condE c deep)) := by
  obtain ⟨_, ha, hv, hta, htv, _⟩ := (lightC_eq c).1 hl
  rw [Cond.pv_eq]
  refine PureK.of (G_shape_cond.c ?_)
  have e3 : c.kind == 3 → c.kind = 3 := fun h => by simpa using h
  refine ⟨fun _ _ => (c.kind == 3) = false ∧ ((c.kind == 1) || (c.kind == 2)) = true, ?_, ?_⟩
  · refine CIf.mk (fun h3 => ?_) (fun h3 => ?_)
    · refine CIf.mk (fun h => ?_) (fun h => CIf.mk (fun h1 => ?_) (fun h1 => CIf.mk (fun h2 => ?_) (fun h2 => CIf.mk (fun h4 => ?_) (fun h4 => CIf.mk (fun h5 => ?_) (fun h5 => CIf.mk (fun h6 => ?_) (fun h6 => CIf.mk (fun h7 => ?_) (fun h7 => ?_)))))))
      · simp [condE, h3, h, wk, wk1]
      · simp [condE, h3, nb h1, wk, wk1]
      · rw [List.length_map] at h2; simp only [condE, h3, gt0 h2, wk, wk1]; simp
      · rw [List.length_map] at h4; simp only [condE, h3, gt0 h4, wk, wk1]; simp
      · simp [condE, h3, h5, wk, wk1]
      · rw [List.length_map] at h6; simp only [condE, h3, eq0 h6, wk, wk1]; simp
      · rw [List.length_map] at h2 h4 h6
        have : decide (3 ≤ deep) = true := h7
        simp only [condE, h3, h, nt h1, gt0 h2, gt0 h4, h5, eq0 h6, this, wk, wk1]; rfl
      · rw [List.length_map] at h2 h4 h6
        have : decide (3 ≤ deep) = false := h7
        simp only [condE, h3, h, nt h1, gt0 h2, gt0 h4, h5, eq0 h6, this, wk, wk1]; rfl
    · refine CIf.mk (fun h1 => CIf.mk (fun h2 => ⟨h3, by simp [h1]⟩) (fun h2 => by rw [h1] at h2; cases h2)) (fun h1 => CIf.mk (fun h2 => ⟨h3, by simp [h2]⟩) (fun h2 => ?_))
      simp [condE, h3, h1, h2, wk, wk1]
  · rintro _ u ⟨h3, h12⟩
    refine CIf.mk (fun h => ?_) (fun h => (cWord c.id).call ⟨_, rfl, CIf.mk (fun h1 => ?_) (fun h1 => CIf.mk (fun h2 => ?_) (fun h2 => CIf.mk (fun h4 => ?_) (fun h4 => CIf.mk (fun h5 => ?_) (fun h5 => (cTests .sh c.attr (by omega) (lightTs hta)).call ⟨_, rfl, CIf.mk (fun h6 => ?_) (fun h6 => (cTests .sh c.value (by omega) (lightTs htv)).call ⟨_, rfl, CIf.mk (fun h7 => ?_) (fun h7 => ?_)⟩)⟩))))⟩)
    · rw [List.length_map] at h; simp only [condE, h3, h12, gt0 h, wk, wk1]; rfl
    · simp only [condE, h3, h12, nb h1, wk, wk1]; simp
    · rw [List.length_map] at h2; simp only [condE, h3, h12, eq0 h2, wk, wk1]; simp
    all_goals rw [List.length_map] at h h2 h4
    · simp only [condE, h3, h12, gt0 h, nt h1, eq0 h2, gt4 h4, wk, wk1]; simp
    all_goals rw [List.length_map] at h5
    · simp only [condE, h3, h12, gt0 h, nt h1, eq0 h2, gt4 h4, gt4 h5, wk, wk1]; simp
    · simp only [condE, h3, h12, gt0 h, nt h1, eq0 h2, gt4 h4, gt4 h5, nb h6, wk, wk1]; simp
    · simp only [condE, h3, h12, gt0 h, nt h1, eq0 h2, gt4 h4, gt4 h5, nt h6, nb h7, wk, wk1]; simp
    · simp only [condE, h3, h12, gt0 h, nt h1, eq0 h2, gt4 h4, gt4 h5, nt h6, nt h7, wk, wk1]; simp

theorem cRefCondE (c : Cond) (deep : Int) (hl : lightC c) : Pure Try.prog 72 [.agg c.pv, pI deep] (pI (condE c deep)) := by
  obtain ⟨_, ha, hv, hta, htv, _⟩ := (lightC_eq c).1 hl
  rw [Cond.pv_eq]
  refine PureK.of (G_ponderref06_cond.c ?_)
  refine CIf.mk (fun k1 => ?_) (fun k1 => CIf.mk (fun k2 => ?_) (fun k2 => CIf.mk (fun h3 => ?_) (fun h3 => ?_)))
  · have a1 : (c.kind == 3) = false := by simp at k1 ⊢; omega
    have a2 : ((c.kind == 1) || (c.kind == 2)) = false := by simp at k1 ⊢; omega
    simp only [condE, a1, a2, wk, wk1]; rfl
  · have a1 : (c.kind == 3) = false := by simp at k2 ⊢; omega
    have a2 : ((c.kind == 1) || (c.kind == 2)) = false := by simp at k2 ⊢; omega
    simp only [condE, a1, a2, wk, wk1]; rfl
  · refine CIf.mk (fun h => ?_) (fun h => CIf.mk (fun h1 => ?_) (fun h1 => CIf.mk (fun h2 => ?_) (fun h2 => CIf.mk (fun h4 => ?_) (fun h4 => CIf.mk (fun h5 => ?_) (fun h5 => CIf.mk (fun h6 => ?_) (fun h6 => CIf.mk (fun h7 => ?_) (fun h7 => ?_)))))))
    · simp [condE, h3, h, wk, wk1]
    · simp [condE, h3, nb h1, wk, wk1]
    · rw [List.length_map] at h2; simp only [condE, h3, gt0 h2, wk, wk1]; simp
    · rw [List.length_map] at h4; simp only [condE, h3, gt0 h4, wk, wk1]; simp
    · simp [condE, h3, h5, wk, wk1]
    · rw [List.length_map] at h6; simp only [condE, h3, eq0 h6, wk, wk1]; simp
    · rw [List.length_map] at h2 h4 h6
      have : decide (3 ≤ deep) = true := h7
      simp only [condE, h3, h, nt h1, gt0 h2, gt0 h4, h5, eq0 h6, this, wk, wk1]; rfl
    · rw [List.length_map] at h2 h4 h6
      have : decide (3 ≤ deep) = false := h7
      simp only [condE, h3, h, nt h1, gt0 h2, gt0 h4, h5, eq0 h6, this, wk, wk1]; rfl
  · have h12 : ((c.kind == 1) || (c.kind == 2)) = true := by simp at k1 k2 h3 ⊢; omega
    refine CIf.mk (fun h => ?_) (fun h => (cRefWord c.id).call ⟨_, rfl, CIf.mk (fun h1 => ?_) (fun h1 => CIf.mk (fun h2 => ?_) (fun h2 => CIf.mk (fun h4 => ?_) (fun h4 => CIf.mk (fun h5 => ?_) (fun h5 => (cRefTests .sh c.attr (by omega) (lightTs hta)).call ⟨_, rfl, CIf.mk (fun h6 => ?_) (fun h6 => (cRefTests .sh c.value (by omega) (lightTs htv)).call ⟨_, rfl, CIf.mk (fun h7 => ?_) (fun h7 => ?_)⟩)⟩))))⟩)
    · rw [List.length_map] at h; simp only [condE, h3, h12, gt0 h, wk, wk1]; rfl
    · simp only [condE, h3, h12, nb h1, wk, wk1]; simp
    · rw [List.length_map] at h2; simp only [condE, h3, h12, eq0 h2, wk, wk1]; simp
    all_goals rw [List.length_map] at h h2 h4
    · simp only [condE, h3, h12, gt0 h, nt h1, eq0 h2, gt4 h4, wk, wk1]; simp
    all_goals rw [List.length_map] at h5
    · simp only [condE, h3, h12, gt0 h, nt h1, eq0 h2, gt4 h4, gt4 h5, wk, wk1]; simp
    · simp only [condE, h3, h12, gt0 h, nt h1, eq0 h2, gt4 h4, gt4 h5, nb h6, wk, wk1]; simp
    · simp only [condE, h3, h12, gt0 h, nt h1, eq0 h2, gt4 h4, gt4 h5, nt h6, nb h7, wk, wk1]; simp
    · simp only [condE, h3, h12, gt0 h, nt h1, eq0 h2, gt4 h4, gt4 h5, nt h6, nt h7, wk, wk1]; simp

theorem cRefSize : ∀ (n : Nat) (fl : Fl) (l : List Cond), sizeL l ≤ n → sizeL l ≤ 1000000 → Pure Try.prog 45 [.list 7 fl (l.map Cond.pv)] (pI (sizeL l : Nat)) := by
  intro n
  induction n with
  | zero =>
    intro fl l h _
    have : l = [] := by
      cases l with
      | nil => rfl
      | cons c l => simp [sizeL, sizeC_eq] at h
    subst this
    refine PureK.of (G_ponderref06_Size.c ?_)
    exact LoopI.each2 (n := 0) (by omega) (fun k x u => x = 0) rfl (fun k x u next hk => by omega) (fun x u next hx => by subst hx; exact CIf.f (by simp) rfl)
  | succ n ih =>
    intro fl l h h6
    refine PureK.of (G_ponderref06_Size.c ?_)
    have hll := sizeL_len l
    refine LoopI.each2 (n := l.length) (by omega) (fun k x u => x = ((sizeL (l.take k) : Nat) : Int)) (by simp [sizeL]) ?_ ?_
    · rintro k _ u next hk rfl hnext
      have hm := sizeL_mem (List.getElem_mem hk)
      have hs := sizeL_split l (k + 1)
      rw [sizeL_take hk] at hs
      refine CIf.t (by simpa using hk) ⟨by omega, _, atRow hk, .sh, l[k].conds.map Cond.pv, by rw [Cond.pv_eq]; rfl, (ih .sh l[k].conds (by omega) (by omega)).call ⟨_, rfl, ?_⟩⟩
      dsimp only
      rw [wrap_id (x := (1 : Int) + _) (by omega) (by omega), wrap_id (x := ((sizeL (l.take k) : Nat) : Int) + _) (by omega) (by omega)]
      exact hnext _ _ (by rw [sizeL_take hk]; omega)
    · rintro _ u next rfl
      refine CIf.f (by simp) ?_
      rw [List.take_length]; rfl

/-- The first that is wrong, as the document tells it. -/
def condsE (l : List Cond) (a d : Nat) : PV := match firstE (preL l a d) with
  | some (x, e) => .tup [pI (x : Nat), pI e]
  | none => .tup [pI (-1), pI 0]

theorem cRefConds : ∀ (n : Nat) (fl : Fl) (l : List Cond) (a d : Nat), sizeL l ≤ n → lightL l → a + sizeL l ≤ 1000000 → d + sizeL l ≤ 1000000 → Pure Try.prog 46 [.list 7 fl (l.map Cond.pv), pI (a : Nat), pI (d : Nat)] (condsE l a d) := by
  intro n
  induction n with
  | zero =>
    intro fl l a d h _ _ _
    have : l = [] := by
      cases l with
      | nil => rfl
      | cons c l => simp [sizeL, sizeC_eq] at h
    subst this
    refine PureK.of (G_ponderref06_conds.c ?_)
    exact LoopI.each2 (n := 0) (by omega) (fun k x u => True) trivial (fun k x u next hk => by omega) (fun x u next hx => CIf.f (by simp) rfl)
  | succ n ih =>
    intro fl l a d h hlt ha hd
    refine PureK.of (G_ponderref06_conds.c ?_)
    have hll := sizeL_len l
    refine LoopI.each2 (n := l.length) (by omega) (fun k x u => x = ((a + sizeL (l.take k) : Nat) : Int) ∧ firstE (preL (l.take k) a d) = none) ⟨by simp [sizeL], rfl⟩ ?_ ?_
    · rintro k _ u next hk ⟨rfl, hf⟩ hnext
      have hm := sizeL_mem (List.getElem_mem hk)
      have hs := sizeL_split l (k + 1)
      rw [sizeL_take hk] at hs
      have hlk := lightL_iff.1 hlt _ (List.getElem_mem hk)
      have hpre := preL_at hk a d
      refine CIf.t (by simpa using hk) ⟨by omega, _, atRow hk, _, _, _, _, _, _, _, _, _, _, by rw [Cond.pv_eq]; rfl, ?_⟩
      have hc := cRefCondE l[k] d hlk
      rw [Cond.pv_eq] at hc
      refine hc.call ⟨_, rfl, CIf.mk (fun h1 => ?_) (fun h1 => ?_)⟩
      · have h1 : (condE l[k] d == 0) = false := by simpa using h1
        have : firstE (preL l a d) = some (a + sizeL (l.take k), condE l[k] d) := by
          rw [hpre, List.append_assoc, firstE_append, hf, Option.none_or, List.cons_append, firstE, h1]; rfl
        simp only [condsE, this]; rfl
      · have h1 : (condE l[k] d == 0) = true := by simpa using h1
        refine ⟨by omega, _, atRow hk, .sh, l[k].conds.map Cond.pv, by rw [Cond.pv_eq]; rfl, ?_⟩
        have ihk := ih .sh l[k].conds (a + sizeL (l.take k) + 1) (d + 1) (by omega) ((lightC_eq _).1 hlk).2.2.2.2.2 (by omega) (by omega)
        rw [wrap_id (by omega) (by omega), wrap_id (by omega) (by omega)]
        refine ihk.call ?_
        cases hfe : firstE (preL l[k].conds (a + sizeL (l.take k) + 1) (d + 1)) with
        | some r =>
          obtain ⟨x, e⟩ := r
          have hne := firstE_ne hfe
          have : firstE (preL l a d) = some (x, e) := by
            rw [hpre, List.append_assoc, firstE_append, hf, Option.none_or, List.cons_append, firstE, h1, cond_true, firstE_append, hfe]; rfl
          simp only [condsE, hfe, this]
          exact ⟨_, _, rfl, CIf.t (by simpa using hne) rfl⟩
        | none =>
          simp only [condsE, hfe]
          refine ⟨_, _, rfl, CIf.f rfl ⟨by omega, _, atRow hk, .sh, l[k].conds.map Cond.pv, by rw [Cond.pv_eq]; rfl, (cRefSize _ .sh l[k].conds (Nat.le_refl _) (by omega)).call ⟨_, rfl, ?_⟩⟩⟩
          rw [wrap_id (x := (1 : Int) + _) (by omega) (by omega), wrap_id (x := ((a + sizeL (l.take k) : Nat) : Int) + _) (by omega) (by omega)]
          refine hnext _ _ ⟨by rw [sizeL_take hk]; omega, ?_⟩
          rw [preL_take hk, firstE_append, hf, Option.none_or, firstE, h1, cond_true]
          exact hfe
    · rintro _ u next ⟨rfl, hf⟩
      refine CIf.f (by simp) ?_
      rw [List.take_length] at hf
      simp only [condsE, hf]; rfl

theorem cWalk (fy : Fn) (ya yb : List PV) (hy : fnOk fy True) (I : Nat → Mem → Prop) (S : Mem → Prop) : ∀ (n : Nat) (fl : Fl) (l : List Cond) (a d j : Nat) (μ : Mem), sizeL l ≤ n → a + sizeL l ≤ 1000000 → d + sizeL l ≤ 1000000 → I j μ →
    (∀ (k : Nat) (x : Nat × Nat × Cond) (μ : Mem), (preL l a d)[k]? = some x → I (j + k) μ → CallVP Try.prog (.fn fy ya yb) [pI (x.1 : Nat), pI (x.2.1 : Nat), .agg x.2.2.pv] μ fun v μ' => (v = pB true ∧ I (j + k + 1) μ') ∨ (v = pB false ∧ S μ')) →
    CallP Try.prog 39 [.list 7 fl (l.map Cond.pv), pI (a : Nat), pI (d : Nat), .fn fy ya yb] μ fun p μ' => (p = .tup [pI ((a + sizeL l : Nat) : Int), pB true] ∧ I (j + sizeL l) μ') ∨ ∃ x : Int, p = .tup [pI x, pB false] ∧ S μ' := by
  intro n
  induction n with
  | zero =>
    intro fl l a d j μ h _ _ hI _
    have : l = [] := by
      cases l with
      | nil => rfl
      | cons c l => simp [sizeL, sizeC_eq] at h
    subst this
    refine G_shape_walk.c ?_
    exact LoopI.each2 (n := 0) (by omega) (fun k x u => x = (a : Int) ∧ I j u) ⟨rfl, hI⟩ (fun k x u next hk => by omega) (fun x u next hx => by obtain ⟨rfl, hx⟩ := hx; exact CIf.f (by simp) (.inl ⟨rfl, hx⟩))
  | succ n ih =>
    intro fl l a d j μ h ha hd hI hstep
    refine G_shape_walk.c ?_
    have hll := sizeL_len l
    refine LoopI.each2 (n := l.length) (by omega) (fun k x u => x = ((a + sizeL (l.take k) : Nat) : Int) ∧ I (j + sizeL (l.take k)) u) ⟨by simp [sizeL], by simpa [sizeL] using hI⟩ ?_ ?_
    · rintro k _ u next hk ⟨rfl, hIk⟩ hnext
      have hm := sizeL_mem (List.getElem_mem hk)
      have hs := sizeL_split l (k + 1)
      rw [sizeL_take hk] at hs
      have hpre := preL_at hk a d
      have hpl := preL_len (l.take k) a d
      refine CIf.t (by simpa using hk) ⟨by omega, _, atRow hk, _, _, _, _, _, _, _, _, _, _, by rw [Cond.pv_eq]; rfl, ?_⟩
      have h0 := hstep (sizeL (l.take k)) (a + sizeL (l.take k), d, l[k]) u (by
        rw [hpre, List.append_assoc, List.getElem?_append_right (by omega), hpl]; simp) hIk
      rw [Cond.pv_eq] at h0
      refine h0.mono ?_
      rintro v μ1 (⟨rfl, hI1⟩ | ⟨rfl, hS⟩)
      · refine ⟨_, rfl, CIf.f rfl ?_⟩
        rw [wrap_id (by omega) (by omega), wrap_id (by omega) (by omega)]
        have ihk := ih .sh l[k].conds (a + sizeL (l.take k) + 1) (d + 1) (j + sizeL (l.take k) + 1) μ1 (by omega) (by omega) (by omega) hI1 (fun k' x μ' hx hI' => by
          have hlen := preL_len l[k].conds (a + sizeL (l.take k) + 1) (d + 1)
          have hk' : k' < sizeL l[k].conds := by rw [← hlen]; exact (List.getElem?_eq_some_iff.1 hx).1
          have := hstep (sizeL (l.take k) + 1 + k') x μ' (by
            rw [hpre, List.append_assoc, List.getElem?_append_right (by omega), hpl]
            have : sizeL (l.take k) + 1 + k' - sizeL (l.take k) = k' + 1 := by omega
            rw [this, List.cons_append, List.getElem?_cons_succ, List.getElem?_append_left (by omega)]
            exact hx) (by rw [← Nat.add_assoc, ← Nat.add_assoc]; exact hI')
          rw [← Nat.add_assoc, ← Nat.add_assoc] at this
          exact this)
        refine CallP.mono ihk ?_
        rintro v μ2 (⟨rfl, hI2⟩ | ⟨x, rfl, hS⟩)
        · refine ⟨_, _, rfl, CIf.f rfl (hnext _ _ ⟨by rw [sizeL_take hk]; omega, ?_⟩)⟩
          rw [sizeL_take hk, ← Nat.add_assoc, ← Nat.add_assoc]; exact hI2
        · exact ⟨_, _, rfl, CIf.t rfl (.inr ⟨x, rfl, hS⟩)⟩
      · exact ⟨_, rfl, CIf.t rfl (.inr ⟨_, rfl, hS⟩)⟩
    · rintro _ u next ⟨rfl, hIk⟩
      refine CIf.f (by simp) (.inl ?_)
      rw [List.take_length] at hIk ⊢
      exact ⟨rfl, hIk⟩

end Go.Proofs.Ytfjemjnbemdkgaa
