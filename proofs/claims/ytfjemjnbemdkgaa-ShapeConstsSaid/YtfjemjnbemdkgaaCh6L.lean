import Derived.Test.YtfjemjnbemdkgaaCh6K
/-
  Check, Vars: the program's.
-/
namespace Go.Proofs.Ytfjemjnbemdkgaa
open Go.Eng Go.RowKit
set_option linter.unusedVariables false
set_option linter.unusedSimpArgs false
set_option linter.unnecessarySimpa false

@[reducible] def prodPV (fc fa : Fl) (p : Prod) : PV := .agg [pS p.name, .list 7 fc (p.conds.map Cond.pv), .list 19 fa (p.acts.map Actn.pv)]
@[reducible] def checkPV (x : Int × Int × List ByteArray) : PV := .tup [pI x.1, pI x.2.1, .list 1 .sh (rowsS x.2.2)]

theorem cCheckedR {μ : Mem} (fc fa : Fl) (p : Prod) (hl : lightL p.conds) (hs : sizeL p.conds ≤ 1000000) (ha : p.acts.length ≤ 1000000) {R : PV → Mem → Prop} (hR : ∀ μ' q Fr, RowIn μ' q (checkE p).2.2 Fr → Mv μ μ' [] Fr → R (.tup [pI (checkE p).1, pI (checkE p).2.1, q]) μ') : CallP Try.prog 50 [prodPV fc fa p] μ R := by
  refine G_shape_checked.c ?_
  have nilR : (checkE p).2.2 = [] → ∀ μ' a e, Mv μ μ' [] [] → (checkE p).1 = a → (checkE p).2.1 = e → R (.tup [pI a, pI e, .list 1 .nil []]) μ' := fun h0 μ' a e hm h1 h2 => by
    have := hR μ' (.list 1 .nil []) [] (.inl ⟨rfl, h0, rfl⟩) hm
    rw [h1, h2] at this
    exact this
  refine (cShape .sh .sh p hl hs ha).call ⟨_, _, rfl, CIf.mk (fun h1 => ?_) (fun h1 => ?_)⟩
  · have hE : checkE p = ((shapeE p).1, (shapeE p).2, []) := by unfold checkE; rw [h1]; rfl
    exact nilR (by rw [hE]) _ _ _ (Mv.refl _ _) (by rw [hE]) (by rw [hE])
  have h0 : (shapeE p).2 = 0 := by simpa using h1
  obtain ⟨s1, s2, s3, s4, hok⟩ := shapeE_ok h0
  cases hc : p.conds with
  | nil => rw [hc] at s1; simp [sizeL] at s1
  | cons c cs =>
  refine ⟨by omega, c.pv, rfl, _, by rw [Cond.pv_eq]; rfl, CIf.mk (fun h2 => ?_) (fun h2 => ?_)⟩
  · have hE : checkE p = (0, 9, []) := by unfold checkE; rw [h1, hc]; simp only [cond_false, List.head?_cons, Option.map_some, Option.getD_some, h2, cond_true]
    exact nilR (by rw [hE]) _ _ _ (Mv.refl _ _) (by rw [hE]) (by rw [hE])
  have hE : checkE p = match knowL p.conds 0 [] with
      | .error n => ((n : Int), 6, [])
      | .ok K => match firstL K 0 p.acts with
        | some i => (((sizeL p.conds + i : Nat) : Int), 6, [])
        | none => (-1, 0, K) := by
    unfold checkE
    rw [h1]
    simp only [cond_false]
    rw [show (p.conds.head?.map Cond.kind).getD 0 = c.kind by rw [hc]; rfl, h2]
    rfl
  rw [← hc]
  refine cNew .nil fun μ1 b hb i1 i2 => ⟨_, rfl, fun k hk => ?_⟩
  have hkb : k ≠ b := by rintro rfl; exact i1.at_.2 k (by simp) hk
  have hkn : KnIn (μ1.set k (some (.cells tyKnown [pP b 0, .list 1 .nil []]))) k [] [] (k :: ([b] ++ [])) := by
    refine ⟨⟨b, [], _, [b], [], Mem.set_same _ _ _, i1.same fun x hx => Mem.set_ne _ _ ?_, List.Pairwise.nil, fun y => Iff.rfl, Nat.le_refl _, .inl ⟨rfl, rfl, rfl⟩, by simpa using hkb, fun x hx => by simp at hx, rfl⟩, Nat.le_refl _⟩
    rintro rfl
    simp at hx; exact hkb hx
  have hm0 : Mv μ (μ1.set k (some (.cells tyKnown [pP b 0, .list 1 .nil []]))) [] (k :: ([b] ++ [])) := i2.trans (Mv.set (.inr hk))
  refine CallP.post (cKConds _ hkn fc p.conds 0 (Nat.le_refl _) hok (by simp) (by omega) (fun μ2 F2 K e j1 j2 j3 j4 j5 => ?_) (fun μ2 F2 e j1 j5 => ?_))
  · rw [List.nil_append] at j2 j4
    subst j2
    obtain ⟨μ3, hG, hm3, b', L, q, Fs, Fr, m1, _, _, _, _, m6, _, _, hF⟩ := j4.raw
    refine ⟨μ3, hG, _, _, rfl, CIf.f rfl ?_⟩
    rw [Nat.zero_add] at j3
    have j4' : KnIn μ3 k K K F2 := by
      obtain ⟨μ4, _, _, _⟩ := j4.raw
      exact ⟨⟨b', L, q, Fs, Fr, m1, by assumption, by assumption, by assumption, by assumption, .inr m6, by assumption, by assumption, hF⟩, Nat.le_refl _⟩
    have hmv : Mv μ μ3 [] F2 := hm0.trans (j5.trans hm3)
    have hmv0 : Mv μ μ3 [] [] := hmv.sub (by simp)
    refine LoopI.each (n := p.acts.length) (by omega) (fun i u => u = μ3 ∧ firstL K 0 (p.acts.take i) = none) ⟨rfl, rfl⟩ ?_ ?_
    · rintro i u next hi ⟨rfl, hf⟩ hnext
      have hT := firstL_take hi hf
      refine CIf.t (by simpa using hi) ⟨by omega, _, atRow hi, _, _, _, _, _, _, _, _, _, _, _, _, _, _, _, _, _, _, _, rfl, ?_⟩
      have hit : lackA K p.acts[i] = true → R (.tup [pI (IntKind.wrap .i64 (((0 + sizeL p.conds : Nat) : Int) + (i : Int))), pI 6, .list 1 .nil []]) u := fun hl => by
        have hE' : checkE p = (((sizeL p.conds + i : Nat) : Int), 6, []) := by rw [hE, j1]; simp only [firstL_hit hi hf hl, Nat.zero_add]
        refine nilR (by rw [hE']) _ _ _ hmv0 ?_ (by rw [hE'])
        rw [hE', wrap_id (by omega) (by omega)]; simp only; omega
      have miss : lackA K p.acts[i] = false → next (IntKind.wrap .i64 ((i : Int) + 1)) u := fun hl => hnext _ ⟨rfl, by rw [hT, hl]; rfl⟩
      refine cLacks j4' (by omega) p.acts[i].attr ⟨_, rfl, CIf.mk (fun a1 => ?_) (fun a1 => ?_)⟩
      · exact hit (by unfold lackA; rw [a1]; rfl)
      refine CIf.mk (fun a2 => ?_) (fun a2 => miss (by unfold lackA; rw [a1, a2]; rfl))
      refine cLacks j4' (by omega) p.acts[i].value.a ⟨_, rfl, CIf.mk (fun a3 => ?_) (fun a3 => ?_)⟩
      · exact hit (by unfold lackA; rw [a1, a2, a3]; rfl)
      refine cLacks j4' (by omega) p.acts[i].value.b ⟨_, rfl, CIf.mk (fun a4 => ?_) (fun a4 => ?_)⟩
      · exact hit (by unfold lackA; rw [a1, a2, a3, a4]; rfl)
      · exact miss (by unfold lackA; rw [a1, a2, a3, a4]; rfl)
    · rintro u next ⟨rfl, hf⟩
      rw [List.take_length] at hf
      have hE' : checkE p = (-1, 0, K) := by rw [hE, j1]; simp only [hf]
      obtain ⟨a, c', rfl, _⟩ := m6.app (rowsS_each K)
      refine CIf.f (by simp) ⟨_, _, _, rdM_at m1 (by simp), ?_⟩
      have := hR u _ Fr (by rw [hE']; exact .inr m6) (hmv.sub fun x hx => by rw [hF]; simp [hx])
      rw [hE'] at this
      exact this
  · have hE' : checkE p = ((e : Int), 6, []) := by rw [hE, j1]
    exact ⟨μ2, GU.refl _, _, _, rfl, CIf.t rfl (nilR (by rw [hE']) _ _ _ ((hm0.trans j5).sub (by simp)) (by rw [hE']) (by rw [hE']))⟩

theorem cChecked (fc fa : Fl) (p : Prod) (hl : lightL p.conds) (hs : sizeL p.conds ≤ 1000000) (ha : p.acts.length ≤ 1000000) : Pure Try.prog 50 [prodPV fc fa p] (checkPV (checkE p)) := by
  refine CallP.sealq (cCheckedR fc fa p hl hs ha fun μ' q Fr h hm => ⟨checkPV (checkE p), .tup rfl (fun d hd => ?_) (fun i c d hc hd => ?_), rfl⟩)
  · simp only [List.mem_cons, List.not_mem_nil, or_false] at hd
    rcases hd with rfl | rfl | rfl <;> rfl
  · match i with
    | 0 => simp at hc hd; subst hc hd; exact .same _
    | 1 => simp at hc hd; subst hc hd; exact .same _
    | 2 => simp at hc hd; subst hc hd; exact h.view
    | n + 3 => simp at hc

theorem cCheck (fc fa : Fl) (p : Prod) (hl : lightL p.conds) (hs : sizeL p.conds ≤ 1000000) (ha : p.acts.length ≤ 1000000) : Pure Try.prog 16 [prodPV fc fa p] (.tup [pI (checkE p).1, pI (checkE p).2.1]) := by
  refine PureK.of (G_shape_Check.c ?_)
  exact (cChecked .sh .sh p hl hs ha).call ⟨_, _, _, _, rfl, rfl⟩

theorem cVars (fc fa : Fl) (p : Prod) (hl : lightL p.conds) (hs : sizeL p.conds ≤ 1000000) (ha : p.acts.length ≤ 1000000) : Pure Try.prog 22 [prodPV fc fa p] (.list 1 .sh (rowsS (checkE p).2.2)) := by
  refine PureK.of (G_shape_Vars.c ?_)
  exact (cChecked .sh .sh p hl hs ha).call ⟨_, _, _, _, rfl, rfl⟩

theorem cVarsR {μ : Mem} (fc fa : Fl) (p : Prod) (hl : lightL p.conds) (hs : sizeL p.conds ≤ 1000000) (ha : p.acts.length ≤ 1000000) {R : PV → Mem → Prop} (hR : ∀ μ' q Fr, OwnV tyString 1 μ' q (rowsS (checkE p).2.2) Fr → Mv μ μ' [] Fr → R q μ') : CallP Try.prog 22 [prodPV fc fa p] μ R := by
  refine G_shape_Vars_w.c (CallP.conv (cCheckedR .sh .sh p hl hs ha fun μ' q Fr h hm => ?_))
  rcases h with ⟨rfl, h0, rfl⟩ | h
  · refine ⟨.tup [pI (checkE p).1, pI (checkE p).2.1, .raw (.slice none 0 0)], .tup rfl (fun d hd => ?_) (fun i c d hc hd => ?_), _, _, _, _, _, rfl, hR μ' _ [] (.inl ⟨rfl, by rw [h0]; rfl, rfl⟩) hm⟩
    · simp only [List.mem_cons, List.not_mem_nil, or_false] at hd
      rcases hd with rfl | rfl | rfl <;> rfl
    · match i with
      | 0 => simp at hc hd; subst hc hd; exact .same _
      | 1 => simp at hc hd; subst hc hd; exact .same _
      | 2 => simp at hc hd; subst hc hd; exact .nil 1 []
      | n + 3 => simp at hc
  · obtain ⟨a, c, rfl, _⟩ := h.app (rowsS_each _)
    exact ⟨_, .same _, _, _, _, _, _, rfl, hR μ' _ Fr h hm⟩

end Go.Proofs.Ytfjemjnbemdkgaa
