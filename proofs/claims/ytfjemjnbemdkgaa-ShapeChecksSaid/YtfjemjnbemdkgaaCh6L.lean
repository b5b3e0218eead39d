import Derived.Test.YtfjemjnbemdkgaaCh6K
/-
  Check, Vars: the program's.
-/
namespace Go.Proofs.Ytfjemjnbemdkgaa
open Go.Eng Go.RowKit
set_option linter.unusedVariables false
set_option linter.unusedSimpArgs false
set_option linter.unnecessarySimpa false

@[reducible] def prodPV (fc fa : Fl) (p : Prod) : PV := .agg [pS p.name, .list 7 fc (p.conds.map Cond.pv), .list 19 fa (p.acts.map Actn.pv)]
@[reducible] def checkPV (x : Int × Int × List ByteArray) : PV := .tup [pI x.1, pI x.2.1, .list 1 .sh (rowsS x.2.2)]

theorem cChecked (fc fa : Fl) (p : Prod) (hl : lightL p.conds) (hs : sizeL p.conds ≤ 1000000) (ha : p.acts.length ≤ 1000000) : Pure Try.prog 50 [prodPV fc fa p] (checkPV (checkE p)) := by
  refine PureK.of (G_shape_checked.c ?_)
  refine (cShape .sh .sh p hl hs ha).call ⟨_, _, rfl, CIf.mk (fun h1 => ?_) (fun h1 => ?_)⟩
  · unfold checkE; rw [h1]; rfl
  have h0 : (shapeE p).2 = 0 := by simpa using h1
  obtain ⟨s1, s2, s3, s4, hok⟩ := shapeE_ok h0
  cases hc : p.conds with
  | nil => rw [hc] at s1; simp [sizeL] at s1
  | cons c cs =>
  refine ⟨by omega, c.pv, rfl, _, by rw [Cond.pv_eq]; rfl, CIf.mk (fun h2 => ?_) (fun h2 => ?_)⟩
  · unfold checkE; rw [h1, hc]; simp only [cond_false, List.head?_cons, Option.map_some, Option.getD_some, h2, cond_true]; rfl
  have hE : checkE p = match knowL p.conds 0 [] with
      | .error n => ((n : Int), 6, [])
      | .ok K => match firstL K 0 p.acts with
        | some i => (((sizeL p.conds + i : Nat) : Int), 6, [])
        | none => (-1, 0, K) := by
    unfold checkE
    rw [h1]
    simp only [cond_false]
    rw [show (p.conds.head?.map Cond.kind).getD 0 = c.kind by rw [hc]; rfl, h2]
    rfl
  rw [← hc]
  refine cNew .nil fun μ1 b hb i1 i2 => ⟨_, rfl, fun k hk => ?_⟩
  have hkb : k ≠ b := by rintro rfl; exact i1.at_.2 k (by simp) hk
  have hkn : KnIn (μ1.set k (some (.cells tyKnown [pP b 0, .list 1 .nil []]))) k [] [] (k :: ([b] ++ tipL .nil)) := by
    refine ⟨⟨b, [], .nil, [b], Mem.set_same _ _ _, i1.same fun x hx => Mem.set_ne _ _ ?_, List.Pairwise.nil, fun y => Iff.rfl, Nat.le_refl _, trivial, by simpa using hkb, fun x hx => by simp [tipL] at hx, rfl⟩, Nat.le_refl _⟩
    rintro rfl
    simp at hx; exact hkb hx
  refine cKConds _ hkn fc p.conds 0 (Nat.le_refl _) hok (by simp) (by omega) (fun μ2 F2 K e j1 j2 j3 j4 j5 => ⟨_, _, rfl, CIf.f rfl ?_⟩) (fun μ2 e j1 => ⟨_, _, rfl, CIf.t rfl ?_⟩)
  · rw [List.nil_append] at j2 j4
    subst j2
    rw [Nat.zero_add] at j3
    refine LoopI.each (n := p.acts.length) (by omega) (fun i u => u = μ2 ∧ firstL K 0 (p.acts.take i) = none) ⟨rfl, rfl⟩ ?_ ?_
    · rintro i u next hi ⟨rfl, hf⟩ hnext
      have hT := firstL_take hi hf
      refine CIf.t (by simpa using hi) ⟨by omega, _, atRow hi, _, _, _, _, _, _, _, _, _, _, _, _, _, _, _, _, _, _, _, rfl, ?_⟩
      have hit : lackA K p.acts[i] = true → checkPV (checkE p) = wk (.tup [pI (IntKind.wrap .i64 (((0 + sizeL p.conds : Nat) : Int) + (i : Int))), pI 6, .list 1 .nil []]) := fun hl => by
        rw [hE, j1]
        simp only [firstL_hit hi hf hl, Nat.zero_add]
        rw [wrap_id (by omega) (by omega)]
        simp only [wk, wk2, wk1, List.map_cons, List.map_nil, rowsS]
        congr 3
      have miss : lackA K p.acts[i] = false → next (IntKind.wrap .i64 ((i : Int) + 1)) u := fun hl => hnext _ ⟨rfl, by rw [hT, hl]; rfl⟩
      refine cLacks j4 (by omega) p.acts[i].attr ⟨_, rfl, CIf.mk (fun a1 => ?_) (fun a1 => ?_)⟩
      · exact (hit (by unfold lackA; rw [a1]; rfl)).symm
      refine CIf.mk (fun a2 => ?_) (fun a2 => miss (by unfold lackA; rw [a1, a2]; rfl))
      refine cLacks j4 (by omega) p.acts[i].value.a ⟨_, rfl, CIf.mk (fun a3 => ?_) (fun a3 => ?_)⟩
      · exact (hit (by unfold lackA; rw [a1, a2, a3]; rfl)).symm
      refine cLacks j4 (by omega) p.acts[i].value.b ⟨_, rfl, CIf.mk (fun a4 => ?_) (fun a4 => ?_)⟩
      · exact (hit (by unfold lackA; rw [a1, a2, a3, a4]; rfl)).symm
      · exact miss (by unfold lackA; rw [a1, a2, a3, a4]; rfl)
    · rintro u next ⟨rfl, hf⟩
      rw [List.take_length] at hf
      obtain ⟨b', L, fl, Fs, m1, _⟩ := j4.ex
      refine CIf.f (by simp) ⟨_, _, rdM_at m1 (by simp), ?_⟩
      rw [hE, j1]
      simp only [hf]
      rfl
  · rw [hE, j1]; rfl

theorem cCheck (fc fa : Fl) (p : Prod) (hl : lightL p.conds) (hs : sizeL p.conds ≤ 1000000) (ha : p.acts.length ≤ 1000000) : Pure Try.prog 16 [prodPV fc fa p] (.tup [pI (checkE p).1, pI (checkE p).2.1]) := by
  refine PureK.of (G_shape_Check.c ?_)
  exact (cChecked .sh .sh p hl hs ha).call ⟨_, _, _, _, rfl, rfl⟩

theorem cVars (fc fa : Fl) (p : Prod) (hl : lightL p.conds) (hs : sizeL p.conds ≤ 1000000) (ha : p.acts.length ≤ 1000000) : Pure Try.prog 22 [prodPV fc fa p] (.list 1 .sh (rowsS (checkE p).2.2)) := by
  refine PureK.of (G_shape_Vars.c ?_)
  exact (cChecked .sh .sh p hl hs ha).call ⟨_, _, _, _, rfl, rfl⟩

end Go.Proofs.Ytfjemjnbemdkgaa
