import Derived.Test.YtdiimonfmdbclaaCh12E
/-
  The laws of chapter 12: users.
-/
namespace Go.Proofs.Ytdiimonfmdbclaa
open Go.Eng Go.RowKit
set_option linter.unusedVariables false
set_option linter.unusedSimpArgs false
set_option linter.unnecessarySimpa false

theorem get0 (m : AMemo) (r : AMs) : getK cmpI numM 0 ((0, m) :: r) = some (0, m) := by simp [getK, eqK, cmpI, numM]
theorem get01 (m : AMemo) : getK cmpI numM 0 [(1, m)] = none := by simp [getK, eqK, cmpI, numM]
theorem least1 (m : AMemo) : least [(0, m)] = 1 := by simp [least]
theorem least01 (m : AMemo) : least [(1, m)] = 0 := by simp [least]
theorem ins1 (m m' : AMemo) : insK cmpI numM (1, m') [(0, m)] = [(0, m), (1, m')] := by simp [insK, ltK, gtK, cmpI, numM]
theorem ins01 (m m' : AMemo) : insK cmpI numM (0, m') [(1, m)] = [(0, m'), (1, m)] := by simp [insK, ltK, gtK, cmpI, numM]
theorem ins2 (m m' k : AMemo) : insK cmpI numM (0, m') [(0, m), (1, k)] = [(0, m'), (1, k)] := by simp [insK, ltK, gtK, cmpI, numM]
theorem del2 (m k : AMemo) : delK cmpI numM 0 [(0, m), (1, k)] = [(1, k)] := by simp [delK, eqK, cmpI, numM]

theorem leave1 (m : AMemo) (h : m.users ≠ 1) : leaveM 0 [(0, m)] = [(0, { m with users := m.users - 1 })] := by
  unfold leaveM; rw [get0]; simp only; rw [if_neg h, ins_same]
theorem leave2 (m k : AMemo) (h : m.users ≠ 1) : leaveM 0 [(0, m), (1, k)] = [(0, { m with users := m.users - 1 }), (1, k)] := by
  unfold leaveM; rw [get0]; simp only; rw [if_neg h, ins2]
theorem leave3 (m k : AMemo) (h : m.users = 1) : leaveM 0 [(0, m), (1, k)] = [(1, k)] := by
  unfold leaveM; rw [get0]; simp only; rw [if_pos h, del2]

theorem cAlphaUsers (c d : Cond) (t : Int) : Pure Try.prog 4 [.agg c.pv, .agg d.pv, pI t] (pB true) := by
  rw [Cond.pv_eq c, Cond.pv_eq d]
  refine PureK.of (G_ponderlaw12_AlphaUsers.c ⟨fun s u => s = false → lightC c ∧ lightC d, ?_, ?_⟩)
  · refine PureK.call (cSizeCC .nr [c, d] 20 (by omega)) ?_
    rintro _ ⟨r, rfl, _, hr⟩
    refine ⟨_, rfl, CIf.mk (fun h => (fun h => by cases h)) (fun h => ?_)⟩
    have h := of_decide_eq_false h
    have hr := hr (by omega)
    refine PureK.call (cHeavyCC .nr [c, d] (by rw [hr]; omega)) ?_
    rintro _ ⟨q, rfl, hq⟩
    exact ⟨_, rfl, fun hf => ⟨(hq hf).1, (hq hf).2.1⟩⟩
  · intro s u hs
    refine CIf.mk (fun h => cWakes12.call ⟨_, rfl, rfl⟩) (fun h => ?_)
    obtain ⟨hc, hd⟩ := hs h
    refine cANew (L := []) trivial fun u1 n h1 => ⟨_, rfl, CIf.f rfl ?_⟩
    refine PureK.call (cWithin t 9 (by omega) (by omega)) ?_
    rintro _ ⟨w, rfl, hw9⟩
    have hw1 : IntKind.wrap .i64 ((1 : Int) + (w : Nat)) = ((w + 1 : Nat) : Int) := by rw [wrap_id (by omega) (by omega)]; omega
    refine ⟨_, rfl, ?_⟩
    rw [hw1]
    refine LoopI.each (n := w + 1) (by omega) (fun i u => ∃ ms, AInv [] ms ∧ (i = 0 → ms = []) ∧ (i ≠ 0 → ∃ m, ms = [(0, m)] ∧ m.c = bareC c ∧ m.users = i) ∧ Ow [NetAt n [] ms] u) ⟨[], AInv.nil, fun _ => rfl, fun h => absurd rfl h, h1⟩ ?_ ?_
    · rintro i u next hi ⟨ms, hI, hi0, hi1, hO⟩ hnext
      have hwi : IntKind.wrap .i64 ((i : Int) + 1) = ((i + 1 : Nat) : Int) := by rw [wrap_id (by omega) (by omega)]; omega
      refine CIf.t (by simp; omega) ?_
      by_cases h0 : i = 0
      · have := hi0 h0
        subst this
        refine cAWant hO AInv.nil (by decide) (by simp) c hc (fun x hx => by cases hx) fun _ u2 b h2 => ⟨_, rfl, CIf.f rfl ?_⟩
        rw [ins_nil] at h2
        have hI2 : AInv [] [(least [], ⟨bareC c, 1, b, [].filter (meetsC (bareC c))⟩)] := (AInv.nil.new (bare_bare hc) (by simp) b (by decide)).2
        refine cAUsers h2 hI2 0 fun u3 h3 => ⟨_, rfl, CIf.f ?_ (hnext _ ⟨_, hI2, fun h => by omega, fun _ => ⟨_, rfl, rfl, ?_⟩, h3⟩)⟩
        · rw [hwi, h0]; rfl
        · rw [h0]; rfl
      · obtain ⟨m, rfl, hmc, hmu⟩ := hi1 h0
        have hum : m.users + 1 < 1000000 := by omega
        refine cAWant hO hI (by simp) (by simpa using hum) c hc (fun x hx ec u2 h2 => ⟨_, rfl, ?_⟩) (fun hno => absurd hmc (hno (0, m) (by simp)))
        have hx : x = (0, m) := by simpa using hx
        subst hx
        have h2' : Ow [NetAt n [] (insK cmpI numM (0, { m with users := m.users + 1 }) [(0, m)])] u2 := h2
        rw [ins_same] at h2'
        have hI2 : AInv [] [(0, { m with users := m.users + 1 })] := by
          have := hI.upd (x := (0, m)) (x' := (0, { m with users := m.users + 1 })) (by simp) rfl rfl rfl ⟨by show 1 ≤ m.users + 1; omega, hum⟩
          rw [ins_same] at this; exact this
        refine CIf.f rfl (cAUsers h2' hI2 0 fun u3 h3 => ⟨_, rfl, CIf.f ?_ (hnext _ ⟨_, hI2, fun h => by omega, fun _ => ⟨_, rfl, hmc, ?_⟩, h3⟩)⟩)
        · rw [get0, hwi]
          show ((m.users + 1 : Int) != ((i + 1 : Nat) : Int)) = false
          simp; omega
        · show m.users + 1 = ((i + 1 : Nat) : Int)
          omega
    · rintro u next ⟨ms, hI, _, hi1, hO⟩
      obtain ⟨m, rfl, hmc, hmu⟩ := hi1 (by omega)
      have hum : m.users + 1 < 1000000 := by omega
      have go : ∀ (k : Int) (ms2 : AMs) (u2 : Mem), AInv [] ms2 → (bareC c = bareC d → k = 0 ∧ ms2 = [(0, { m with users := m.users + 1 })]) → (bareC c ≠ bareC d → k = 1 ∧ ∃ m2, ms2 = [(0, m), (1, m2)] ∧ m2.users = 1) → Ow [NetAt n [] ms2] u2 →
          LoopI (α := Int) (fun next_1 s_2 u_13 =>
                  CIf (decide ((s_2 : Int) < ((w + 1 : Nat) : Int)))
                  (CallP Try.prog 19 [(.raw (.pointer (some ⟨n, 0, none⟩))), (pI (0))] u_13 fun v_11 u_14 =>
                    ∃ (x66 : Bool), v_11 = (pB x66) ∧
                    CIf (!x66)
                    ((fun p (_ : Mem) => wk p = pB true) (pB false) u_14)
                    (next_1 (IntKind.wrap .i64 (s_2 + (1))) u_14))
                  (CIf ((k : Int) == (0))
                    (CallP Try.prog 20 [(.raw (.pointer (some ⟨n, 0, none⟩)))] u_13 fun v_12 u_15 =>
                      ∃ (x71 : Int), v_12 = (pI x71) ∧
                      CIf ((x71 : Int) == (1))
                      (CallP Try.prog 18 [(.raw (.pointer (some ⟨n, 0, none⟩))), (pI (0))] u_15 fun v_13 u_16 =>
                        ∃ (x75 : Int), v_13 = (pI x75) ∧
                        CIf ((x75 : Int) == (1))
                        (CallP Try.prog 9 [] u_16 fun v_14 u_17 =>
                        ∃ (x79 : Bool), v_14 = (pB x79) ∧
                        (fun p (_ : Mem) => wk p = pB true) (pB x79) u_17)
                        ((fun p (_ : Mem) => wk p = pB true) (pB false) u_16))
                      ((fun p (_ : Mem) => wk p = pB true) (pB false) u_15))
                    (CallP Try.prog 20 [(.raw (.pointer (some ⟨n, 0, none⟩)))] u_13 fun v_15 u_18 =>
                      ∃ (x82 : Int), v_15 = (pI x82) ∧
                      CIf ((x82 : Int) == (1))
                      (CallP Try.prog 18 [(.raw (.pointer (some ⟨n, 0, none⟩))), (pI (0))] u_18 fun v_16 u_19 =>
                        ∃ (x86 : Int), v_16 = (pI x86) ∧
                        CIf ((x86 : Int) == (0))
                        (CallP Try.prog 19 [(.raw (.pointer (some ⟨n, 0, none⟩))), (pI (0))] u_19 fun v_17 u_20 =>
                        ∃ (x91 : Bool), v_17 = (pB x91) ∧
                        CIf (!x91)
                        (CallP Try.prog 17 [(.raw (.pointer (some ⟨n, 0, none⟩))), (.agg (cc c))] u_20 fun v_18 u_21 =>
                        ∃ (x97 : Int), v_18 = (pI x97) ∧
                        CIf ((x97 : Int) == (0))
                        (CallP Try.prog 20 [(.raw (.pointer (some ⟨n, 0, none⟩)))] u_21 fun v_19 u_22 =>
                        ∃ (x102 : Int), v_19 = (pI x102) ∧
                        CIf ((x102 : Int) == (2))
                        (CallP Try.prog 9 [] u_22 fun v_20 u_23 =>
                        ∃ (x106 : Bool), v_20 = (pB x106) ∧
                        (fun p (_ : Mem) => wk p = pB true) (pB x106) u_23)
                        ((fun p (_ : Mem) => wk p = pB true) (pB false) u_22))
                        ((fun p (_ : Mem) => wk p = pB true) (pB false) u_21))
                        ((fun p (_ : Mem) => wk p = pB true) (pB false) u_20))
                        ((fun p (_ : Mem) => wk p = pB true) (pB false) u_19))
                      ((fun p (_ : Mem) => wk p = pB true) (pB false) u_18))))
                (0) u2 := fun k ms2 u2 hI2 h1 h2 hO2 => by
        by_cases e : bareC c = bareC d
        · obtain ⟨rfl, rfl⟩ := h1 e
          refine LoopI.each (n := w + 1) (by omega) (fun j u => ∃ m', AInv [] [(0, m')] ∧ m'.users = m.users + 1 - j ∧ Ow [NetAt n [] [(0, m')]] u) ⟨_, hI2, by simp, hO2⟩ ?_ ?_
          · rintro j u3 next3 hj ⟨m', hI3, hm', hO3⟩ hnext3
            refine CIf.t (by simp; omega) (cALeave hO3 hI3 0 fun u4 h4 => ⟨_, rfl, ?_⟩)
            have hne : m'.users ≠ 1 := by omega
            have hI4 := hI3.leave 0
            rw [leave1 m' hne] at h4 hI4
            rw [get0]
            exact CIf.f rfl (hnext3 _ ⟨_, hI4, by show m'.users - 1 = _; omega, h4⟩)
          · rintro u3 next3 ⟨m', hI3, hm', hO3⟩
            refine CIf.f (by simp) (CIf.t rfl (cALen hO3 ⟨_, rfl, CIf.t rfl (cAUsers hO3 hI3 0 fun u4 h4 => ⟨_, rfl, CIf.t ?_ (cWakes12.call ⟨_, rfl, rfl⟩)⟩)⟩))
            rw [get0]
            show (m'.users == 1) = true
            simp; omega
        · obtain ⟨rfl, m2, rfl, hm2⟩ := h2 e
          refine LoopI.each (n := w + 1) (by omega) (fun j u => (j ≤ w → ∃ m', AInv [] [(0, m'), (1, m2)] ∧ m'.users = m.users - j ∧ Ow [NetAt n [] [(0, m'), (1, m2)]] u) ∧ (j = w + 1 → AInv [] [(1, m2)] ∧ Ow [NetAt n [] [(1, m2)]] u)) ⟨fun _ => ⟨m, hI2, by simp, hO2⟩, fun h => by omega⟩ ?_ ?_
          · rintro j u3 next3 hj ⟨hA, _⟩ hnext3
            obtain ⟨m', hI3, hm', hO3⟩ := hA (by omega)
            refine CIf.t (by simp; omega) (cALeave hO3 hI3 0 fun u4 h4 => ⟨_, rfl, ?_⟩)
            have hI4 := hI3.leave 0
            rw [get0]
            by_cases hjw : j = w
            · have h1u : m'.users = 1 := by omega
              rw [leave3 m' m2 h1u] at h4 hI4
              exact CIf.f rfl (hnext3 _ ⟨fun h => by omega, fun _ => ⟨hI4, h4⟩⟩)
            · have hne : m'.users ≠ 1 := by omega
              rw [leave2 m' m2 hne] at h4 hI4
              exact CIf.f rfl (hnext3 _ ⟨fun _ => ⟨_, hI4, by show m'.users - 1 = _; omega, h4⟩, fun h => by omega⟩)
          · rintro u3 next3 ⟨_, hB⟩
            obtain ⟨hI3, hO3⟩ := hB rfl
            refine CIf.f (by simp) (CIf.f rfl (cALen hO3 ⟨_, rfl, CIf.t rfl (cAUsers hO3 hI3 0 fun u4 h4 => ⟨_, rfl, ?_⟩)⟩))
            rw [get01]
            refine CIf.t rfl (cALeave h4 hI3 0 fun u5 h5 => ⟨_, rfl, ?_⟩)
            have e1 : leaveM 0 [(1, m2)] = [(1, m2)] := by unfold leaveM; rw [get01]
            rw [e1] at h5
            rw [get01]
            refine CIf.t rfl (cAWant h5 hI3 (by simp) (by simp [hm2]) c hc (fun x hx ec => ?_) fun hno u6 b h6 => ⟨_, rfl, ?_⟩)
            · have hx : x = (1, m2) := by simpa using hx
              subst hx
              have hmm := hI2.inj (0, m) (by simp) (1, m2) (by simp) (by rw [hmc]; exact ec.symm)
              cases hmm
            · rw [least01, ins01] at h6
              rw [least01]
              exact CIf.t rfl (cALen h6 ⟨_, rfl, CIf.t rfl (cWakes12.call ⟨_, rfl, rfl⟩)⟩)
      refine CIf.f (by simp) ?_
      refine cAWant hO hI (by simp) (by simpa using hum) d hd (fun x hx ec u2 h2 => ⟨_, rfl, ?_⟩) (fun hno u2 b h2 => ⟨_, rfl, ?_⟩)
      · have hx : x = (0, m) := by simpa using hx
        subst hx
        have ecd : bareC c = bareC d := by rw [← hmc]; exact ec
        have h2' : Ow [NetAt n [] (insK cmpI numM (0, { m with users := m.users + 1 }) [(0, m)])] u2 := h2
        rw [ins_same] at h2'
        have hI2 : AInv [] [(0, { m with users := m.users + 1 })] := by
          have := hI.upd (x := (0, m)) (x' := (0, { m with users := m.users + 1 })) (by simp) rfl rfl rfl ⟨by show 1 ≤ m.users + 1; omega, hum⟩
          rw [ins_same] at this; exact this
        refine (cBare c .sh .sh .sh hc).q ⟨_, _, _, _, _, _, _, _, _, _, rfl, ?_⟩
        rw [Mem.or_M0]
        refine (cBare d .sh .sh .sh hd).call ⟨_, _, _, _, _, _, _, _, _, _, rfl, (qCond (bareC c) (bareC d) (by show sizeL [] ≤ _; simp [sizeL]) (bare_light hc)).call (fun e => ⟨_, rfl, CIf.f rfl (CIf.f rfl ?_)⟩) (fun hne => absurd ecd hne)⟩
        exact go 0 _ u2 hI2 (fun _ => ⟨rfl, rfl⟩) (fun hne => absurd ecd hne) h2'
      · have ecd : bareC c ≠ bareC d := fun e => hno (0, m) (by simp) (by rw [hmc]; exact e)
        have hI2 := (hI.new (bare_bare hd) hno b (by simp)).2
        rw [least1, ins1] at h2 hI2
        rw [least1]
        refine (cBare c .sh .sh .sh hc).q ⟨_, _, _, _, _, _, _, _, _, _, rfl, ?_⟩
        rw [Mem.or_M0]
        refine (cBare d .sh .sh .sh hd).call ⟨_, _, _, _, _, _, _, _, _, _, rfl, (qCond (bareC c) (bareC d) (by show sizeL [] ≤ _; simp [sizeL]) (bare_light hc)).call (fun e => absurd e ecd) (fun hne => ⟨_, rfl, CIf.f rfl (CIf.f rfl ?_)⟩)⟩
        exact go 1 _ u2 hI2 (fun e => absurd e ecd) (fun _ => ⟨rfl, _, rfl, rfl⟩) h2

end Go.Proofs.Ytdiimonfmdbclaa
