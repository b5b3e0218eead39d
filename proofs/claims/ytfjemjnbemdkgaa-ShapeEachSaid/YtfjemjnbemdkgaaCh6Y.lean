import Derived.Test.YtfjemjnbemdkgaaCh6X
/-
  The laws of chapter 6: each.
-/
namespace Go.Proofs.Ytfjemjnbemdkgaa
open Go.Eng Go.RowKit
set_option linter.unusedVariables false
set_option linter.unusedSimpArgs false
set_option linter.unnecessarySimpa false

theorem Mem.set_comm (μ : Mem) {a b : Nat} (x y : Option Ob) (h : a ≠ b) : (μ.set a x).set b y = (μ.set b y).set a x := by
  funext c
  by_cases h1 : c = a
  · subst h1; rw [Mem.set_ne _ _ h, Mem.set_same, Mem.set_same]
  · by_cases h2 : c = b
    · subst h2; rw [Mem.set_same, Mem.set_ne _ _ h1, Mem.set_same]
    · rw [Mem.set_ne _ _ h2, Mem.set_ne _ _ h1, Mem.set_ne _ _ h1, Mem.set_ne _ _ h2]

theorem condsEach (L : List Cond) : ∀ r ∈ L.map Cond.pv, r.length = 7 := fun r hr => by
  obtain ⟨c, _, rfl⟩ := List.mem_map.1 hr
  rw [Cond.pv_eq]; rfl
theorem condsCell (L : List Cond) : allCell (L.map Cond.pv).flatten = true := by
  unfold allCell
  rw [List.all_eq_true]
  intro x hx
  obtain ⟨r, hr, hx⟩ := List.mem_flatten.1 hx
  obtain ⟨c, _, rfl⟩ := List.mem_map.1 hr
  rw [Cond.pv_eq] at hx
  simp only [List.mem_cons, List.not_mem_nil, or_false] at hx
  rcases hx with rfl | rfl | rfl | rfl | rfl | rfl | rfl <;> rfl

theorem preL_pos (l : List Cond) (a d k : Nat) (x : Nat × Nat × Cond) (h : (preL l a d)[k]? = some x) : x.1 = a + k := by
  have key : ∀ n (l : List Cond), sizeL l ≤ n → ∀ a d k x, (preL l a d)[k]? = some x → x.1 = a + k := by
    intro n
    induction n with
    | zero =>
      intro l h
      cases l with
      | nil => intro a d k x hx; simp [preL] at hx
      | cons c l => simp [sizeL, sizeC_eq] at h
    | succ n ih =>
      intro l
      induction l with
      | nil => intro _ a d k x hx; simp [preL] at hx
      | cons c l ihl =>
        intro h a d k x hx
        simp only [sizeL, sizeC_eq] at h
        have hlen : (preC c a d).length = sizeC c := preC_len c a d
        simp only [preL] at hx
        by_cases hk : k < sizeC c
        · rw [List.getElem?_append_left (by rw [hlen]; exact hk), preC_eq] at hx
          cases k with
          | zero => simp at hx; rw [← hx]; rfl
          | succ k =>
            rw [List.getElem?_cons_succ] at hx
            have := ih c.conds (by omega) _ _ k x hx
            omega
        · rw [List.getElem?_append_right (by rw [hlen]; omega), hlen] at hx
          have := ihl (by omega) _ _ _ x hx
          omega
  exact key _ l (Nat.le_refl _) a d k x h

/-- out, as it is while the loop runs. -/
structure OutIn (μ : Mem) (b3 b4 b5 b6 : Nat) (n : Nat) (L : List Cond) (Fr : List Nat) : Prop where
  n3 : μ b3 = some (.cells 3 [pI (n : Nat)])
  n4 : ∃ p, μ b4 = some (.cells 22 [p])
  n5 : ∃ p, μ b5 = some (.cells 4 [p])
  out : ∃ p, μ b6 = some (.cells 22 [p]) ∧ OwnV tyCond 7 μ p (L.map Cond.pv) Fr
  d36 : b3 ≠ b6
  d46 : b4 ≠ b6
  d56 : b5 ≠ b6
  d45 : b4 ≠ b5
  f3 : b3 ∉ Fr
  f4 : b4 ∉ Fr
  f5 : b5 ∉ Fr
  f6 : b6 ∉ Fr

theorem cLawConds {μ : Mem} (f : Fl) (l : List Cond) (n : Nat) (h1 : 1 ≤ n) (h2 : n ≤ 1000000) (hs : sizeL l ≤ 100000) {R : PV → Mem → Prop} (hR : ∀ μ' p Fr, OwnV tyCond 7 μ' p (((eachL l).take n).map Cond.pv) Fr → Mv μ μ' [] Fr → R (.tup [p, pB true]) μ') : CallP Try.prog 30 [.list 7 f (l.map Cond.pv), pI (n : Nat)] μ R := by
  refine G_ponderlaw06_conds.c ?_
  intro b3 hb3 b4 hb4 b5 hb5 b6 hb6
  have n43 : b4 ≠ b3 := by rintro rfl; rw [Mem.set_same] at hb4; cases hb4
  have n54 : b5 ≠ b4 := by rintro rfl; rw [Mem.set_same] at hb5; cases hb5
  have n53 : b5 ≠ b3 := by rintro rfl; rw [Mem.set_ne _ _ (Ne.symm n43), Mem.set_same] at hb5; cases hb5
  have n65 : b6 ≠ b5 := by rintro rfl; rw [Mem.set_same] at hb6; cases hb6
  have n64 : b6 ≠ b4 := by rintro rfl; rw [Mem.set_ne _ _ (Ne.symm n54), Mem.set_same] at hb6; cases hb6
  have n63 : b6 ≠ b3 := by rintro rfl; rw [Mem.set_ne _ _ (Ne.symm n53), Mem.set_ne _ _ (Ne.symm n43), Mem.set_same] at hb6; cases hb6
  have mv0 := ((Mv.set (F := []) (o := some (.cells 3 [pI (n : Nat)])) (.inr hb3)).trans ((Mv.set (o := some (.cells 22 [.raw (.slice none 0 0)])) (.inr hb4)).trans ((Mv.set (o := some (.cells 4 [pB false])) (.inr hb5)).trans (Mv.set (o := some (.cells 22 [.raw (.slice none 0 0)])) (.inr hb6)))))
  refine (cEach f l).call ⟨_, _, _, rfl, ?_⟩
  have hpl : ((preL l 0 0).map fun x : Nat × Nat × Cond => [pI (x.1 : Nat), PV.agg x.2.2.pv]).length = sizeL l := by rw [List.length_map, preL_len]
  have hel := eachL_len l
  have mvG : ∀ {u u' : Mem} {Fr Fr' : List Nat}, Mv μ u [] (b6 :: Fr) → Mv u u' (b6 :: Fr) (b6 :: Fr') → Mv μ u' [] (b6 :: Fr') := fun h k => h.trans k
  -- the end of it
  have fin : ∀ (u : Mem) (L : List Cond) (Fr : List Nat), OutIn u b3 b4 b5 b6 n L Fr → Mv μ u [] (b4 :: b5 :: b6 :: Fr) → L = (eachL l).take n →
      (∃ (x31 : Option Addr) (x31n x31c : Nat), rdM u b6 0 1 = some [(.raw (.slice x31 x31n x31c))] ∧
        Eng.stM b4 0 [(.raw (.slice x31 x31n x31c))] u fun u_10 => Eng.stM b5 0 [(pB true)] u_10 fun u_11 =>
        ∃ (r0 : Option Addr) (r0n r0c : Nat), rdM u_11 b4 0 1 = some [(.raw (.slice r0 r0n r0c))] ∧ ∃ (r1 : Bool), rdM u_11 b5 0 1 = some [(pB r1)] ∧ R (.tup [(.raw (.slice r0 r0n r0c)), (pB r1)]) u_11) := by
    intro u L Fr ho hm hL
    obtain ⟨p, h6, hown⟩ := ho.out
    obtain ⟨p4, h4⟩ := ho.n4
    obtain ⟨p5, h5⟩ := ho.n5
    obtain ⟨a, c, rfl, _⟩ := hown.app (condsEach L)
    refine ⟨_, _, _, rdM_at h6 (by simp), _, _, h4, by simp, _, _, by rw [Mem.set_ne _ _ (Ne.symm ho.d45)]; exact h5, by simp, a, (L.map Cond.pv).length, c, ?_, true, ?_, ?_⟩
    · have e : ∀ o : Option Ob, ((u.set b4 (some (.cells 22 (wrL [p4] 0 [PV.raw (.slice a (L.map Cond.pv).length c)])))).set b5 o) b4 = some (.cells 22 [.raw (.slice a (L.map Cond.pv).length c)]) := fun o => by rw [Mem.set_ne _ _ ho.d45, Mem.set_same]; rfl
      exact rdM_at (e _) (by simp)
    · exact rdM_at (Mem.set_same _ _ _) (by simp [wrL])
    refine hR _ _ Fr ?_ ?_
    · rw [← hL]
      refine hown.same fun x hx => ?_
      rw [Mem.set_ne _ _ (show x ≠ b5 from fun e => ho.f5 (e ▸ hx)), Mem.set_ne _ _ (show x ≠ b4 from fun e => ho.f4 (e ▸ hx))]
    · exact (hm.trans ((Mv.set (.inl (by simp))).trans (Mv.set (.inl (by simp))))).sub fun x hx => by simp [hx]
  refine RangeP.pure (seqEach l (by omega)) (fun k u => ∃ Fr, OutIn u b3 b4 b5 b6 n ((eachL l).take k) Fr ∧ k < n ∧ Mv μ u [] (b4 :: b5 :: b6 :: Fr)) (fun c u => c = .exit 0 ∧ ∃ Fr, OutIn u b3 b4 b5 b6 n ((eachL l).take n) Fr ∧ Mv μ u [] (b4 :: b5 :: b6 :: Fr)) ⟨[], ⟨?_, ⟨.raw (.slice none 0 0), ?_⟩, ⟨pB false, ?_⟩, ⟨_, Mem.set_same _ _ _, .inl ⟨rfl, rfl, rfl⟩⟩, Ne.symm n63, Ne.symm n64, Ne.symm n65, Ne.symm n54, by simp, by simp, by simp, by simp⟩, by omega, ?_⟩ ?_ ?_ ?_
  · rw [Mem.set_ne _ _ (Ne.symm n63), Mem.set_ne _ _ (Ne.symm n53), Mem.set_ne _ _ (Ne.symm n43), Mem.set_same]
  · rw [Mem.set_ne _ _ (Ne.symm n64), Mem.set_ne _ _ (Ne.symm n54), Mem.set_same]
  · rw [Mem.set_ne _ _ (Ne.symm n65), Mem.set_same]
  · exact mv0.sub fun x hx => by simp at hx ⊢; omega
  · rintro k hk u RR ⟨Fr, ho, hkn, hmv⟩ hnone hsome
    rw [hpl] at hk
    have hkp : k < (preL l 0 0).length := by rw [preL_len]; exact hk
    have hke : k < (eachL l).length := by rw [hel]; exact hk
    obtain ⟨x, hx⟩ : ∃ x, (preL l 0 0)[k] = x := ⟨_, rfl⟩
    have hat : x.1 = k := by have := preL_pos l 0 0 k x (by rw [List.getElem?_eq_getElem hkp, hx]); omega
    have hxc : (eachL l)[k] = x.2.2 := by simp only [eachL, List.getElem_map, hx]
    rw [List.getElem_map, hx]
    obtain ⟨p, h6, hown⟩ := ho.out
    obtain ⟨p4, h4⟩ := ho.n4
    obtain ⟨p5, h5⟩ := ho.n5
    have hLl : (((eachL l).take k).map Cond.pv).length = k := by rw [List.length_map, List.length_take]; omega
    obtain ⟨a, c, rfl, happ⟩ := hown.app (condsEach _)
    rw [hLl] at h6 happ hown
    refine ⟨_, _, _, _, _, _, _, _, _, _, _, by rw [Cond.pv_eq], _, _, _, rdM_at h6 (by simp), CIf.f (by simp [hat]) ⟨_, _, _, rdM_at h6 (by simp), ?_⟩⟩
    refine happ _ 112 _ rfl rfl (by omega) (by omega) fun b' c' rest μ2 hb' hrest hc' hm2 => ?_
    have nb : ∀ y, u y ≠ none → y ∉ Fr → y ≠ b' := fun y hy hf e => by
      subst e
      rcases hm2.grow y (by simp) with h | h
      · exact hf h
      · exact hy h
    have nb3 := nb b3 (by rw [ho.n3]; simp) ho.f3
    have nb4 := nb b4 (by rw [h4]; simp) ho.f4
    have nb5 := nb b5 (by rw [h5]; simp) ho.f5
    have nb6 := nb b6 (by rw [h6]; simp) ho.f6
    have k3 := hm2.keep b3 (by rw [ho.n3]; simp) ho.f3
    have k4 := hm2.keep b4 (by rw [h4]; simp) ho.f4
    have k5 := hm2.keep b5 (by rw [h5]; simp) ho.f5
    have k6 := hm2.keep b6 (by rw [h6]; simp) ho.f6
    have hrow : [pI x.2.2.kind, pB x.2.2.goal, pS x.2.2.id, .list 6 .sh (x.2.2.attr.map Test.pv), .list 6 .sh (x.2.2.value.map Test.pv), pB x.2.2.acc, .list 7 .sh (x.2.2.conds.map Cond.pv)] = x.2.2.pv := (Cond.pv_eq _).symm
    rw [hrow]
    have hbig : ∀ r ∈ ((eachL l).take k).map Cond.pv ++ [[pI 0, pB false, pS ⟨#[]⟩, .list 6 .sh [], .list 6 .sh [], pB false, .list 7 .sh []]], r.length = 7 := fun r hr => by
      rcases List.mem_append.1 hr with h | h
      · exact condsEach _ r h
      · simp at h; rw [h]; rfl
    have hbl : (((eachL l).take k).map Cond.pv ++ [[pI 0, pB false, pS ⟨#[]⟩, .list 6 .sh [], .list 6 .sh [], pB false, .list 7 .sh []]]).length = k + 1 := by rw [List.length_append, hLl]; rfl
    have hfl := flatLen hbig
    rw [hbl] at hfl
    have hpvl : x.2.2.pv.length = 7 := by rw [Cond.pv_eq]; rfl
    have hwr : wrL ((((eachL l).take k).map Cond.pv ++ [[pI 0, pB false, pS ⟨#[]⟩, .list 6 .sh [], .list 6 .sh [], pB false, .list 7 .sh []]]).flatten ++ rest) (0 + Int.toNat ((k : Nat) : Int) * 7) x.2.2.pv = (((eachL l).take (k + 1)).map Cond.pv).flatten ++ rest := by
      rw [Nat.zero_add, Int.toNat_natCast, wrRow hbig (by rw [hbl]; omega) hpvl]
      congr 2
      rw [List.set_append_right _ _ (by rw [hLl]; omega), hLl, Nat.sub_self, mapTake hke, hxc]
      rfl
    -- the state behind both stores
    have key : ∀ u7, u7 = (μ2.set b' (some (.cells tyCond ((((eachL l).take (k + 1)).map Cond.pv).flatten ++ rest)))).set b6 (some (.cells 22 [.raw (.slice (some ⟨b', 0, none⟩) (k + 1) c')])) →
        ∃ (x27 : Option Addr) (x27n x27c : Nat), rdM u7 b6 0 1 = some [(.raw (.slice x27 x27n x27c))] ∧ ∃ (x29 : Int), rdM u7 b3 0 1 = some [(pI x29)] ∧ CIf (decide ((((x27n : Nat) : Int) : Int) ≥ x29)) (RR (some (.exit 0)) u7) (RR none u7) := by
      rintro u7 rfl
      have ho' : OutIn ((μ2.set b' (some (.cells tyCond ((((eachL l).take (k + 1)).map Cond.pv).flatten ++ rest)))).set b6 (some (.cells 22 [.raw (.slice (some ⟨b', 0, none⟩) (k + 1) c')]))) b3 b4 b5 b6 n ((eachL l).take (k + 1)) [b'] := by
        refine ⟨?_, ⟨p4, ?_⟩, ⟨p5, ?_⟩, ⟨_, Mem.set_same _ _ _, .inr ⟨b', c', rest, ?_, rfl, ?_, ?_, ?_⟩⟩, ho.d36, ho.d46, ho.d56, ho.d45, by simpa using nb3, by simpa using nb4, by simpa using nb5, by simpa using nb6⟩
        · rw [Mem.set_ne _ _ ho.d36, Mem.set_ne _ _ nb3, k3]; exact ho.n3
        · rw [Mem.set_ne _ _ ho.d46, Mem.set_ne _ _ nb4, k4]; exact h4
        · rw [Mem.set_ne _ _ ho.d56, Mem.set_ne _ _ nb5, k5]; exact h5
        · rw [List.length_map, List.length_take, Nat.min_eq_left (by omega)]
        · rw [Mem.set_ne _ _ (Ne.symm nb6), Mem.set_same]
        · rw [List.length_map, List.length_take, Nat.min_eq_left (by omega)]; exact hrest
        · rw [List.length_map, List.length_take, Nat.min_eq_left (by omega)]; exact hc'
      have hmv' : Mv μ ((μ2.set b' (some (.cells tyCond ((((eachL l).take (k + 1)).map Cond.pv).flatten ++ rest)))).set b6 (some (.cells 22 [.raw (.slice (some ⟨b', 0, none⟩) (k + 1) c')]))) [] (b4 :: b5 :: b6 :: [b']) := by
        refine (hmv.trans ((hm2.wide (G := b4 :: b5 :: b6 :: Fr) fun x hx => by simp [hx]).trans ((Mv.set (.inl (by simp))).trans (Mv.set (.inl (by simp)))))).sub fun x hx => ?_
        simp only [List.mem_cons, List.not_mem_nil, or_false, List.mem_append] at hx ⊢
        rcases hx with h | h | h | h <;> simp [h]
      refine ⟨_, _, _, rdM_at (Mem.set_same _ _ _) (by simp), _, rdM_at ho'.n3 (by simp), CIf.mk (fun h => ?_) (fun h => ?_)⟩
      · have h := of_decide_eq_true h
        have : k + 1 = n := by omega
        subst this
        exact hsome _ _ ⟨rfl, [b'], ho', hmv'⟩
      · have h := of_decide_eq_false h
        exact hnone _ ⟨[b'], ho', by omega, hmv'⟩
    have e6 : ∀ o : Option Ob, (μ2.set b' o) b6 = some (.cells 22 [.raw (.slice a k c)]) := fun o => by rw [Mem.set_ne _ _ nb6]; exact k6.trans h6
    have eb : ∀ o : Option Ob, (μ2.set b6 o) b' = some (.cells tyCond ((((eachL l).take k).map Cond.pv ++ [[pI 0, pB false, pS ⟨#[]⟩, .list 6 .sh [], .list 6 .sh [], pB false, .list 7 .sh []]]).flatten ++ rest)) := fun o => by rw [Mem.set_ne _ _ (Ne.symm nb6)]; exact hb'
    refine ⟨by omega, by omega, ⟨_, _, hb', ?_, _, _, e6 _, by simp, key _ ?_⟩, ⟨_, _, k6.trans h6, by simp, _, _, eb _, ?_, key _ ?_⟩⟩
    · rw [List.length_append, hfl, hpvl, Int.toNat_natCast]; omega
    · rw [hwr]; rfl
    · rw [List.length_append, hfl, hpvl, Int.toNat_natCast]; omega
    · rw [hwr, Mem.set_comm _ _ _ nb6]; rfl
  · rintro u ⟨Fr, ho, hkn, hmv⟩
    rw [hpl] at ho hkn
    exact fin u _ Fr ho hmv (by rw [List.take_of_length_le (by omega), List.take_of_length_le (by omega)])
  · rintro c u ⟨rfl, Fr, ho, hmv⟩
    exact fin u _ Fr ho hmv rfl

theorem lightE {l : List Cond} (h : lightL l) : lightL (eachL l) := lightL_iff.2 fun c hc => by
  obtain ⟨x, hx, rfl⟩ := List.mem_map.1 hc
  exact lightL_pre l 0 0 x h hx

theorem sizeE {l : List Cond} (h : sizeL l ≤ 40) : sizeL (eachL l) ≤ 2000 := by
  have key : ∀ (L : List Cond) (m : Nat), (∀ c ∈ L, sizeC c ≤ m) → sizeL L ≤ L.length * m := by
    intro L m
    induction L with
    | nil => intro _; simp [sizeL]
    | cons c L ih =>
      intro hh
      have h1 := hh c (by simp)
      have h2 := ih fun d hd => hh d (by simp [hd])
      simp only [sizeL, List.length_cons]
      rw [Nat.succ_mul]; omega
  have hsz : ∀ n (l : List Cond), sizeL l ≤ n → ∀ a d, ∀ x ∈ preL l a d, sizeC x.2.2 ≤ sizeL l := by
    intro n
    induction n with
    | zero =>
      intro l h
      cases l with
      | nil => intro a d x hx; simp [preL] at hx
      | cons c l => simp [sizeL, sizeC_eq] at h
    | succ n ih =>
      intro l
      induction l with
      | nil => intro _ a d x hx; simp [preL] at hx
      | cons c l ihl =>
        intro h a d x hx
        simp only [sizeL, sizeC_eq] at h ⊢
        simp only [preL, preC_eq, List.mem_append, List.mem_cons] at hx
        rcases hx with (rfl | hx) | hx
        · simp only [sizeC_eq]; omega
        · have h1 := ih c.conds (by omega) _ _ x hx
          rw [sizeC_eq] at h1; omega
        · have h1 := ihl (by omega) _ _ x hx
          rw [sizeC_eq] at h1; omega
  have h1 := key (eachL l) 40 fun c hc => by
    obtain ⟨x, hx, rfl⟩ := List.mem_map.1 hc
    have := hsz _ l (Nat.le_refl _) 0 0 x hx; omega
  rw [eachL_len] at h1
  omega

theorem viewArgs {μ : Mem} {q : PV} {rows : List (List PV)} {sz : Nat} {e : TypeId} {F : List Nat} (h : OwnV e sz μ q rows F) (hr : ∀ r ∈ rows, r.length = sz) (hc : allCell rows.flatten = true) (z : PV) (hz : z.ok = true) : ∀ (i : Nat) p y, [q, z][i]? = some p → [PV.list sz .sh rows, z][i]? = some y → BorV μ p y ∧ y.ok = true := fun i p y hp hy => by
  match i with
  | 0 => simp only [List.getElem?_cons_zero, Option.some.injEq] at hp hy; subst hp hy; exact ⟨h.view hr hc, rfl⟩
  | 1 => simp only [List.getElem?_cons_succ, List.getElem?_cons_zero, Option.some.injEq] at hp hy; subst hp hy; exact ⟨.same _, hz⟩
  | n + 2 => simp at hp

theorem cShapeEach (p : Prod) (n : Int) : Pure Try.prog 9 [.agg p.pv, pI n] (pB true) := by
  refine PureK.of (G_ponderlaw06_ShapeEach.c ?_)
  refine (cHeavy .sh .sh p).call ?_
  rintro _ ⟨q, rfl, hq⟩
  refine ⟨_, rfl, CIf.mk (fun h => cWakes.call ⟨_, rfl, rfl⟩) (fun h => ?_)⟩
  obtain ⟨hl, hs, ha, hn⟩ := hq h
  have hel := eachL_len p.conds
  have hsE := sizeE hs
  have hlE := lightE hl
  refine (cREach _ .sh p.conds (Nat.le_refl _) (by omega)).call ⟨_, _, rfl, ?_⟩
  rw [List.length_map, hel, wrap_id (by omega) (by omega), show ((sizeL p.conds : Nat) : Int) + 1 = ((sizeL p.conds + 1 : Nat) : Int) by omega]
  refine (cWithin n (sizeL p.conds + 1) (by omega) (by omega)).call ?_
  rintro _ ⟨k, rfl, hk⟩
  refine ⟨_, rfl, ?_⟩
  rw [show ((1000 : Int)) = ((1000 : Nat) : Int) from rfl]
  refine cLawConds .sh p.conds 1000 (by omega) (by omega) (by omega) fun μ1 p1 F1 o1 m1 => ?_
  have tk : (eachL p.conds).take 1000 = eachL p.conds := List.take_of_length_le (by omega)
  rw [tk] at o1
  obtain ⟨a1, c1, rfl, _⟩ := o1.app (condsEach _)
  refine ⟨_, _, _, _, rfl, ?_⟩
  have hk1 : IntKind.wrap .i64 ((1 : Int) + ((k : Nat) : Int)) = ((k + 1 : Nat) : Int) := by rw [wrap_id (by omega) (by omega)]; omega
  rw [hk1]
  refine cLawConds .sh p.conds (k + 1) (by omega) (by omega) (by omega) fun μ2 p2 F2 o2 m2 => ?_
  have o1' := o1.same (μ' := μ2) fun x hx => m2.keep x (o1.at_ x hx) (by simp)
  obtain ⟨a2, c2, rfl, _⟩ := o2.app (condsEach _)
  refine ⟨_, _, _, _, rfl, CIf.t rfl (CIf.t rfl ?_)⟩
  refine CallP.view (cKConds' _ .sh .sh (eachL p.conds) (Nat.le_refl _) (by omega) hlE) rfl (viewArgs o1' (condsEach _) (condsCell _) _ rfl) (fun r hr => by rw [hr]; rfl) (fun r hr => ?_)
  subst hr
  refine ⟨_, rfl, CIf.t rfl ?_⟩
  have hmin : (if ((sizeL p.conds : Nat) : Int) < ((k + 1 : Nat) : Int) then ((sizeL p.conds : Nat) : Int) else ((k + 1 : Nat) : Int)) = ((min (k + 1) (sizeL p.conds) : Nat) : Int) := by
    split <;> omega
  rw [hmin]
  refine ⟨by omega, by omega, by omega, ?_⟩
  have hdt : List.drop (Int.toNat (0 : Int)) (List.take (Int.toNat ((min (k + 1) (sizeL p.conds) : Nat) : Int)) ((eachL p.conds).map Cond.pv)) = ((eachL p.conds).take (k + 1)).map Cond.pv := by
    rw [Int.toNat_natCast, show Int.toNat (0 : Int) = 0 from rfl, List.drop_zero, ← List.map_take]
    congr 1
    by_cases hlt : k + 1 ≤ sizeL p.conds
    · rw [Nat.min_eq_left hlt]
    · rw [Nat.min_eq_right (by omega), List.take_of_length_le (by omega), List.take_of_length_le (by omega)]
  rw [hdt]
  have hs2 := sizeL_split (eachL p.conds) (k + 1)
  have hl2 : lightL ((eachL p.conds).take (k + 1)) := lightL_iff.2 fun c hc => lightL_iff.1 hlE c (List.mem_of_mem_take hc)
  refine CallP.view (cKConds' _ .sh .sh ((eachL p.conds).take (k + 1)) (Nat.le_refl _) (by omega) hl2) rfl (viewArgs o2 (condsEach _) (condsCell _) _ rfl) (fun r hr => by rw [hr]; rfl) (fun r hr => ?_)
  subst hr
  refine ⟨_, rfl, CIf.t rfl ((cSizeP .sh p.conds (by omega)).call ⟨_, rfl, CIf.t (by simp) (cWakes.call ⟨_, rfl, rfl⟩)⟩)⟩

end Go.Proofs.Ytfjemjnbemdkgaa
