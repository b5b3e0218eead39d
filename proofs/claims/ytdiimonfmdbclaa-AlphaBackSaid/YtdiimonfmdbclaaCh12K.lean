import Derived.Test.YtdiimonfmdbclaaCh12E
/-
  The laws of chapter 12: back.
-/
namespace Go.Proofs.Ytdiimonfmdbclaa
open Go.Eng Go.RowKit
set_option linter.unusedVariables false
set_option linter.unusedSimpArgs false
set_option linter.unnecessarySimpa false

theorem delK_len1 {E : List Elem} {t : Int} {e : Elem} (hu : UpK cmpI tagE E) (h : getK cmpI tagE t E = some e) : (delK cmpI tagE t E).length + 1 = E.length := by
  obtain ⟨hm, hk⟩ := (getK_iff cmpI_ok hu).1 h
  obtain ⟨A, B, e1, e2, _⟩ := hu.at_ cmpI_ok hm
  rw [hk] at e2
  rw [e2]
  conv => rhs; rw [e1]
  simp; omega

theorem rot {n w : Nat} (hn : 0 < n) {i j : Nat} (hi : i < n) (hj : j < n) (h : (i + w) % n = (j + w) % n) : i = j := by
  have h1 : (i + w) % n = (i % n + w % n) % n := Nat.add_mod i w n
  have h2 : (j + w) % n = (j % n + w % n) % n := Nat.add_mod j w n
  rw [Nat.mod_eq_of_lt hi] at h1
  rw [Nat.mod_eq_of_lt hj] at h2
  have hw : w % n < n := Nat.mod_lt _ hn
  by_cases a : i + w % n < n
  · rw [Nat.mod_eq_of_lt a] at h1
    by_cases b : j + w % n < n
    · rw [Nat.mod_eq_of_lt b] at h2; omega
    · have : (j + w % n) % n = j + w % n - n := by rw [Nat.mod_eq_sub_mod (by omega), Nat.mod_eq_of_lt (by omega)]
      omega
  · have e1 : (i + w % n) % n = i + w % n - n := by rw [Nat.mod_eq_sub_mod (by omega), Nat.mod_eq_of_lt (by omega)]
    by_cases b : j + w % n < n
    · rw [Nat.mod_eq_of_lt b] at h2; omega
    · have : (j + w % n) % n = j + w % n - n := by rw [Nat.mod_eq_sub_mod (by omega), Nat.mod_eq_of_lt (by omega)]
      omega

theorem nodup_at {T : List Int} (h : T.Nodup) {a b : Nat} {ha : a < T.length} {hb : b < T.length} (e : T[a] = T[b]) : a = b := by
  rcases Nat.lt_trichotomy a b with h1 | h1 | h1
  · exact absurd e (List.pairwise_iff_getElem.1 h a b ha hb h1)
  · exact h1
  · exact absurd e.symm (List.pairwise_iff_getElem.1 h b a hb ha h1)

theorem cAlphaBack (cs : List Cond) (_ : (∀ s ∈ cs, True) ∧ cs.length ≤ maxLen) (es : List Elem) (_ : (∀ s ∈ es, True) ∧ es.length ≤ maxLen) (t : Int) : Pure Try.prog 6 [.list 7 .sh (cs.map Cond.pv), .list 12 .sh (es.map Elem.pv), pI t] (pB true) := by
  rw [rowsCC]
  refine PureK.of (G_ponderlaw12_AlphaBack.c (cANew (L := []) trivial fun u n h => ⟨_, rfl, CIf.f rfl ⟨fun s u => Ow [NetAt n [] []] u ∧ (s = false → cs.length ≤ 10 ∧ lightL cs ∧ es.length ≤ 40), ?_, ?_⟩⟩))
  · refine CIf.mk (fun _ => ⟨h, fun h => by cases h⟩) (fun h10 => ?_)
    have h10 : cs.length ≤ 10 := by have := of_decide_eq_false h10; simp at this; omega
    refine PureK.call (cSizeCC .sh cs 30 (by omega)) ?_
    rintro _ ⟨r, rfl, _, hr⟩
    refine ⟨_, rfl, CIf.mk (fun _ => ⟨h, fun h => by cases h⟩) (fun h1 => ?_)⟩
    have h1 := of_decide_eq_false h1
    have hr := hr (by omega)
    refine PureK.call (cHeavyCC .sh cs (by rw [hr]; omega)) ?_
    rintro _ ⟨q, rfl, hq⟩
    refine ⟨_, rfl, CIf.mk (fun _ => ⟨h, fun h => by cases h⟩) (fun h2 => PureK.call (cLightT .sh es 40 (by omega)) ?_)⟩
    rintro _ ⟨q2, rfl, hq2⟩
    exact ⟨_, rfl, h, fun hf => ⟨h10, hq h2, hq2 (by simpa using hf)⟩⟩
  · rintro s u ⟨hO, hs⟩
    refine CIf.mk (fun h => cWakes12.call ⟨_, rfl, rfl⟩) (fun h => ?_)
    obtain ⟨h10, hl, h40⟩ := hs h
    refine LoopI.each (n := cs.length) (by omega) (fun i u => ∃ ms, AInv [] ms ∧ ms.length ≤ i ∧ (∀ x ∈ ms, x.2.users ≤ i) ∧ Ow [NetAt n [] ms] u) ⟨[], AInv.nil, Nat.le_refl _, by simp, hO⟩ ?_ ?_
    · rintro i u next hi ⟨ms, hI, hml, hmu, hO⟩ hnext
      have hlc := lightL_iff.1 hl _ (List.getElem_mem hi)
      refine CIf.t (by simpa using hi) ⟨by omega, _, atRow hi, _, _, _, _, _, _, _, _, _, _, rfl, ?_⟩
      refine cAWant hO hI (by omega) (fun x hx => by have := hmu x hx; omega) cs[i] hlc (fun x hx ec u2 h2 => ⟨_, rfl, hnext _ ⟨_, hI.upd (x' := (x.1, { x.2 with users := x.2.users + 1 })) hx rfl rfl rfl ⟨by show 1 ≤ x.2.users + 1; have := (hI.users x hx).1; omega, by show x.2.users + 1 < 1000000; have := hmu x hx; omega⟩, ?_, fun y hy => ?_, h2⟩⟩) (fun hno u2 b h2 => ⟨_, rfl, hnext _ ⟨_, (hI.new (bare_bare hlc) hno b (by omega)).2, ?_, fun y hy => ?_, h2⟩⟩)
      · obtain ⟨A, B, e, _, hins⟩ := hI.ums.at_ cmpI_ok hx
        have := hins (x.1, { x.2 with users := x.2.users + 1 }) rfl
        rw [this]
        have hll : ms.length = (A ++ x :: B).length := by rw [← e]
        simp only [List.length_append, List.length_cons] at hll ⊢; omega
      · rcases (mem_insK cmpI_ok).1 hy with rfl | ⟨hy, _⟩
        · show x.2.users + 1 ≤ ((i + 1 : Nat) : Int)
          have := hmu x hx; omega
        · have := hmu y hy; omega
      · have := insK_len (ck := cmpI) (key := numM) (x := (least ms, (⟨bareC cs[i], 1, b, [].filter (meetsC (bareC cs[i]))⟩ : AMemo))) (L := ms); omega
      · rcases (mem_insK cmpI_ok).1 hy with rfl | ⟨hy, _⟩
        · show (1 : Int) ≤ ((i + 1 : Nat) : Int); omega
        · have := hmu y hy; omega
    · rintro u next ⟨ms0, hI0, hml0, _, hO⟩
      refine CIf.f (by simp) (cALen hO ⟨_, rfl, ?_⟩)
      -- elements come
      refine LoopI.each2 (n := es.length) (by omega) (fun i x u => ∃ (T : List Int) (E : List Elem) (ms : AMs), x.2 = T.map intRow ∧ AInv E ms ∧ ms.length = ms0.length ∧ E.length = T.length ∧ T.length ≤ i ∧ T.Nodup ∧ (∀ t ∈ T, (getK cmpI tagE t E).isSome = true) ∧ (∀ e ∈ E, e.tag ∈ T) ∧ Ow [Tip x.1 T.length 1, NetAt n E ms] u) ⟨[], [], ms0, rfl, hI0, rfl, rfl, Nat.le_refl _, List.nodup_nil, by simp, by simp, Ow.nil hO (.inl rfl)⟩ ?_ ?_
      · rintro i ⟨fl, _⟩ u next hi ⟨T, E, ms, rfl, hI, hml, hEl, hTi, hnd, hT1, hT2, hO⟩ hnext
        refine CIf.t (by simpa using hi) ⟨by omega, _, atRow hi, _, _, _, _, _, _, _, _, _, _, _, _, rfl, ?_⟩
        refine cAPut hO.swap hI es[i] (fun hsm u2 h2 => ⟨_, _, _, rfl, CIf.f rfl (hnext _ _ ⟨T, E, ms, rfl, hI, hml, hEl, by omega, hnd, hT1, hT2, h2.swap⟩)⟩) (fun hn u2 f2 h2 => ⟨_, _, _, rfl, CIf.t rfl ⟨by omega, _, atRow hi, _, rfl, ?_⟩⟩)
        have hnn := (getK_none cmpI_ok).1 hn
        refine Ow.app h2.swap (by simp) (by simp; omega) (by simp; omega) fun f3 u3 h3 => hnext _ _ ⟨T ++ [es[i].tag], insK cmpI tagE es[i] E, ms.map (putE es[i]), by simp, hI.putE hn (by omega), by simpa using hml, ?_, by simp; omega, ?_, ?_, ?_, by rw [List.length_append]; exact h3⟩
        · have := (insK_perm cmpI_ok (ck := cmpI) (key := tagE) (x := es[i]) (L := E) hn).length_eq
          rw [this]; simp [hEl]
        · rw [List.nodup_append]
          refine ⟨hnd, by simp, fun a ha b hb e => ?_⟩
          simp at hb
          subst hb e
          have := hT1 _ ha
          rw [hn] at this; cases this
        · intro t ht
          rcases List.mem_append.1 ht with ht | ht
          · have := hT1 t ht
            cases hg : getK cmpI tagE t E with
            | none => rw [hg] at this; cases this
            | some e =>
              obtain ⟨g1, g2⟩ := (getK_iff cmpI_ok hI.ues).1 hg
              have : getK cmpI tagE t (insK cmpI tagE es[i] E) = some e := (getK_iff cmpI_ok (hI.ues.ins cmpI_ok _)).2 ⟨(mem_insK cmpI_ok).2 (.inr ⟨g1, hnn e g1⟩), g2⟩
              rw [this]; rfl
          · simp at ht
            subst ht
            have : getK cmpI tagE es[i].tag (insK cmpI tagE es[i] E) = some es[i] := (getK_iff cmpI_ok (hI.ues.ins cmpI_ok _)).2 ⟨(mem_insK cmpI_ok).2 (.inl rfl), rfl⟩
            rw [this]; rfl
        · intro e he
          rcases (mem_insK cmpI_ok).1 he with rfl | ⟨he, _⟩
          · simp
          · exact List.mem_append_left _ (hT2 e he)
      · rintro ⟨fl, _⟩ u next ⟨T, E, ms, rfl, hI, hml, hEl, hTi, hnd, hT1, hT2, hO⟩
        refine CIf.f (by simp) ?_
        have hO := hO.drop
        simp only [List.length_map]
        have hw : ∀ (h1 : 1 ≤ T.length), withinV t T.length < T.length := fun h1 => withinV_lt t h1
        generalize hwv : withinV t T.length = w at hw
        have tz : ∀ i, i < T.length → (i + w) % T.length < T.length := fun i hi => Nat.mod_lt _ (by omega)
        refine LoopI.each (n := T.length) (by omega) (fun j u => ∃ (E' : List Elem) (ms' : AMs), AInv E' ms' ∧ ms'.length = ms0.length ∧ E'.length + j = T.length ∧ (∀ i (hi : i < T.length), j ≤ i → (getK cmpI tagE (T[(i + w) % T.length]'(tz i hi)) E').isSome = true) ∧ Ow [NetAt n E' ms'] u) ⟨E, ms, hI, hml, by omega, fun i hi _ => hT1 _ (List.getElem_mem _), hO⟩ ?_ ?_
        · rintro j u next hj ⟨E', ms', hI', hml', hEl', hall, hO'⟩ hnext
          refine CIf.t (by simpa using hj) ((cWithinV t T.length (by omega) (by omega)).call ⟨_, rfl, by omega, ?_⟩)
          rw [hwv]
          have hwl := hw (by omega)
          have e1 : IntKind.wrap .i64 ((j : Int) + (w : Nat)) = ((j + w : Nat) : Int) := by rw [wrap_id (by omega) (by omega)]; omega
          have e2 : Int.tmod ((j + w : Nat) : Int) ((T.length : Nat) : Int) = (((j + w) % T.length : Nat) : Int) := by
            rw [Int.tmod_eq_emod_of_nonneg (by omega)]; rfl
          rw [e1, e2]
          refine ⟨by omega, _, atRow (pv := intRow) (tz j hj), _, rfl, ?_⟩
          have hsome := hall j hj (Nat.le_refl _)
          refine cADrop hO' hI' _ (fun hn => by rw [hn] at hsome; cases hsome) fun e he u2 fl2 h2 => ⟨_, _, _, rfl, CIf.f rfl (hnext _ ⟨_, _, hI'.dropE _, by simpa using hml', ?_, fun i hi hji => ?_, h2⟩)⟩
          · have := delK_len1 hI'.ues he; omega
          · have hs := hall i hi (by omega)
            cases hg : getK cmpI tagE (T[(i + w) % T.length]'(tz i hi)) E' with
            | none => rw [hg] at hs; cases hs
            | some x =>
              obtain ⟨g1, g2⟩ := (getK_iff cmpI_ok hI'.ues).1 hg
              have hne : tagE x ≠ T[(j + w) % T.length]'(tz j hj) := fun e => by
                rw [g2] at e
                have h3 := nodup_at hnd e
                have := rot (by omega) hi hj h3
                omega
              have : getK cmpI tagE (T[(i + w) % T.length]'(tz i hi)) (delK cmpI tagE (T[(j + w) % T.length]'(tz j hj)) E') = some x := (getK_iff cmpI_ok (hI'.ues.del _)).2 ⟨(mem_delK cmpI_ok).2 ⟨g1, hne⟩, g2⟩
              rw [this]; rfl
        · rintro u next ⟨E', ms', hI', hml', hEl', _, hO'⟩
          have hE0 : E' = [] := List.eq_nil_of_length_eq_zero (by omega)
          subst hE0
          refine CIf.f (by simp) ?_
          have hempty : ∀ k, inL k ms' = [] := fun k => by
            unfold inL
            cases hg : getK cmpI numM k ms' with
            | none => rfl
            | some x =>
              have := hI'.has x ((getK_iff cmpI_ok hI'.ums).1 hg).1
              simpa using this
          refine LoopI.each (n := ms0.length) (by omega) (fun _ u => Ow [NetAt n [] ms'] u) hO' ?_ ?_
          · rintro k u next hk hO2 hnext
            have s1 := seqIn n (k : Int) hI'
            rw [hempty] at s1
            refine CIf.t (by simpa using hk) ((cIn n _).call ⟨_, _, _, rfl, cListE s1 (by simp) hO2 fun u3 f3 h3 => ⟨_, _, rfl, CIf.f rfl (hnext _ h3)⟩⟩)
          · intro u next hO2
            refine CIf.f (by simp) (cALen hO2 ⟨_, rfl, CIf.t ?_ (cWakes12.call ⟨_, rfl, rfl⟩)⟩)
            rw [hml']; simp

end Go.Proofs.Ytdiimonfmdbclaa
