import Derived.Test.YtdiimonfmdbclaaCh12D
/-
  Elements by themselves: contracts of the small functions.
-/
namespace Go.Proofs.Ytdiimonfmdbclaa
open Go.Eng Go.RowKit
set_option linter.unusedVariables false
set_option linter.unusedSimpArgs false
set_option linter.unnecessarySimpa false

@[reducible] def cc (c : Cond) : List PV := [pI c.kind, pB c.goal, pS c.id, .list 6 .sh (c.attr.map Test.pv), .list 6 .sh (c.value.map Test.pv), pB c.acc, .list 7 .sh (c.conds.map Cond.pv)]

theorem stillL_take {l : List Test} {k : Nat} (hk : k < l.length) : stillL (l.take (k + 1)) = stillL (l.take k) ++ (if strEq l[k].var ⟨#[]⟩ = true then [l[k]] else []) := by
  unfold stillL
  rw [List.take_add_one, List.getElem?_eq_getElem hk, List.filter_append]
  congr 1
  simp only [Option.toList_some, List.filter_cons, List.filter_nil]

theorem cStill (f : Fl) (l : List Test) (hl : l.length ≤ 1000) (ht : ∀ t ∈ l, t.list.length ≤ 1000) : Pure Try.prog 32 [.list 6 f (l.map Test.pv)] (.list 6 .sh ((stillL l).map Test.pv)) := by
  refine PureK.of (G_alpha_still.c ?_)
  have hb : ∀ k, (stillL (l.take k)).length ≤ 1000 := fun k => by
    have := stillL_len (l.take k)
    have := List.length_take_le k l
    have h3 : (l.take k).length ≤ l.length := by rw [List.length_take]; omega
    omega
  refine LoopI.each2 (n := l.length) (by omega) (fun k x u => x.2 = (stillL (l.take k)).map Test.pv ∧ Ow [Tip x.1 (stillL (l.take k)).length 6] u) ⟨rfl, Ow.nil (L := []) trivial (.inl rfl)⟩ ?_ ?_
  · rintro k ⟨fl, _⟩ u next hk ⟨rfl, hO⟩ hnext
    have hft := stillL_take hk
    have hbk := hb k
    have htk := ht _ (List.getElem_mem hk)
    refine CIf.t (by simpa using hk) ⟨by omega, _, atRow hk, _, _, _, _, _, _, _, rfl, CIf.mk (fun hv => ?_) (fun hv => ?_)⟩
    · rw [if_pos hv] at hft
      refine Ow.app (Ow.nil (n := 0) hO (.inl rfl)) rfl (by simp only [List.length_map]; omega) (by simp only [List.length_map]; omega) fun f1 u1 hO1 => ?_
      refine Ow.app hO1.drop (by simp only [List.length_map]) (by simp only [List.length_singleton]; omega) (by simp only [List.length_singleton]; omega) fun f2 u2 hO2 => hnext _ _ ⟨?_, ?_⟩
      · rw [hft, List.map_append]; rfl
      · rw [hft, List.length_append]; exact hO2
    · rw [if_neg (by simp [hv]), List.append_nil] at hft
      exact hnext _ _ ⟨by rw [hft], by rw [hft]; exact hO⟩
  · rintro ⟨fl, _⟩ u next ⟨rfl, hO⟩
    refine CIf.f (by simp) ?_
    rw [List.take_length]; rfl

theorem light1000 {l : List Test} (h : ∀ t ∈ l, lightT t) : ∀ t ∈ l, t.list.length ≤ 1000 := fun t ht => by have := (h t ht).1; omega

theorem cBare (c : Cond) (fa fv fc : Fl) (hl : lightC c) : Pure Try.prog 11 [.agg [pI c.kind, pB c.goal, pS c.id, .list 6 fa (c.attr.map Test.pv), .list 6 fv (c.value.map Test.pv), pB c.acc, .list 7 fc (c.conds.map Cond.pv)]] (.agg (cc (bareC c))) := by
  obtain ⟨_, h1, h2, h3, h4, _⟩ := (lightC_eq c).1 hl
  refine PureK.of (G_alpha_Bare.c ?_)
  refine (cStill _ c.attr (by omega) (light1000 h3)).q ⟨_, _, rfl, (cStill _ c.value (by omega) (light1000 h4)).q ⟨_, _, rfl, rfl⟩⟩

theorem cSame (f g : Fl) (l m : List Test) (hl : l.length ≤ 1000000) (ht : ∀ t ∈ l, t.list.length ≤ 1000000) : Asks 39 [.list 6 f (l.map Test.pv), .list 6 g (m.map Test.pv)] (l = m) := by
  refine PureK.of (G_alpha_same.c (CIf.mk (fun h => Asks.no (neLen h)) (fun h => ?_)))
  refine eqLoop (l := l) (m := m) (n := l.length) rfl (eqLen h) (by omega) (fun k hk hk' u next hy hno => ?_) (fun u next e => CIf.f (by simp) (Asks.yes e))
  refine CIf.t (by simpa using hk) ⟨by omega, _, atRow hk, _, _, _, _, _, _, _, rfl, by omega, _, atRow hk', _, _, _, _, _, _, _, rfl, CIf.mk (fun h1 => Asks.no (hno fun e => ?_)) (fun h1 => CIf.mk (fun h2 => Asks.no (hno fun e => ?_)) (fun h2 => CIf.mk (fun h3 => Asks.no (hno fun e => ?_)) (fun h3 => CIf.mk (fun h4 => Asks.no (hno fun e => ?_)) (fun h4 => ?_))))⟩
  · rw [e] at h1; simp at h1
  · rw [e, strEq_self] at h2; cases h2
  · have h' : symEq l[k].sym m[k].sym = false := nb h3
    rw [symEq_iff.2 (by rw [e])] at h'; cases h'
  · exact absurd (by rw [e]) (neLen h4)
  · have hlk := ht _ (List.getElem_mem hk)
    refine eqLoop (l := l[k].list) (m := m[k].list) (n := l[k].list.length) rfl (eqLen h4) (by omega) (fun i hi hi' u1 next1 hy1 hno1 => ?_) (fun u1 next1 e => CIf.f (by simp) (hy (testExt (by simpa using h1) (strEq_iff.1 (nt h2)) (symEq_iff.1 (nt h3)) e) _))
    refine CIf.t (by simpa using hi) ⟨by omega, _, atRow hi, _, _, _, rfl, by omega, _, atRow hi', _, _, _, rfl, CIf.mk (fun h5 => Asks.no (hno fun e => hno1 (fun e' => ?_) (by rw [e]))) (fun h5 => hy1 (symEq_iff.1 (nt h5)) _)⟩
    have h' : symEq l[k].list[i] m[k].list[i] = false := nb h5
    rw [symEq_iff.2 e'] at h'; cases h'

theorem cMeets (c : Cond) (e : Elem) (fa fv fc : Fl) (hl : lightC c) : Pure Try.prog 43 [.agg [pI c.kind, pB c.goal, pS c.id, .list 6 fa (c.attr.map Test.pv), .list 6 fv (c.value.map Test.pv), pB c.acc, .list 7 fc (c.conds.map Cond.pv)], .agg e.pv] (pB (meetsC c e)) := by
  obtain ⟨_, h1, h2, h3, h4, _⟩ := (lightC_eq c).1 hl
  refine PureK.of (G_alpha_meets.c ?_)
  refine (cCond' .sh .sh .sh .nil (idX c) e [] (by show 0 + 1 + c.attr.length + c.value.length ≤ 1000000; omega) (lightTs h3) (lightTs h4)).call ?_
  unfold meetsC
  cases condS (idX c) e [] with
  | none => exact ⟨_, _, _, rfl, rfl⟩
  | some r => exact ⟨_, _, _, rfl, rfl⟩

theorem cANew {L : List Asn} {μ : Mem} (hO : Ow L μ) {K : PV → Mem → Prop} (hk : ∀ μ' n, Ow (NetAt n [] [] :: L) μ' → K (pP n 0) μ') : CallP Try.prog 15 [] μ K := by
  refine G_alpha_New.c (AE.cMNew hO fun u1 me h1 => ⟨_, rfl, AM.cMNew h1 fun u2 mm h2 => ⟨_, rfl, fun n hn => hk _ n ?_⟩⟩)
  exact NetAt.shut (ms := []) ((h2.swap.new 79 [pP me 0, pP mm 0] hn))

theorem cALen {L : List Asn} {μ : Mem} {n : Nat} {es : List Elem} {ms : AMs} (hO : Ow (NetAt n es ms :: L) μ) {K : PV → Mem → Prop} (hk : K (pI (ms.length : Nat)) μ) : CallP Try.prog 20 [pP n 0] μ K := by
  obtain ⟨me, mm, h⟩ := NetAt.open_ hO
  refine G_alpha_Net_Len.c ⟨_, h.rd 0 rfl (by simp), AM.cMLen (Ow.at 2 rfl h) ⟨_, rfl, ?_⟩⟩
  rw [List.length_map]; exact hk
theorem cAUsers {L : List Asn} {μ : Mem} {n : Nat} {es : List Elem} {ms : AMs} (hO : Ow (NetAt n es ms :: L) μ) (hI : AInv es ms) (k : Int) {K : PV → Mem → Prop} (hk : ∀ μ', Ow (NetAt n es ms :: L) μ' → K (pI (((getK cmpI numM k ms).map fun x => x.2.users).getD 0)) μ') : CallP Try.prog 18 [pP n 0, pI k] μ K := by
  obtain ⟨me, mm, h⟩ := NetAt.open_ hO
  have hg : getK AM.ck AM.key (AM.key (k, AM.z)) (ms.map pgM) = (getK cmpI numM k ms).map pgM := getK_map
  have back : ∀ μ', Ow (AM.MAt mm (ms.map pgM) :: (Pt n 79 [pP me 0, pP mm 0] :: AE.MAt me (es.map pgE) :: (ms.map setM ++ L))) μ' → Ow (NetAt n es ms :: L) μ' := fun μ' h' => NetAt.shut (h'.swap.tail fun _ h => h.swap)
  refine G_alpha_Net_Users.c ⟨_, h.rd 0 rfl (by simp), AM.cMGet (Ow.at 2 rfl h) hI.um (by have := hI.lm; simp; omega) k (fun y μ' hy h' => ?_) (fun μ' hy h' => ?_)⟩
  · rw [hg] at hy
    obtain ⟨x, hx, rfl⟩ := Option.map_eq_some_iff.1 hy
    refine ⟨_, _, _, _, _, _, _, _, _, _, _, _, _, rfl, ?_⟩
    have := hk μ' (back μ' h')
    rw [hx] at this; exact this
  · rw [hg] at hy
    have hx : getK cmpI numM k ms = none := by
      cases hx : getK cmpI numM k ms with
      | none => rfl
      | some x => rw [hx] at hy; cases hy
    refine ⟨_, _, _, _, _, _, _, _, _, _, _, _, _, rfl, ?_⟩
    have := hk μ' (back μ' h')
    rw [hx] at this; exact this

end Go.Proofs.Ytdiimonfmdbclaa
