import Derived.Test.YtdiimonfmdbclaaCh12A
/-
  Elements by themselves: memories that are wanted and left.
-/
namespace Go.Proofs.Ytdiimonfmdbclaa
open Go.Eng Go.RowKit
set_option linter.unusedVariables false
set_option linter.unusedSimpArgs false
set_option linter.unnecessarySimpa false

/-- The net, opened: first the memories. -/
theorem net_mm {n me mm : Nat} {es : List Elem} {ms : AMs} {L : List Asn} {μ : Mem} (h : Ow (AM.MAt mm (ms.map pgM) :: (Pt n 79 [pP me 0, pP mm 0] :: AE.MAt me (es.map pgE) :: (ms.map setM ++ L))) μ) : Ow (NetAt n es ms :: L) μ := NetAt.shut (h.swap.tail fun _ h => h.swap)

theorem getM (k : Int) (ms : AMs) : getK AM.ck AM.key (AM.key (k, AM.z)) (ms.map pgM) = (getK cmpI numM k ms).map pgM := getK_map
theorem getE (t : Int) (es : List Elem) : getK AE.ck AE.key (AE.key (t, AE.z)) (es.map pgE) = (getK cmpI tagE t es).map pgE := getK_map
theorem map_none {α β : Type} {f : α → β} {o : Option α} (h : o.map f = none) : o = none := by
  cases o with
  | none => rfl
  | some x => cases h

def leaveM (k : Int) (ms : AMs) : AMs :=
  match getK cmpI numM k ms with
  | none => ms
  | some x => if x.2.users = 1 then delK cmpI numM k ms else insK cmpI numM (k, { x.2 with users := x.2.users - 1 }) ms

theorem AInv.leave {es : List Elem} {ms : AMs} (h : AInv es ms) (k : Int) : AInv es (leaveM k ms) := by
  unfold leaveM
  split
  · exact h
  · rename_i x hx
    obtain ⟨h1, h2⟩ := (getK_iff cmpI_ok h.ums).1 hx
    have hu := h.users x h1
    split
    · exact h.del k
    · exact h.upd h1 (x' := (k, { x.2 with users := x.2.users - 1 })) h2.symm rfl rfl ⟨by show 1 ≤ x.2.users - 1; omega, by show x.2.users - 1 < 1000000; omega⟩

theorem cALeave {L : List Asn} {μ : Mem} {n : Nat} {es : List Elem} {ms : AMs} (hO : Ow (NetAt n es ms :: L) μ) (hI : AInv es ms) (k : Int) {K : PV → Mem → Prop} (hk : ∀ μ', Ow (NetAt n es (leaveM k ms) :: L) μ' → K (pB (getK cmpI numM k ms).isSome) μ') : CallP Try.prog 19 [pP n 0, pI k] μ K := by
  obtain ⟨me, mm, h⟩ := NetAt.open_ hO
  have hlm := hI.lm
  refine G_alpha_Net_Leave.c ⟨_, h.rd 0 rfl (by simp), AM.cMGet (Ow.at 2 rfl h) hI.um (by simp; omega) k (fun y μ' hy h' => ?_) (fun μ' hy h' => ?_)⟩
  · rw [getM] at hy
    obtain ⟨x, hx, rfl⟩ := Option.map_eq_some_iff.1 hy
    obtain ⟨hxm, hxk⟩ := (getK_iff cmpI_ok hI.ums).1 hx
    have hus := hI.users x hxm
    have hw : IntKind.wrap .i64 (x.2.users - 1) = x.2.users - 1 := wrap_id (by omega) (by omega)
    refine ⟨_, _, _, _, _, _, _, _, _, _, _, _, _, rfl, CIf.f rfl (CIf.mk (fun h1 => ?_) (fun h1 => ?_))⟩
    · have h1 : x.2.users = 1 := by
        have : IntKind.wrap .i64 (x.2.users - 1) = 0 := by simpa [pgM, AMemo.memo] using h1
        omega
      refine ⟨_, h'.rd 1 rfl (by simp), AM.cMDrop h' hI.um (by simp; omega) k (fun y2 μ2 hy2 h2 => ?_) (fun μ2 hy2 h2 => ?_)⟩
      · refine ⟨_, _, _, _, _, _, _, _, _, _, _, _, _, rfl, ?_⟩
        have := hk μ2
        rw [hx] at this
        refine this ?_
        have e1 : leaveM k ms = delK cmpI numM k ms := by unfold leaveM; rw [hx]; exact if_pos h1
        rw [e1]
        obtain ⟨A, B, e, ed, _⟩ := hI.ums.at_ cmpI_ok hxm
        have hxk' : numM x = k := hxk
        rw [hxk'] at ed
        refine net_mm (mm := mm) (me := me) ?_
        have hdm : delK AM.ck AM.key (AM.key (k, AM.z)) (ms.map pgM) = (delK cmpI numM k ms).map pgM := delK_map
        rw [hdm] at h2
        have e2 : ms.map setM = A.map setM ++ setM x :: B.map setM := by rw [e]; simp
        rw [e2] at h2
        have h3 := (Ow.pick (P := [AM.MAt mm ((delK cmpI numM k ms).map pgM), Pt n 79 [pP me 0, pP mm 0], AE.MAt me (es.map pgE)]) h2).drop
        have e3 : (delK cmpI numM k ms).map setM = A.map setM ++ B.map setM := by rw [ed, List.map_append]
        rw [e3]
        exact h3
      · rw [getM, hx] at hy2; cases hy2
    · have h1 : x.2.users ≠ 1 := fun e => by
        have h1' : (IntKind.wrap .i64 (x.2.users - 1) == 0) = false := h1
        rw [hw, e] at h1'; simp at h1'
      refine ⟨_, h'.rd 1 rfl (by simp), ?_⟩
      show CallP _ _ [pP mm 0, pI k, .agg [_, _, _, _, _, _, _, pI (IntKind.wrap .i64 (x.2.users - 1)), _]] _ _
      rw [hw]
      refine AM.cMPut h' hI.um (by simp; omega) k ⟨x.2.c, x.2.users - 1, some ⟨x.2.b, 0, none⟩⟩ fun μ2 h2 => ⟨_, rfl, ?_⟩
      have := hk μ2
      rw [hx] at this
      refine this ?_
      have e1 : leaveM k ms = insK cmpI numM (k, { x.2 with users := x.2.users - 1 }) ms := by unfold leaveM; rw [hx]; exact if_neg h1
      rw [e1]
      refine net_mm (mm := mm) (me := me) ?_
      rw [sets_upd hI hxm (x' := (k, { x.2 with users := x.2.users - 1 })) hxk.symm rfl]
      have e2 : insK AM.ck AM.key (k, ⟨x.2.c, x.2.users - 1, some ⟨x.2.b, 0, none⟩⟩) (ms.map pgM) = (insK cmpI numM (k, { x.2 with users := x.2.users - 1 }) ms).map pgM := insK_map (f := pgM) (x := (k, { x.2 with users := x.2.users - 1 }))
      rw [e2] at h2
      exact h2
  · rw [getM] at hy
    have hx := map_none hy
    refine ⟨_, _, _, _, _, _, _, _, _, _, _, _, _, rfl, CIf.t rfl ?_⟩
    have := hk μ'
    rw [hx] at this
    refine this ?_
    have e1 : leaveM k ms = ms := by unfold leaveM; rw [hx]
    rw [e1]
    exact net_mm h'

theorem cAWant {L : List Asn} {μ : Mem} {n : Nat} {es : List Elem} {ms : AMs} (hO : Ow (NetAt n es ms :: L) μ) (hI : AInv es ms) (hlm1 : ms.length + 1 < 1000000) (hus : ∀ x ∈ ms, x.2.users + 1 < 1000000) (c : Cond) (hl : lightC c) {K : PV → Mem → Prop}
    (hk1 : ∀ x ∈ ms, x.2.c = bareC c → ∀ μ', Ow (NetAt n es (insK cmpI numM (x.1, { x.2 with users := x.2.users + 1 }) ms) :: L) μ' → K (pI x.1) μ')
    (hk0 : (∀ x ∈ ms, x.2.c ≠ bareC c) → ∀ μ' b, Ow (NetAt n es (insK cmpI numM (least ms, ⟨bareC c, 1, b, es.filter (meetsC (bareC c))⟩) ms) :: L) μ' → K (pI (least ms)) μ') : CallP Try.prog 17 [pP n 0, .agg (cc c)] μ K := by
  obtain ⟨me, mm, h⟩ := NetAt.open_ hO
  have hlm := hI.lm
  have hle := hI.le
  have hbl := bare_light hl
  have hbb := bare_bare hl
  obtain ⟨_, bl1, bl2, bl3, bl4, _⟩ := (lightC_eq _).1 hbl
  refine G_alpha_Net_Want.c fun b2 hb2 b3 hb3 b4 hb4 => ?_
  have O1 := h.new 34 [pP n 0] hb2
  have O2 := O1.new 25 (cc c) hb3
  have O3 := O2.new 3 [pI 0] hb4
  refine ⟨_, _, _, _, _, _, _, _, _, _, O3.rd 1 rfl (by simp), (cBare c .sh .sh .sh hl).call ⟨_, _, _, _, _, _, _, _, _, _, rfl, O3.st 1 rfl (by simp) fun u1 O4 => fun b5 hb5 => ?_⟩⟩
  refine (O4.new 72 [pI 0] hb5).st 0 rfl (by simp) fun u2 O5 => ?_
  refine ⟨_, O5.rd 3 rfl (by simp), _, O5.rd 4 rfl (by simp), (AM.cMAll mm).call ⟨_, _, _, rfl, ?_⟩⟩
  have hml : ((ms.map pgM).map fun x => [AM.argK x.1, AM.argV x.2]).length = ms.length := by simp
  refine RangeP.own (AM.seqMAll mm (ms.map pgM) (by simp; omega)) (Ow.at 6 rfl O5)
    (fun k u => (∀ x ∈ ms.take k, x.2.c ≠ bareC c) ∧ Ow (AM.MAt mm (ms.map pgM) :: Pt b5 72 [pI (least (ms.take k))] :: Pt b4 3 [pI 0] :: Pt b3 25 (cc (bareC c)) :: Pt b2 34 [pP n 0] :: Pt n 79 [pP me 0, pP mm 0] :: AE.MAt me (es.map pgE) :: (ms.map setM ++ L)) u)
    (fun cd u => cd = .ret ∧ ∃ x ∈ ms, x.2.c = bareC c ∧ Ow (Pt b4 3 [pI x.1] :: NetAt n es (insK cmpI numM (x.1, { x.2 with users := x.2.users + 1 }) ms) :: L) u)
    (fun k => UpC.and (UpC.own _)) (fun cd => UpC.and fun μ μ' hs ⟨x, h1, h2, h3⟩ => ⟨x, h1, h2, h3.mono hs⟩) (fun μ' h' => ⟨by simp, h'⟩) ?_ ?_ ?_
  · rintro k hk u R ⟨hno, hO⟩ hnone hsome
    have hk' : k < ms.length := by simpa using hk
    have hxm : ms[k] ∈ ms := List.getElem_mem hk'
    have hb := hI.bare _ hxm
    obtain ⟨_, l1, l2, l3, l4, _⟩ := (lightC_eq _).1 hb.light
    have hux := hI.users _ hxm
    have hux1 := hus _ hxm
    obtain ⟨le0, le1, _, _⟩ := least_spec (ms.take k) (List.Pairwise.sublist (List.take_sublist _ _) hI.ums) fun x hx => (hI.num x (List.mem_of_mem_take hx)).1
    rw [List.getElem_map, List.getElem_map]
    have nextI : ms[k].2.c ≠ bareC c → ∀ x ∈ ms.take (k + 1), x.2.c ≠ bareC c := fun hne x hx => by
      rw [List.take_add_one, List.getElem?_eq_getElem hk', List.mem_append] at hx
      rcases hx with hx | hx
      · exact hno x hx
      · simp at hx; rw [hx]; exact hne
    refine ⟨_, _, _, _, _, _, _, _, _, _, _, _, _, rfl, fun _ u => ms[k].2.c ≠ bareC c ∧ Ow (AM.MAt mm (ms.map pgM) :: Pt b5 72 [pI (least (ms.take k))] :: Pt b4 3 [pI 0] :: Pt b3 25 (cc (bareC c)) :: Pt b2 34 [pP n 0] :: Pt n 79 [pP me 0, pP mm 0] :: AE.MAt me (es.map pgE) :: (ms.map setM ++ L)) u, ?_, ?_⟩
    · refine ⟨_, hO.rd 3 rfl (by simp), CIf.mk (fun g1 => ⟨_, hO.rd 3 rfl (by simp), CIf.mk (fun g2 => ⟨_, _, hO.rd 3 rfl (by simp), ?_⟩) (fun g2 => ⟨fun e => ?_, hO⟩)⟩) (fun g1 => ⟨fun e => ?_, hO⟩)⟩
      · refine (cSame _ _ ms[k].2.c.attr (bareC c).attr (by omega) (lightTs l3)).call (fun e1 => ⟨_, rfl, CIf.t rfl ⟨_, _, hO.rd 3 rfl (by simp), ?_⟩⟩) (fun hne => ⟨_, rfl, CIf.f rfl ⟨fun e => hne (by rw [e]), hO⟩⟩)
        refine (cSame _ _ ms[k].2.c.value (bareC c).value (by omega) (lightTs l4)).call (fun e2 => ⟨_, rfl, CIf.t rfl ⟨_, hO.rd 4 rfl (by simp), _, hO.rd 5 rfl (by simp), ?_⟩⟩) (fun hne => ⟨_, rfl, CIf.f rfl ⟨fun e => hne (by rw [e]), hO⟩⟩)
        have g1' : (ms[k].2.c.goal == (bareC c).goal) = true := g1
        have g2' : (ms[k].2.c.acc == (bareC c).acc) = true := g2
        have ec : ms[k].2.c = bareC c := hb.eq hbb (by simpa using g1') (by simpa using g2') e1 e2
        have hw : IntKind.wrap .i64 (ms[k].2.users + 1) = ms[k].2.users + 1 := wrap_id (by omega) (by omega)
        show CallP _ _ [pP mm 0, pI ms[k].1, .agg [_, _, _, _, _, _, _, pI (IntKind.wrap .i64 (ms[k].2.users + 1)), _]] _ _
        rw [hw]
        refine AM.cMPut hO hI.um (by simp; omega) ms[k].1 ⟨ms[k].2.c, ms[k].2.users + 1, some ⟨ms[k].2.b, 0, none⟩⟩ fun μ2 h2 => ⟨_, rfl, h2.st 2 rfl (by simp) fun μ3 h3 => hsome _ _ ⟨rfl, ms[k], hxm, ec, ?_⟩⟩
        have e2 : insK AM.ck AM.key (ms[k].1, ⟨ms[k].2.c, ms[k].2.users + 1, some ⟨ms[k].2.b, 0, none⟩⟩) (ms.map pgM) = (insK cmpI numM (ms[k].1, { ms[k].2 with users := ms[k].2.users + 1 }) ms).map pgM := insK_map (f := pgM) (x := (ms[k].1, { ms[k].2 with users := ms[k].2.users + 1 }))
        rw [e2] at h3
        refine (Ow.at 2 rfl h3).tail fun ν h4 => net_mm (mm := mm) (me := me) ?_
        rw [sets_upd hI hxm (x' := (ms[k].1, { ms[k].2 with users := ms[k].2.users + 1 })) rfl rfl]
        exact h4.tail fun ν h5 => h5.drop.drop.drop
      · have g2' : (ms[k].2.c.acc == (bareC c).acc) = false := g2
        rw [e] at g2'; simp at g2'
      · have g1' : (ms[k].2.c.goal == (bareC c).goal) = false := g1
        rw [e] at g1'; simp at g1'
    · rintro _ u ⟨hne, hO⟩
      have hlt := least_take hk'
      refine ⟨_, hO.rd 1 rfl (by simp), CIf.mk (fun g => ⟨_, hO.rd 1 rfl (by simp), hO.st 1 rfl (by simp) fun u3 h3 => hnone _ ⟨nextI hne, ?_⟩⟩) (fun g => hnone _ ⟨nextI hne, ?_⟩)⟩
      · have g : ms[k].1 = least (ms.take k) := by simpa [pgM] using g
        rw [if_pos g] at hlt
        rw [hlt]
        have hw : IntKind.wrap .i64 (least (ms.take k) + 1) = least (ms.take k) + 1 := wrap_id (by omega) (by rw [List.length_take] at le1; omega)
        have h3' : Ow (AM.MAt mm (ms.map pgM) :: Pt b5 72 [pI (IntKind.wrap .i64 (least (ms.take k) + 1))] :: Pt b4 3 [pI 0] :: Pt b3 25 (cc (bareC c)) :: Pt b2 34 [pP n 0] :: Pt n 79 [pP me 0, pP mm 0] :: AE.MAt me (es.map pgE) :: (ms.map setM ++ L)) u3 := h3
        rw [hw] at h3'
        exact h3'
      · have g : ms[k].1 ≠ least (ms.take k) := by simpa [pgM] using g
        rw [if_neg g] at hlt
        rw [hlt]; exact hO
  · rintro u ⟨hno, hO⟩
    rw [hml, List.take_length] at hno hO
    obtain ⟨hnum, hInew⟩ := hI.new hbb hno 0 hlm1
    have hun : UpK AT.ck AT.key (es.filter (meetsC (bareC c))) := UpK.filter hI.ues _
    -- behind the making of the memory
    refine ⟨fun s u => ∃ b8 b, s = some ⟨b8, 0, none⟩ ∧ Ow (Pt b8 77 (cc (bareC c) ++ [pI 1, pP b 0]) :: AT.At b [] :: AE.MAt me (es.map pgE) :: AM.MAt mm (ms.map pgM) :: Pt b5 72 [pI (least ms)] :: Pt b4 3 [pI 0] :: Pt b3 25 (cc (bareC c)) :: Pt b2 34 [pP n 0] :: Pt n 79 [pP me 0, pP mm 0] :: (ms.map setM ++ L)) u, ?_, ?_⟩
    · have hO := Ow.at 6 rfl hO
      refine ⟨_, _, _, _, _, _, _, _, _, _, hO.rd 4 rfl (by simp), ?_, fun b8 hb8 => ?_⟩
      · refine CallP.q (AT.cNew (L := []) trivial .nil [] (by simp) (K := fun p μ' => ∃ b, p = pP b 0 ∧ Ow [AT.At b []] μ') fun μ' b hb => ⟨b, rfl, hb⟩) ?_
        rintro _ ν hsep ⟨b, rfl, hb⟩
        refine ⟨_, rfl, fun b8 hb8 => ?_⟩
        have h1 := hO.side hsep hb
        exact (h1.new 77 _ hb8).st 0 rfl (by simp) fun u3 h3 => ⟨b8, b, rfl, h3⟩
      · have h1 := hO.new 77 [pI 0, pB false, pS ⟨#[]⟩, .list 6 .nil [], .list 6 .nil [], pB false, .list 7 .nil [], pI 0, .raw (.pointer none)] hb8
        refine CallP.q (AT.cNew (L := []) trivial .nil [] (by simp) (K := fun p μ' => ∃ b, p = pP b 0 ∧ Ow [AT.At b []] μ') fun μ' b hb => ⟨b, rfl, hb⟩) ?_
        rintro _ ν hsep ⟨b, rfl, hb⟩
        have h2 := h1.side hsep hb
        exact ⟨_, rfl, h2.st 1 rfl (by simp) fun u3 h3 => ⟨b8, b, rfl, Ow.swap h3⟩⟩
    · rintro _ u ⟨b8, b, rfl, hO⟩
      refine ⟨_, hO.rd 7 rfl (by simp), _, hO.rd 8 rfl (by simp), (AE.cMAll me).call ⟨_, _, _, rfl, ?_⟩⟩
      have hel : ((es.map pgE).map fun x => [AE.argK x.1, AE.argV x.2]).length = es.length := by simp
      refine RangeP.own (AE.seqMAll me (es.map pgE) (by simp; omega)) (Ow.at 2 rfl hO)
        (fun k u => Ow (AT.At b ((es.take k).filter (meetsC (bareC c))) :: AE.MAt me (es.map pgE) :: Pt b8 77 (cc (bareC c) ++ [pI 1, pP b 0]) :: AM.MAt mm (ms.map pgM) :: Pt b5 72 [pI (least ms)] :: Pt b4 3 [pI 0] :: Pt b3 25 (cc (bareC c)) :: Pt b2 34 [pP n 0] :: Pt n 79 [pP me 0, pP mm 0] :: (ms.map setM ++ L)) u)
        (fun _ _ => False) (fun k => UpC.own _) (fun _ _ _ _ h => h.elim) (fun μ' h' => (h'.tail fun _ h => h.swap).swap) ?_ ?_ ?_
      · rintro k hk u R hO hnone _
        have hk' : k < es.length := by simpa using hk
        rw [List.getElem_map, List.getElem_map]
        have htk : (es.take (k + 1)).filter (meetsC (bareC c)) = (es.take k).filter (meetsC (bareC c)) ++ (if meetsC (bareC c) es[k] = true then [es[k]] else []) := by
          rw [List.take_add_one, List.getElem?_eq_getElem hk', List.filter_append]
          congr 1
          simp only [Option.toList_some, List.filter_cons, List.filter_nil]
        have hsub : ∀ x ∈ es.take k, cmpI (tagE x) (tagE es[k]) < 0 := fun x hx => by
          obtain ⟨i, hi, rfl⟩ := List.mem_iff_getElem.1 hx
          rw [List.getElem_take]
          simp only [List.length_take] at hi
          exact List.pairwise_iff_getElem.1 hI.ues i k (by omega) hk' (by omega)
        refine ⟨_, _, _, _, _, _, _, _, _, _, _, _, _, rfl, _, _, _, _, _, _, _, _, _, _, hO.rd 6 rfl (by simp), (cMeets (bareC c) es[k] .sh .sh .sh hbl).call ⟨_, rfl, CIf.mk (fun hm => ?_) (fun hm => ?_)⟩⟩
        · refine ⟨_, hO.rd 2 rfl (by simp), AT.cPut hO (UpK.filter (List.Pairwise.sublist (List.take_sublist _ _) hI.ues) _) (by
            have := List.length_filter_le (meetsC (bareC c)) (es.take k)
            have : (es.take k).length ≤ es.length := by rw [List.length_take]; omega
            omega) es[k] fun u3 h3 => ⟨_, rfl, hnone _ ?_⟩⟩
          rw [htk, if_pos hm]
          have hp : putK AT.ck AT.key es[k] ((es.take k).filter (meetsC (bareC c))) = (es.take k).filter (meetsC (bareC c)) ++ [es[k]] := putK_last AT.hc fun x hx => hsub x (List.mem_filter.1 hx).1
          rw [hp] at h3
          exact h3
        · refine hnone _ ?_
          rw [htk, if_neg (by simp [hm]), List.append_nil]
          exact hO
      · intro u hO
        rw [hel, List.take_length] at hO
        refine ⟨_, hO.rd 7 rfl (by simp), _, hO.rd 8 rfl (by simp), _, hO.rd 4 rfl (by simp), _, _, _, _, _, _, _, _, _, _, _, _, hO.rd 2 rfl (by simp), ?_⟩
        have hO3 := Ow.at 3 rfl hO
        refine AM.cMPut hO3 hI.um (by simp; omega) (least ms) ⟨bareC c, 1, some ⟨b, 0, none⟩⟩ fun u3 h3 => ⟨_, rfl, _, h3.rd 4 rfl (by simp), h3.st 5 rfl (by simp) fun u4 h4 => ⟨_, h4.rd 5 rfl (by simp [wrL]), hk0 hno u4 b ?_⟩⟩
        have e2 : insK AM.ck AM.key (least ms, ⟨bareC c, 1, some ⟨b, 0, none⟩⟩) (ms.map pgM) = (insK cmpI numM (least ms, ⟨bareC c, 1, b, es.filter (meetsC (bareC c))⟩) ms).map pgM := insK_map (f := pgM) (x := (least ms, ⟨bareC c, 1, b, es.filter (meetsC (bareC c))⟩))
        rw [e2] at h4
        refine net_mm (mm := mm) (me := me) ?_
        have hperm := (insK_perm cmpI_ok (x := (least ms, (⟨bareC c, 1, b, es.filter (meetsC (bareC c))⟩ : AMemo))) (L := ms) hnum).map setM
        have h5 : Ow (AM.MAt mm ((insK cmpI numM (least ms, ⟨bareC c, 1, b, es.filter (meetsC (bareC c))⟩) ms).map pgM) :: AT.At b (es.filter (meetsC (bareC c))) :: AE.MAt me (es.map pgE) :: Pt n 79 [pP me 0, pP mm 0] :: (ms.map setM ++ L)) u4 := h4.tail fun _ h => h.tail fun _ h => h.tail fun _ h => h.drop.drop.drop.drop.drop
        refine h5.tail fun _ h6 => ?_
        have h7 := (h6.tail fun _ h => h.swap)
        have h8 : Ow (Pt n 79 [pP me 0, pP mm 0] :: AE.MAt me (es.map pgE) :: (AT.At b (es.filter (meetsC (bareC c))) :: (ms.map setM ++ L))) _ := (h7.swap).tail fun _ h => h.swap
        refine h8.tail fun _ h => h.tail fun _ h9 => ?_
        exact h9.perm (List.Perm.append_right L hperm.symm)
      · intro _ _ h; exact h.elim
  · rintro cd u ⟨rfl, x, hx, ec, hO⟩
    exact ⟨_, hO.rd 0 rfl (by simp), hk1 x hx ec u hO.drop⟩

end Go.Proofs.Ytdiimonfmdbclaa
