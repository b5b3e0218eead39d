import Derived.Test.YtdiimonfmdbclaaCh12B
/-
  Elements by themselves: elements that come and go; what a memory has.
-/
namespace Go.Proofs.Ytdiimonfmdbclaa
open Go.Eng Go.RowKit
set_option linter.unusedVariables false
set_option linter.unusedSimpArgs false
set_option linter.unnecessarySimpa false

@[reducible] def intRow (k : Int) : List PV := [pI k]
@[reducible] def z12 : List PV := [pI 0, pS ⟨#[]⟩, pI 0, pI 0, pS ⟨#[]⟩, pI 0, pI 0, pS ⟨#[]⟩, pI 0, pB false, pB false, pI 0]

theorem hitsM_take {e : Elem} {ms : AMs} {k : Nat} (hk : k < ms.length) : hitsM e (ms.take (k + 1)) = hitsM e (ms.take k) ++ (if meetsC ms[k].2.c e = true then [ms[k].1] else []) := by
  unfold hitsM
  rw [List.take_add_one, List.getElem?_eq_getElem hk, List.filter_append, List.map_append]
  congr 1
  simp only [Option.toList_some, List.filter_cons, List.filter_nil]
  split <;> rfl
theorem hitsM_len (e : Elem) (ms : AMs) : (hitsM e ms).length ≤ ms.length := by
  unfold hitsM; rw [List.length_map]; exact List.length_filter_le _ _

/-- Some of the memories have turned. -/
theorem turned {f : Int × AMemo → Int × AMemo} {ms : AMs} {k : Nat} (hk : k < ms.length) : ((ms.take k).map f ++ ms.drop k).map setM = ((ms.take k).map f).map setM ++ setM ms[k] :: (ms.drop (k + 1)).map setM := by
  rw [List.map_append, List.drop_eq_getElem_cons hk, List.map_cons]
theorem turned1 {f : Int × AMemo → Int × AMemo} {ms : AMs} {k : Nat} (hk : k < ms.length) : ((ms.take (k + 1)).map f ++ ms.drop (k + 1)).map setM = ((ms.take k).map f).map setM ++ setM (f ms[k]) :: (ms.drop (k + 1)).map setM := by
  have e : (ms.take (k + 1)).map f = (ms.take k).map f ++ [f ms[k]] := mapTake hk
  rw [e, List.map_append, List.map_append, List.append_assoc]; rfl
theorem pgM_put (e : Elem) (ms : AMs) : (ms.map (putE e)).map pgM = ms.map pgM := by rw [List.map_map]; rfl
theorem pgM_drop (t : Int) (ms : AMs) : (ms.map (dropE t)).map pgM = ms.map pgM := by rw [List.map_map]; rfl

theorem cAPut {L : List Asn} {μ : Mem} {n : Nat} {es : List Elem} {ms : AMs} (hO : Ow (NetAt n es ms :: L) μ) (hI : AInv es ms) (e : Elem) {K : PV → Mem → Prop}
    (hk1 : (getK cmpI tagE e.tag es).isSome = true → ∀ μ', Ow (NetAt n es ms :: L) μ' → K (.tup [.list 1 .nil [], pI 3]) μ')
    (hk0 : getK cmpI tagE e.tag es = none → ∀ μ' fl, Ow (NetAt n (insK cmpI tagE e es) (ms.map (putE e)) :: L) μ' → K (.tup [.list 1 fl ((hitsM e ms).map intRow), pI 0]) μ') : CallP Try.prog 22 [pP n 0, .agg e.pv] μ K := by
  obtain ⟨me, mm, h⟩ := NetAt.open_ hO
  have hlm := hI.lm
  have hle := hI.le
  refine G_alpha_Net_Put.c fun b3 hb3 => ?_
  have O1 := h.new 51 e.pv hb3
  refine ⟨fun s u => getK cmpI tagE e.tag es = none ∧ Ow (Pt b3 51 e.pv :: Pt n 79 [pP me 0, pP mm 0] :: AE.MAt me (es.map pgE) :: AM.MAt mm (ms.map pgM) :: (ms.map setM ++ L)) u, ?_, ?_⟩
  · have fin : ∀ {cs : List PV} {b6 : Nat} {u : Mem} {q : Bool}, Ow (Pt b6 51 cs :: Pt b3 51 e.pv :: Pt n 79 [pP me 0, pP mm 0] :: AE.MAt me (es.map pgE) :: AM.MAt mm (ms.map pgM) :: (ms.map setM ++ L)) u → (q = true → (getK cmpI tagE e.tag es).isSome = true) → (q = false → getK cmpI tagE e.tag es = none) → CIf q (K (.tup [.list 1 .nil [], pI 3]) u) (getK cmpI tagE e.tag es = none ∧ Ow (Pt b3 51 e.pv :: Pt n 79 [pP me 0, pP mm 0] :: AE.MAt me (es.map pgE) :: AM.MAt mm (ms.map pgM) :: (ms.map setM ++ L)) u) := fun {cs b6 u q} hO h1 h2 =>
      CIf.mk (fun hq => hk1 (h1 hq) u (NetAt.shut hO.drop.drop)) (fun hq => ⟨h2 hq, hO.drop⟩)
    refine ⟨_, O1.rd 1 rfl (by simp), _, O1.rd 0 rfl (by simp), ?_, fun b6 hb6 => ?_⟩
    · refine AE.cMGet (Ow.at 2 rfl O1) hI.ue (by simp; omega) e.tag (fun y μ' hy h' => ?_) (fun μ' hy h' => ?_)
      · refine ⟨_, _, _, _, _, _, _, _, _, _, _, _, _, rfl, fun b6 hb6 => ((h'.swap.tail fun _ h => h.swap).new 51 z12 hb6).st 0 rfl (by simp) fun u2 h2 => fin h2 (fun _ => ?_) (fun hq => by cases hq)⟩
        rw [getE] at hy
        cases hx : getK cmpI tagE e.tag es with
        | none => rw [hx] at hy; cases hy
        | some x => rfl
      · refine ⟨_, _, _, _, _, _, _, _, _, _, _, _, _, rfl, fun b6 hb6 => ((h'.swap.tail fun _ h => h.swap).new 51 z12 hb6).st 0 rfl (by simp) fun u2 h2 => fin h2 (fun hq => by cases hq) (fun _ => ?_)⟩
        rw [getE] at hy; exact map_none hy
    · have O2 := O1.new 51 z12 hb6
      refine AE.cMGet (Ow.at 3 rfl O2) hI.ue (by simp; omega) e.tag (fun y μ' hy h' => ?_) (fun μ' hy h' => ?_)
      · refine ⟨_, _, _, _, _, _, _, _, _, _, _, _, _, rfl, (Ow.at 1 rfl h').st 0 rfl (by simp) fun u2 h2 => fin (h2.tail fun _ h => h.swap.tail fun _ h => h.swap) (fun _ => ?_) (fun hq => by cases hq)⟩
        rw [getE] at hy
        cases hx : getK cmpI tagE e.tag es with
        | none => rw [hx] at hy; cases hy
        | some x => rfl
      · refine ⟨_, _, _, _, _, _, _, _, _, _, _, _, _, rfl, (Ow.at 1 rfl h').st 0 rfl (by simp) fun u2 h2 => fin (h2.tail fun _ h => h.swap.tail fun _ h => h.swap) (fun hq => by cases hq) (fun _ => ?_)⟩
        rw [getE] at hy; exact map_none hy
  · rintro ⟨⟨_, _⟩, _⟩ u ⟨hn, hO⟩
    refine ⟨_, hO.rd 1 rfl (by simp), _, hO.rd 0 rfl (by simp), _, _, _, _, _, _, _, _, _, _, _, _, hO.rd 0 rfl (by simp), ?_⟩
    refine AE.cMPut (Ow.at 2 rfl hO) hI.ue (by simp; omega) e.tag e fun u1 h1 => ⟨_, rfl, fun b8 hb8 => ?_⟩
    have e1 : insK AE.ck AE.key (e.tag, e) (es.map pgE) = (insK cmpI tagE e es).map pgE := insK_map (f := pgE) (x := e)
    rw [e1] at h1
    have h2 := h1.new 44 [.list 1 .nil []] hb8
    refine ⟨_, h2.rd 3 rfl (by simp), (AM.cMAll mm).call ⟨_, _, _, rfl, ?_⟩⟩
    have hml : ((ms.map pgM).map fun x => [AM.argK x.1, AM.argV x.2]).length = ms.length := by simp
    refine RangeP.own (AM.seqMAll mm (ms.map pgM) (by simp; omega)) (Ow.at 4 rfl h2)
      (fun k u => ∃ fl, Ow (Pt b8 44 [.list 1 fl ((hitsM e (ms.take k)).map intRow)] :: Tip fl (hitsM e (ms.take k)).length 1 :: Pt b3 51 e.pv :: AM.MAt mm (ms.map pgM) :: AE.MAt me ((insK cmpI tagE e es).map pgE) :: Pt n 79 [pP me 0, pP mm 0] :: (((ms.take k).map (putE e) ++ ms.drop k).map setM ++ L)) u)
      (fun _ _ => False) (fun k => UpC.ex fun _ => UpC.own _) (fun _ _ _ _ h => h.elim) (fun μ' h' => ⟨.nil, ?_⟩) ?_ ?_ ?_
    · have h3 : Ow (Pt b8 44 [.list 1 .nil []] :: Pt b3 51 e.pv :: AM.MAt mm (ms.map pgM) :: AE.MAt me ((insK cmpI tagE e es).map pgE) :: Pt n 79 [pP me 0, pP mm 0] :: (ms.map setM ++ L)) μ' := by
        have a1 := h'.swap
        refine a1.tail fun _ h => ?_
        have a2 := (Ow.at 2 rfl h)
        exact a2
      refine h3.tail fun _ h => Ow.nil ?_ (.inl rfl)
      simpa using h
    · rintro k hk u R ⟨fl, hO⟩ hnone _
      have hk' : k < ms.length := by simpa using hk
      have hxm : ms[k] ∈ ms := List.getElem_mem hk'
      have hb := (hI.bare _ hxm).light
      have hul := hI.ul hxm
      have hht := hitsM_take (e := e) hk'
      have hlt := hitsM_len e (ms.take k)
      rw [List.length_take] at hlt
      rw [List.getElem_map, List.getElem_map]
      rw [turned hk'] at hO
      have hO2 := Ow.pick (P := [Pt b8 44 [.list 1 fl ((hitsM e (ms.take k)).map intRow)], Tip fl (hitsM e (ms.take k)).length 1, Pt b3 51 e.pv, AM.MAt mm (ms.map pgM), AE.MAt me ((insK cmpI tagE e es).map pgE), Pt n 79 [pP me 0, pP mm 0]]) hO
      refine ⟨_, _, _, _, _, _, _, _, _, _, _, _, _, rfl, _, _, _, _, _, _, _, _, _, _, _, _, hO.rd 2 rfl (by simp), (cMeets ms[k].2.c e .sh .sh .sh hb).call ⟨_, rfl, CIf.mk (fun hm => ?_) (fun hm => ?_)⟩⟩
      · refine ⟨_, _, _, _, _, _, _, _, _, _, _, _, hO.rd 2 rfl (by simp), AT.cPut (l := ms[k].2.l) hO2 hul.1 (by omega) e fun u3 h3 => ⟨_, rfl, _, _, h3.rd 1 rfl (by simp), ?_⟩⟩
        have hs : setM (putE e ms[k]) = AT.At ms[k].2.b (putK AT.ck AT.key e ms[k].2.l) := by
          show AT.At ms[k].2.b (if meetsC ms[k].2.c e then _ else _) = _
          rw [if_pos hm]; rfl
        have h4 := (Ow.at 2 rfl h3)
        refine Ow.app h4 (by simp) (by simp; omega) (by simp; omega) fun f' u4 h5 => ?_
        refine h5.st 2 rfl (by simp) fun u6 h6 => hnone _ ⟨f', ?_⟩
        rw [turned1 hk', hs, hht, if_pos hm, List.map_append, List.length_append]
        refine Ow.unpick (P := [Pt b8 44 [.list 1 f' ((hitsM e (ms.take k)).map intRow ++ [ms[k].1].map intRow)], Tip f' ((hitsM e (ms.take k)).length + [ms[k].1].length) 1, Pt b3 51 e.pv, AM.MAt mm (ms.map pgM), AE.MAt me ((insK cmpI tagE e es).map pgE), Pt n 79 [pP me 0, pP mm 0]]) ?_
        have h7 : Ow (Tip f' ((hitsM e (ms.take k)).length + 1) 1 :: AT.At ms[k].2.b (putK AT.ck AT.key e ms[k].2.l) :: Pt b8 44 [.list 1 f' ((hitsM e (ms.take k)).map intRow ++ [[pI ms[k].1]])] :: Pt b3 51 e.pv :: AM.MAt mm (ms.map pgM) :: AE.MAt me ((insK cmpI tagE e es).map pgE) :: Pt n 79 [pP me 0, pP mm 0] :: ((((ms.take k).map (putE e)).map setM ++ (ms.drop (k + 1)).map setM) ++ L)) u6 := h6
        exact h7.swap.tail fun _ h => h.swap
      · refine hnone _ ⟨fl, ?_⟩
        have hs : setM (putE e ms[k]) = setM ms[k] := by
          show AT.At ms[k].2.b (if meetsC ms[k].2.c e then _ else _) = _
          have hm' : meetsC ms[k].2.c e = false := hm
          rw [if_neg (by simp [hm'])]; rfl
        have hm' : meetsC ms[k].2.c e = false := hm
        rw [turned1 hk', hs, hht, if_neg (by simp [hm']), List.append_nil]
        exact hO
    · rintro u ⟨fl, hO⟩
      rw [hml, List.take_length, List.drop_length, List.append_nil] at hO
      refine ⟨_, _, hO.rd 0 rfl (by simp), hk0 hn u fl ?_⟩
      refine NetAt.shut (me := me) (mm := mm) ?_
      rw [pgM_put]
      have h3 := hO.drop.drop.drop
      have h4 := Ow.at 2 rfl h3
      exact h4.tail fun _ h => h.swap
    · intro _ _ h; exact h.elim

theorem hit_iff {es : List Elem} {ms : AMs} (hI : AInv es ms) {x : Int × AMemo} (hx : x ∈ ms) {e : Elem} (he : e ∈ es) : (getK AT.ck AT.key (AT.key e) x.2.l).isSome = meetsC x.2.c e := by
  rw [hI.has x hx]
  cases hm : meetsC x.2.c e with
  | true =>
    have : getK AT.ck AT.key (AT.key e) (es.filter (meetsC x.2.c)) = some e := (getK_iff AT.hc (UpK.filter hI.ues _)).2 ⟨List.mem_filter.2 ⟨he, hm⟩, rfl⟩
    rw [this]; rfl
  | false =>
    have : getK AT.ck AT.key (AT.key e) (es.filter (meetsC x.2.c)) = none := (getK_none AT.hc).2 fun y hy ey => by
      have hy' := List.mem_filter.1 hy
      have := UpK.inj cmpI_ok hI.ues hy'.1 he ey
      rw [this, hm] at hy'; cases hy'.2
    rw [this]; rfl

theorem cADrop {L : List Asn} {μ : Mem} {n : Nat} {es : List Elem} {ms : AMs} (hO : Ow (NetAt n es ms :: L) μ) (hI : AInv es ms) (t : Int) {K : PV → Mem → Prop}
    (hk0 : getK cmpI tagE t es = none → ∀ μ', Ow (NetAt n es ms :: L) μ' → K (.tup [.list 1 .nil [], pI 4]) μ')
    (hk1 : ∀ e, getK cmpI tagE t es = some e → ∀ μ' fl, Ow (NetAt n (delK cmpI tagE t es) (ms.map (dropE t)) :: L) μ' → K (.tup [.list 1 fl ((hitsM e ms).map intRow), pI 0]) μ') : CallP Try.prog 26 [pP n 0, pI t] μ K := by
  obtain ⟨me, mm, h⟩ := NetAt.open_ hO
  have hlm := hI.lm
  have hle := hI.le
  refine G_alpha_Net_Drop.c ⟨_, h.rd 0 rfl (by simp), AE.cMDrop (Ow.at 1 rfl h) hI.ue (by simp; omega) t (fun y u1 hy h1 => ?_) (fun u1 hy h1 => ?_)⟩
  · rw [getE] at hy
    obtain ⟨e, he, rfl⟩ := Option.map_eq_some_iff.1 hy
    obtain ⟨hem, het⟩ := (getK_iff cmpI_ok hI.ues).1 he
    have het : e.tag = t := het
    refine ⟨_, _, _, _, _, _, _, _, _, _, _, _, _, rfl, fun b6 hb6 => (h1.new 51 z12 hb6).st 0 rfl (by simp) fun u2 h2 => CIf.f rfl fun b8 hb8 => ?_⟩
    have e1 : delK AE.ck AE.key (AE.key (t, AE.z)) (es.map pgE) = (delK cmpI tagE t es).map pgE := delK_map
    rw [e1] at h2
    have h3 := h2.new 44 [.list 1 .nil []] hb8
    refine ⟨_, h3.rd 3 rfl (by simp), (AM.cMAll mm).call ⟨_, _, _, rfl, ?_⟩⟩
    have hml : ((ms.map pgM).map fun x => [AM.argK x.1, AM.argV x.2]).length = ms.length := by simp
    refine RangeP.own (AM.seqMAll mm (ms.map pgM) (by simp; omega)) (Ow.at 4 rfl h3)
      (fun k u => ∃ fl, Ow (Pt b8 44 [.list 1 fl ((hitsM e (ms.take k)).map intRow)] :: Tip fl (hitsM e (ms.take k)).length 1 :: Pt b6 51 e.pv :: AM.MAt mm (ms.map pgM) :: AE.MAt me ((delK cmpI tagE t es).map pgE) :: Pt n 79 [pP me 0, pP mm 0] :: (((ms.take k).map (dropE t) ++ ms.drop k).map setM ++ L)) u)
      (fun _ _ => False) (fun k => UpC.ex fun _ => UpC.own _) (fun _ _ _ _ h => h.elim) (fun μ' h' => ⟨.nil, ?_⟩) ?_ ?_ ?_
    · have h4 : Ow (Pt b8 44 [.list 1 .nil []] :: Pt b6 51 e.pv :: AM.MAt mm (ms.map pgM) :: AE.MAt me ((delK cmpI tagE t es).map pgE) :: Pt n 79 [pP me 0, pP mm 0] :: (ms.map setM ++ L)) μ' := by
        refine h'.swap.tail fun _ h => ?_
        exact h.swap
      refine h4.tail fun _ h => Ow.nil ?_ (.inl rfl)
      simpa using h
    · rintro k hk u R ⟨fl, hO⟩ hnone _
      have hk' : k < ms.length := by simpa using hk
      have hxm : ms[k] ∈ ms := List.getElem_mem hk'
      have hul := hI.ul hxm
      have hht := hitsM_take (e := e) hk'
      have hlt := hitsM_len e (ms.take k)
      rw [List.length_take] at hlt
      have hhit := hit_iff hI hxm hem
      rw [List.getElem_map, List.getElem_map]
      rw [turned hk'] at hO
      have hO2 := Ow.pick (P := [Pt b8 44 [.list 1 fl ((hitsM e (ms.take k)).map intRow)], Tip fl (hitsM e (ms.take k)).length 1, Pt b6 51 e.pv, AM.MAt mm (ms.map pgM), AE.MAt me ((delK cmpI tagE t es).map pgE), Pt n 79 [pP me 0, pP mm 0]]) hO
      have hs : setM (dropE t ms[k]) = AT.At ms[k].2.b (delK AT.ck AT.key (AT.key e) ms[k].2.l) := by
        have : AT.key e = t := het
        rw [this]; rfl
      refine ⟨_, _, _, _, _, _, _, _, _, _, _, _, _, rfl, _, _, _, _, _, _, _, _, _, _, _, _, hO.rd 2 rfl (by simp), AT.cDrop (l := ms[k].2.l) hO2 hul.1 (by omega) e fun u3 h3 => ⟨_, rfl, ?_⟩⟩
      rw [hhit]
      refine CIf.mk (fun hm => ⟨_, _, h3.rd 1 rfl (by simp), ?_⟩) (fun hm => ?_)
      · have h4 := (Ow.at 2 rfl h3)
        refine Ow.app h4 (by simp) (by simp; omega) (by simp; omega) fun f' u4 h5 => ?_
        refine h5.st 2 rfl (by simp) fun u6 h6 => hnone _ ⟨f', ?_⟩
        rw [turned1 hk', hs, hht, if_pos hm, List.map_append, List.length_append]
        refine Ow.unpick (P := [Pt b8 44 [.list 1 f' ((hitsM e (ms.take k)).map intRow ++ [ms[k].1].map intRow)], Tip f' ((hitsM e (ms.take k)).length + [ms[k].1].length) 1, Pt b6 51 e.pv, AM.MAt mm (ms.map pgM), AE.MAt me ((delK cmpI tagE t es).map pgE), Pt n 79 [pP me 0, pP mm 0]]) ?_
        have h7 : Ow (Tip f' ((hitsM e (ms.take k)).length + 1) 1 :: AT.At ms[k].2.b (delK AT.ck AT.key (AT.key e) ms[k].2.l) :: Pt b8 44 [.list 1 f' ((hitsM e (ms.take k)).map intRow ++ [[pI ms[k].1]])] :: Pt b6 51 e.pv :: AM.MAt mm (ms.map pgM) :: AE.MAt me ((delK cmpI tagE t es).map pgE) :: Pt n 79 [pP me 0, pP mm 0] :: ((((ms.take k).map (dropE t)).map setM ++ (ms.drop (k + 1)).map setM) ++ L)) u6 := h6
        exact h7.swap.tail fun _ h => h.swap
      · refine hnone _ ⟨fl, ?_⟩
        rw [turned1 hk', hs, hht, if_neg (by simp [hm]), List.append_nil]
        exact Ow.unpick (P := [Pt b8 44 [.list 1 fl ((hitsM e (ms.take k)).map intRow)], Tip fl (hitsM e (ms.take k)).length 1, Pt b6 51 e.pv, AM.MAt mm (ms.map pgM), AE.MAt me ((delK cmpI tagE t es).map pgE), Pt n 79 [pP me 0, pP mm 0]]) h3
    · rintro u ⟨fl, hO⟩
      rw [hml, List.take_length, List.drop_length, List.append_nil] at hO
      refine ⟨_, _, hO.rd 0 rfl (by simp), hk1 e he u fl ?_⟩
      refine NetAt.shut (me := me) (mm := mm) ?_
      rw [pgM_drop]
      have h4 := Ow.at 2 rfl hO.drop.drop.drop
      exact h4.tail fun _ h => h.swap
    · intro _ _ h; exact h.elim
  · rw [getE] at hy
    refine ⟨_, _, _, _, _, _, _, _, _, _, _, _, _, rfl, fun b6 hb6 => (h1.new 51 z12 hb6).st 0 rfl (by simp) fun u2 h2 => CIf.t rfl (hk0 (map_none hy) u2 (NetAt.shut (Ow.swap h2.drop)))⟩

@[reducible] def inF (n : Nat) (k : Int) : PV := .fn (.func 51) [] [.fptr [pP n 0] 0, .fptr [pI k] 0]
theorem cIn (n : Nat) (k : Int) : Pure Try.prog 25 [pP n 0, pI k] (inF n k) := PureK.of (G_alpha_Net_In.c rfl)
def inL (k : Int) (ms : AMs) : List Elem := ((getK cmpI numM k ms).map fun x => x.2.l).getD []

theorem seqIn (n : Nat) (k : Int) {es : List Elem} {ms : AMs} (hI : AInv es ms) : SeqO Try.prog (inF n k) ((inL k ms).map fun e => [.agg e.pv]) (NetAt n es ms) (NetAt n es ms) := by
  refine SeqO.mk fun fy ya yb I S C μ hy hO h0 hstep => ?_
  show CallP _ _ [.fn fy ya yb, .fptr [pP n 0] 0, .fptr [pI k] 0] _ _
  obtain ⟨me, mm, h⟩ := NetAt.open_ hO
  have hlm := hI.lm
  refine G_alpha_Net_In_1.c fun b3 hb3 => ?_
  have O1 := h.new 96 [.fn fy ya yb] hb3
  refine ⟨fun s u => ∃ b4, s.1 = some ⟨b4, 0, none⟩ ∧ ((∃ x, getK cmpI numM k ms = some x ∧ s.2 = true ∧ Ow (Pt b4 77 (cc x.2.c ++ [pI x.2.users, pP x.2.b 0]) :: AM.MAt mm (ms.map pgM) :: Pt b3 96 [.fn fy ya yb] :: Pt n 79 [pP me 0, pP mm 0] :: AE.MAt me (es.map pgE) :: (ms.map setM ++ [C])) u) ∨ (getK cmpI numM k ms = none ∧ s.2 = false ∧ Ow (AM.MAt mm (ms.map pgM) :: Pt b3 96 [.fn fy ya yb] :: Pt n 79 [pP me 0, pP mm 0] :: AE.MAt me (es.map pgE) :: (ms.map setM ++ [C])) u)), ⟨_, rfl, _, O1.rd 1 rfl (by simp), _, rfl, ?_, fun b4 hb4 => ?_⟩, ?_⟩
  · refine AM.cMGet (Ow.at 3 rfl O1) hI.um (by simp; omega) k (fun y μ' hy h' => ?_) (fun μ' hy h' => ?_)
    · rw [getM] at hy
      obtain ⟨x, hx, rfl⟩ := Option.map_eq_some_iff.1 hy
      exact ⟨_, _, _, _, _, _, _, _, _, _, _, _, _, rfl, fun b4 hb4 => (h'.new 77 _ hb4).st 0 rfl (by simp) fun u2 h2 => ⟨b4, rfl, .inl ⟨x, hx, rfl, h2⟩⟩⟩
    · rw [getM] at hy
      exact ⟨_, _, _, _, _, _, _, _, _, _, _, _, _, rfl, fun b4 hb4 => (h'.new 77 _ hb4).st 0 rfl (by simp) fun u2 h2 => ⟨b4, rfl, .inr ⟨map_none hy, rfl, h2.drop⟩⟩⟩
  · have O2 := O1.new 77 [pI 0, pB false, pS ⟨#[]⟩, .list 6 .nil [], .list 6 .nil [], pB false, .list 7 .nil [], pI 0, .raw (.pointer none)] hb4
    refine AM.cMGet (Ow.at 4 rfl O2) hI.um (by simp; omega) k (fun y μ' hy h' => ?_) (fun μ' hy h' => ?_)
    · rw [getM] at hy
      obtain ⟨x, hx, rfl⟩ := Option.map_eq_some_iff.1 hy
      exact ⟨_, _, _, _, _, _, _, _, _, _, _, _, _, rfl, h'.st 1 rfl (by simp) fun u2 h2 => ⟨b4, rfl, .inl ⟨x, hx, rfl, Ow.swap h2⟩⟩⟩
    · rw [getM] at hy
      exact ⟨_, _, _, _, _, _, _, _, _, _, _, _, _, rfl, h'.st 1 rfl (by simp) fun u2 h2 => ⟨b4, rfl, .inr ⟨map_none hy, rfl, (Ow.swap h2).drop⟩⟩⟩
  · rintro ⟨_, q⟩ u ⟨b4, rfl, ⟨x, hx, rfl, hO⟩ | ⟨hx, rfl, hO⟩⟩
    · obtain ⟨hxm, hxk⟩ := (getK_iff cmpI_ok hI.ums).1 hx
      have hul := hI.ul hxm
      have hin : inL k ms = x.2.l := by unfold inL; rw [hx]; rfl
      rw [hin] at hstep ⊢
      refine CIf.f rfl ⟨_, hO.rd 0 rfl (by simp), (AT.cAll x.2.b).call ⟨_, _, _, rfl, ?_⟩⟩
      obtain ⟨A, B, eAB, _, _⟩ := hI.ums.at_ cmpI_ok hxm
      have e2 : ms.map setM = A.map setM ++ setM x :: B.map setM := by conv => lhs; rw [eAB]
                                                                       simp
      have hO1 := hO.drop
      rw [e2] at hO1
      have hO2 := Ow.pick (P := [AM.MAt mm (ms.map pgM), Pt b3 96 [.fn fy ya yb], Pt n 79 [pP me 0, pP mm 0], AE.MAt me (es.map pgE)]) hO1
      refine RangeP.own (AT.seqAll x.2.b x.2.l (by omega)) hO2 (fun i => Ow [Pt b3 96 [.fn fy ya yb], I i]) (fun cd u => cd = .ret ∧ Ow [S] u) (fun i => UpC.own _) (fun cd => UpC.and (UpC.own _)) (fun μ' h' => ?_) ?_ ?_ ?_
      · have h3 := Ow.unpick (P := [AM.MAt mm (ms.map pgM), Pt b3 96 [.fn fy ya yb], Pt n 79 [pP me 0, pP mm 0], AE.MAt me (es.map pgE)]) h'
        have h4 : Ow (Pt b3 96 [.fn fy ya yb] :: (AM.MAt mm (ms.map pgM) :: Pt n 79 [pP me 0, pP mm 0] :: AE.MAt me (es.map pgE) :: (ms.map setM ++ [C]))) μ' := by
          rw [e2]; exact Ow.swap h3
        exact h4.tail fun ν hν => h0 ν (net_mm hν)
      · rintro i hi u1 R hO hnone hsome
        have hi' : i < x.2.l.length := by simpa using hi
        have hst := hstep i (by simpa using hi')
        rw [List.getElem_map] at hst ⊢
        refine ⟨_, _, _, _, _, _, _, _, _, _, _, _, rfl, _, _, _, hO.rd 0 rfl (by simp), Ow.callV hO.swap (fun ν hν => hst ν hν) fun v μ' hO' => ?_⟩
        rcases hO'.split2 with ⟨rfl, h⟩ | ⟨rfl, h⟩
        · exact ⟨true, rfl, CIf.f rfl (hnone _ h.swap)⟩
        · exact ⟨false, rfl, CIf.t rfl (hsome _ _ ⟨rfl, h.swap.drop⟩)⟩
      · intro u1 hO
        rw [List.length_map] at hO
        exact .inl (by rw [List.length_map]; exact hO.drop)
      · rintro cd u1 ⟨rfl, h⟩
        exact .inr h
    · have hin : inL k ms = [] := by unfold inL; rw [hx]; rfl
      rw [hin]
      refine CIf.t rfl (.inl (h0 u (net_mm (Ow.swap hO).drop)))

end Go.Proofs.Ytdiimonfmdbclaa
