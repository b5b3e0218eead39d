import Derived.Test.YtdiimonfmdbclaaQ11
import Derived.Test.YtdiimonfmdbclaaRows
import Derived.WalkKit
import Derived.ProofKit
import Derived.OpenShut
import Derived.ShutString
import Derived.ChangeOld
import Derived.Below
/-
  Elements by themselves: elements that come and go; what a memory has.
-/
namespace Go.Proofs.Ytdiimonfmdbclaa
open Go.Eng Go.RowKit
set_option linter.unusedVariables false
set_option linter.unusedSimpArgs false
set_option linter.unnecessarySimpa false

@[reducible] def intRow (k : Int) : List PV := [pI k]
@[reducible] def z12 : List PV := [pI 0, pS ⟨#[]⟩, pI 0, pI 0, pS ⟨#[]⟩, pI 0, pI 0, pS ⟨#[]⟩, pI 0, pB false, pB false, pI 0]

theorem hitsM_take {e : Elem} {ms : AMs} {k : Nat} (hk : k < ms.length) : hitsM e (ms.take (k + 1)) = hitsM e (ms.take k) ++ (if meetsC ms[k].2.c e = true then [ms[k].1] else []) := by
  unfold hitsM
  rw [List.take_add_one, List.getElem?_eq_getElem hk, List.filter_append, List.map_append]
  congr 1
  simp only [Option.toList_some, List.filter_cons, List.filter_nil]
  split <;> rfl
theorem hitsM_len (e : Elem) (ms : AMs) : (hitsM e ms).length ≤ ms.length := by
  unfold hitsM; rw [List.length_map]; exact List.length_filter_le _ _

/-- Some of the memories have turned. -/
theorem turned {f : Int × AMemo → Int × AMemo} {ms : AMs} {k : Nat} (hk : k < ms.length) : ((ms.take k).map f ++ ms.drop k).map setM = ((ms.take k).map f).map setM ++ setM ms[k] :: (ms.drop (k + 1)).map setM := by
  rw [List.map_append, List.drop_eq_getElem_cons hk, List.map_cons]
theorem turned1 {f : Int × AMemo → Int × AMemo} {ms : AMs} {k : Nat} (hk : k < ms.length) : ((ms.take (k + 1)).map f ++ ms.drop (k + 1)).map setM = ((ms.take k).map f).map setM ++ setM (f ms[k]) :: (ms.drop (k + 1)).map setM := by
  have e : (ms.take (k + 1)).map f = (ms.take k).map f ++ [f ms[k]] := mapTake hk
  rw [e, List.map_append, List.map_append, List.append_assoc]; rfl
theorem pgM_put (e : Elem) (ms : AMs) : (ms.map (putE e)).map pgM = ms.map pgM := by rw [List.map_map]; rfl
theorem pgM_drop (t : Int) (ms : AMs) : (ms.map (dropE t)).map pgM = ms.map pgM := by rw [List.map_map]; rfl

theorem cAPut {L : List Asn} {μ : Mem} {n : Nat} {es : List Elem} {ms : AMs} (hO : Ow (NetAt n es ms :: L) μ) (hI : AInv es ms) (e : Elem) {K : PV → Mem → Prop}
    (hk1 : (getK cmpI tagE e.tag es).isSome = true → ∀ μ', Ow (NetAt n es ms :: L) μ' → K (.tup [.list 1 .nil [], pI 3]) μ')
    (hk0 : getK cmpI tagE e.tag es = none → ∀ μ' fl, Ow (NetAt n (insK cmpI tagE e es) (ms.map (putE e)) :: L) μ' → K (.tup [.list 1 fl ((hitsM e ms).map intRow), pI 0]) μ') : CallP Try.prog 22 [pP n 0, .agg e.pv] μ K := by
  obtain ⟨me, mm, h⟩ := NetAt.open_ hO
  have hlm := hI.lm
  have hle := hI.le
  refine G_alpha_Net_Put.c fun b3 hb3 => ?_
  have O1 := h.new 51 e.pv hb3
  refine ⟨fun s u => getK cmpI tagE e.tag es = none ∧ Ow (Pt b3 51 e.pv :: Pt n 79 [pP me 0, pP mm 0] :: AE.MAt me (es.map pgE) :: AM.MAt mm (ms.map pgM) :: (ms.map setM ++ L)) u, ?_, ?_⟩
  · have fin : ∀ {cs : List PV} {b6 : Nat} {u : Mem} {q : Bool}, Ow (Pt b6 51 cs :: Pt b3 51 e.pv :: Pt n 79 [pP me 0, pP mm 0] :: AE.MAt me (es.map pgE) :: AM.MAt mm (ms.map pgM) :: (ms.map setM ++ L)) u → (q = true → (getK cmpI tagE e.tag es).isSome = true) → (q = false → getK cmpI tagE e.tag es = none) → CIf q (K (.tup [.list 1 .nil [], pI 3]) u) (getK cmpI tagE e.tag es = none ∧ Ow (Pt b3 51 e.pv :: Pt n 79 [pP me 0, pP mm 0] :: AE.MAt me (es.map pgE) :: AM.MAt mm (ms.map pgM) :: (ms.map setM ++ L)) u) := fun {cs b6 u q} hO h1 h2 =>
      CIf.mk (fun hq => hk1 (h1 hq) u (NetAt.shut hO.drop.drop)) (fun hq => ⟨h2 hq, hO.drop⟩)
    refine ⟨_, O1.rd 1 rfl (by simp), _, O1.rd 0 rfl (by simp), ?_, fun b6 hb6 => ?_⟩
    · refine AE.cMGet (Ow.at 2 rfl O1) hI.ue (by simp; omega) e.tag (fun y μ' hy h' => ?_) (fun μ' hy h' => ?_)
      · refine ⟨_, _, _, _, _, _, _, _, _, _, _, _, _, rfl, fun b6 hb6 => ((h'.swap.tail fun _ h => h.swap).new 51 z12 hb6).st 0 rfl (by simp) fun u2 h2 => fin h2 (fun _ => ?_) (fun hq => by cases hq)⟩
        rw [getE] at hy
        cases hx : getK cmpI tagE e.tag es with
        | none => rw [hx] at hy; cases hy
        | some x => rfl
      · refine ⟨_, _, _, _, _, _, _, _, _, _, _, _, _, rfl, fun b6 hb6 => ((h'.swap.tail fun _ h => h.swap).new 51 z12 hb6).st 0 rfl (by simp) fun u2 h2 => fin h2 (fun hq => by cases hq) (fun _ => ?_)⟩
        rw [getE] at hy; exact map_none hy
    · have O2 := O1.new 51 z12 hb6
      refine AE.cMGet (Ow.at 3 rfl O2) hI.ue (by simp; omega) e.tag (fun y μ' hy h' => ?_) (fun μ' hy h' => ?_)
      · refine ⟨_, _, _, _, _, _, _, _, _, _, _, _, _, rfl, (Ow.at 1 rfl h').st 0 rfl (by simp) fun u2 h2 => fin (h2.tail fun _ h => h.swap.tail fun _ h => h.swap) (fun _ => ?_) (fun hq => by cases hq)⟩
        rw [getE] at hy
        cases hx : getK cmpI tagE e.tag es with
        | none => rw [hx] at hy; cases hy
        | some x => rfl
      · refine ⟨_, _, _, _, _, _, _, _, _, _, _, _, _, rfl, (Ow.at 1 rfl h').st 0 rfl (by simp) fun u2 h2 => fin (h2.tail fun _ h => h.swap.tail fun _ h => h.swap) (fun hq => by cases hq) (fun _ => ?_)⟩
        rw [getE] at hy; exact map_none hy
  · rintro ⟨⟨_, _⟩, _⟩ u ⟨hn, hO⟩
    refine ⟨_, hO.rd 1 rfl (by simp), _, hO.rd 0 rfl (by simp), _, _, _, _, _, _, _, _, _, _, _, _, hO.rd 0 rfl (by simp), ?_⟩
    refine AE.cMPut (Ow.at 2 rfl hO) hI.ue (by simp; omega) e.tag e fun u1 h1 => ⟨_, rfl, fun b8 hb8 => ?_⟩
    have e1 : insK AE.ck AE.key (e.tag, e) (es.map pgE) = (insK cmpI tagE e es).map pgE := insK_map (f := pgE) (x := e)
    rw [e1] at h1
    have h2 := h1.new 44 [.list 1 .nil []] hb8
    refine ⟨_, h2.rd 3 rfl (by simp), (AM.cMAll mm).call ⟨_, _, _, rfl, ?_⟩⟩
    have hml : ((ms.map pgM).map fun x => [AM.argK x.1, AM.argV x.2]).length = ms.length := by simp
    refine RangeP.own (AM.seqMAll mm (ms.map pgM) (by simp; omega)) (Ow.at 4 rfl h2)
      (fun k u => ∃ fl, Ow (Pt b8 44 [.list 1 fl ((hitsM e (ms.take k)).map intRow)] :: Tip fl (hitsM e (ms.take k)).length 1 :: Pt b3 51 e.pv :: AM.MAt mm (ms.map pgM) :: AE.MAt me ((insK cmpI tagE e es).map pgE) :: Pt n 79 [pP me 0, pP mm 0] :: (((ms.take k).map (putE e) ++ ms.drop k).map setM ++ L)) u)
      (fun _ _ => False) (fun k => UpC.ex fun _ => UpC.own _) (fun _ _ _ _ h => h.elim) (fun μ' h' => ⟨.nil, ?_⟩) ?_ ?_ ?_
    · have h3 : Ow (Pt b8 44 [.list 1 .nil []] :: Pt b3 51 e.pv :: AM.MAt mm (ms.map pgM) :: AE.MAt me ((insK cmpI tagE e es).map pgE) :: Pt n 79 [pP me 0, pP mm 0] :: (ms.map setM ++ L)) μ' := by
        have a1 := h'.swap
        refine a1.tail fun _ h => ?_
        have a2 := (Ow.at 2 rfl h)
        exact a2
      refine h3.tail fun _ h => Ow.nil ?_ (.inl rfl)
      simpa using h
    · rintro k hk u R ⟨fl, hO⟩ hnone _
      have hk' : k < ms.length := by simpa using hk
      have hxm : ms[k] ∈ ms := List.getElem_mem hk'
      have hb := (hI.bare _ hxm).light
      have hul := hI.ul hxm
      have hht := hitsM_take (e := e) hk'
      have hlt := hitsM_len e (ms.take k)
      rw [List.length_take] at hlt
      rw [List.getElem_map, List.getElem_map]
      rw [turned hk'] at hO
      have hO2 := Ow.pick (P := [Pt b8 44 [.list 1 fl ((hitsM e (ms.take k)).map intRow)], Tip fl (hitsM e (ms.take k)).length 1, Pt b3 51 e.pv, AM.MAt mm (ms.map pgM), AE.MAt me ((insK cmpI tagE e es).map pgE), Pt n 79 [pP me 0, pP mm 0]]) hO
      refine ⟨_, _, _, _, _, _, _, _, _, _, _, _, _, rfl, _, _, _, _, _, _, _, _, _, _, _, _, hO.rd 2 rfl (by simp), (cMeets ms[k].2.c e .sh .sh .sh hb).call ⟨_, rfl, CIf.mk (fun hm => ?_) (fun hm => ?_)⟩⟩
      · refine ⟨_, _, _, _, _, _, _, _, _, _, _, _, hO.rd 2 rfl (by simp), AT.cPut (l := ms[k].2.l) hO2 hul.1 (by omega) e fun u3 h3 => ⟨_, rfl, _, _, h3.rd 1 rfl (by simp), ?_⟩⟩
        have hs : setM (putE e ms[k]) = AT.At ms[k].2.b (putK AT.ck AT.key e ms[k].2.l) := by
          show AT.At ms[k].2.b (if meetsC ms[k].2.c e then _ else _) = _
          rw [if_pos hm]; rfl
        have h4 := (Ow.at 2 rfl h3)
        refine Ow.app h4 (by simp) (by simp; omega) (by simp; omega) fun f' u4 h5 => ?_
        refine h5.st 2 rfl (by simp) fun u6 h6 => hnone _ ⟨f', ?_⟩
        rw [turned1 hk', hs, hht, if_pos hm, List.map_append, List.length_append]
        refine Ow.unpick (P := [Pt b8 44 [.list 1 f' ((hitsM e (ms.take k)).map intRow ++ [ms[k].1].map intRow)], Tip f' ((hitsM e (ms.take k)).length + [ms[k].1].length) 1, Pt b3 51 e.pv, AM.MAt mm (ms.map pgM), AE.MAt me ((insK cmpI tagE e es).map pgE), Pt n 79 [pP me 0, pP mm 0]]) ?_
        have h7 : Ow (Tip f' ((hitsM e (ms.take k)).length + 1) 1 :: AT.At ms[k].2.b (putK AT.ck AT.key e ms[k].2.l) :: Pt b8 44 [.list 1 f' ((hitsM e (ms.take k)).map intRow ++ [[pI ms[k].1]])] :: Pt b3 51 e.pv :: AM.MAt mm (ms.map pgM) :: AE.MAt me ((insK cmpI tagE e es).map pgE) :: Pt n 79 [pP me 0, pP mm 0] :: ((((ms.take k).map (putE e)).map setM ++ (ms.drop (k + 1)).map setM) ++ L)) u6 := h6
        exact h7.swap.tail fun _ h => h.swap
      · refine hnone _ ⟨fl, ?_⟩
        have hs : setM (putE e ms[k]) = setM ms[k] := by
          show AT.At ms[k].2.b (if meetsC ms[k].2.c e then _ else _) = _
          have hm' : meetsC ms[k].2.c e = false := hm
          rw [if_neg (by simp [hm'])]; rfl
        have hm' : meetsC ms[k].2.c e = false := hm
        rw [turned1 hk', hs, hht, if_neg (by simp [hm']), List.append_nil]
        exact hO
    · rintro u ⟨fl, hO⟩
      rw [hml, List.take_length, List.drop_length, List.append_nil] at hO
      refine ⟨_, _, hO.rd 0 rfl (by simp), hk0 hn u fl ?_⟩
      refine NetAt.shut (me := me) (mm := mm) ?_
      rw [pgM_put]
      have h3 := hO.drop.drop.drop
      have h4 := Ow.at 2 rfl h3
      exact h4.tail fun _ h => h.swap
    · intro _ _ h; exact h.elim

theorem hit_iff {es : List Elem} {ms : AMs} (hI : AInv es ms) {x : Int × AMemo} (hx : x ∈ ms) {e : Elem} (he : e ∈ es) : (getK AT.ck AT.key (AT.key e) x.2.l).isSome = meetsC x.2.c e := by
  rw [hI.has x hx]
  cases hm : meetsC x.2.c e with
  | true =>
    have : getK AT.ck AT.key (AT.key e) (es.filter (meetsC x.2.c)) = some e := (getK_iff AT.hc (UpK.filter hI.ues _)).2 ⟨List.mem_filter.2 ⟨he, hm⟩, rfl⟩
    rw [this]; rfl
  | false =>
    have : getK AT.ck AT.key (AT.key e) (es.filter (meetsC x.2.c)) = none := (getK_none AT.hc).2 fun y hy ey => by
      have hy' := List.mem_filter.1 hy
      have := UpK.inj cmpI_ok hI.ues hy'.1 he ey
      rw [this, hm] at hy'; cases hy'.2
    rw [this]; rfl

theorem cADrop {L : List Asn} {μ : Mem} {n : Nat} {es : List Elem} {ms : AMs} (hO : Ow (NetAt n es ms :: L) μ) (hI : AInv es ms) (t : Int) {K : PV → Mem → Prop}
    (hk0 : getK cmpI tagE t es = none → ∀ μ', Ow (NetAt n es ms :: L) μ' → K (.tup [.list 1 .nil [], pI 4]) μ')
    (hk1 : ∀ e, getK cmpI tagE t es = some e → ∀ μ' fl, Ow (NetAt n (delK cmpI tagE t es) (ms.map (dropE t)) :: L) μ' → K (.tup [.list 1 fl ((hitsM e ms).map intRow), pI 0]) μ') : CallP Try.prog 26 [pP n 0, pI t] μ K := by
  obtain ⟨me, mm, h⟩ := NetAt.open_ hO
  have hlm := hI.lm
  have hle := hI.le
  refine G_alpha_Net_Drop.c ⟨_, h.rd 0 rfl (by simp), AE.cMDrop (Ow.at 1 rfl h) hI.ue (by simp; omega) t (fun y u1 hy h1 => ?_) (fun u1 hy h1 => ?_)⟩
  · rw [getE] at hy
    obtain ⟨e, he, rfl⟩ := Option.map_eq_some_iff.1 hy
    obtain ⟨hem, het⟩ := (getK_iff cmpI_ok hI.ues).1 he
    have het : e.tag = t := het
    refine ⟨_, _, _, _, _, _, _, _, _, _, _, _, _, rfl, fun b6 hb6 => (h1.new 51 z12 hb6).st 0 rfl (by simp) fun u2 h2 => CIf.f rfl fun b8 hb8 => ?_⟩
    have e1 : delK AE.ck AE.key (AE.key (t, AE.z)) (es.map pgE) = (delK cmpI tagE t es).map pgE := delK_map
    rw [e1] at h2
    have h3 := h2.new 44 [.list 1 .nil []] hb8
    refine ⟨_, h3.rd 3 rfl (by simp), (AM.cMAll mm).call ⟨_, _, _, rfl, ?_⟩⟩
    have hml : ((ms.map pgM).map fun x => [AM.argK x.1, AM.argV x.2]).length = ms.length := by simp
    refine RangeP.own (AM.seqMAll mm (ms.map pgM) (by simp; omega)) (Ow.at 4 rfl h3)
      (fun k u => ∃ fl, Ow (Pt b8 44 [.list 1 fl ((hitsM e (ms.take k)).map intRow)] :: Tip fl (hitsM e (ms.take k)).length 1 :: Pt b6 51 e.pv :: AM.MAt mm (ms.map pgM) :: AE.MAt me ((delK cmpI tagE t es).map pgE) :: Pt n 79 [pP me 0, pP mm 0] :: (((ms.take k).map (dropE t) ++ ms.drop k).map setM ++ L)) u)
      (fun _ _ => False) (fun k => UpC.ex fun _ => UpC.own _) (fun _ _ _ _ h => h.elim) (fun μ' h' => ⟨.nil, ?_⟩) ?_ ?_ ?_
    · have h4 : Ow (Pt b8 44 [.list 1 .nil []] :: Pt b6 51 e.pv :: AM.MAt mm (ms.map pgM) :: AE.MAt me ((delK cmpI tagE t es).map pgE) :: Pt n 79 [pP me 0, pP mm 0] :: (ms.map setM ++ L)) μ' := by
        refine h'.swap.tail fun _ h => ?_
        exact h.swap
      refine h4.tail fun _ h => Ow.nil ?_ (.inl rfl)
      simpa using h
    · rintro k hk u R ⟨fl, hO⟩ hnone _
      have hk' : k < ms.length := by simpa using hk
      have hxm : ms[k] ∈ ms := List.getElem_mem hk'
      have hul := hI.ul hxm
      have hht := hitsM_take (e := e) hk'
      have hlt := hitsM_len e (ms.take k)
      rw [List.length_take] at hlt
      have hhit := hit_iff hI hxm hem
      rw [List.getElem_map, List.getElem_map]
      rw [turned hk'] at hO
      have hO2 := Ow.pick (P := [Pt b8 44 [.list 1 fl ((hitsM e (ms.take k)).map intRow)], Tip fl (hitsM e (ms.take k)).length 1, Pt b6 51 e.pv, AM.MAt mm (ms.map pgM), AE.MAt me ((delK cmpI tagE t es).map pgE), Pt n 79 [pP me 0, pP mm 0]]) hO
      have hs : setM (dropE t ms[k]) = AT.At ms[k].2.b (delK AT.ck AT.key (AT.key e) ms[k].2.l) := by
        have : AT.key e = t := het
        rw [this]; rfl
      refine ⟨_, _, _, _, _, _, _, _, _, _, _, _, _, rfl, _, _, _, _, _, _, _, _, _, _, _, _, hO.rd 2 rfl (by simp), AT.cDrop (l := ms[k].2.l) hO2 hul.1 (by omega) e fun u3 h3 => ⟨_, rfl, ?_⟩⟩
      rw [hhit]
      refine CIf.mk (fun hm => ⟨_, _, h3.rd 1 rfl (by simp), ?_⟩) (fun hm => ?_)
      · have h4 := (Ow.at 2 rfl h3)
        refine Ow.app h4 (by simp) (by simp; omega) (by simp; omega) fun f' u4 h5 => ?_
        refine h5.st 2 rfl (by simp) fun u6 h6 => hnone _ ⟨f', ?_⟩
        rw [turned1 hk', hs, hht, if_pos hm, List.map_append, List.length_append]
        refine Ow.unpick (P := [Pt b8 44 [.list 1 f' ((hitsM e (ms.take k)).map intRow ++ [ms[k].1].map intRow)], Tip f' ((hitsM e (ms.take k)).length + [ms[k].1].length) 1, Pt b6 51 e.pv, AM.MAt mm (ms.map pgM), AE.MAt me ((delK cmpI tagE t es).map pgE), Pt n 79 [pP me 0, pP mm 0]]) ?_
        have h7 : Ow (Tip f' ((hitsM e (ms.take k)).length + 1) 1 :: AT.At ms[k].2.b (delK AT.ck AT.key (AT.key e) ms[k].2.l) :: Pt b8 44 [.list 1 f' ((hitsM e (ms.take k)).map intRow ++ [[pI ms[k].1]])] :: Pt b6 51 e.pv :: AM.MAt mm (ms.map pgM) :: AE.MAt me ((delK cmpI tagE t es).map pgE) :: Pt n 79 [pP me 0, pP mm 0] :: ((((ms.take k).map (dropE t)).map setM ++ (ms.drop (k + 1)).map setM) ++ L)) u6 := h6
        exact h7.swap.tail fun _ h => h.swap
      · refine hnone _ ⟨fl, ?_⟩
        rw [turned1 hk', hs, hht, if_neg (by simp [hm]), List.append_nil]
        exact Ow.unpick (P := [Pt b8 44 [.list 1 fl ((hitsM e (ms.take k)).map intRow)], Tip fl (hitsM e (ms.take k)).length 1, Pt b6 51 e.pv, AM.MAt mm (ms.map pgM), AE.MAt me ((delK cmpI tagE t es).map pgE), Pt n 79 [pP me 0, pP mm 0]]) h3
    · rintro u ⟨fl, hO⟩
      rw [hml, List.take_length, List.drop_length, List.append_nil] at hO
      refine ⟨_, _, hO.rd 0 rfl (by simp), hk1 e he u fl ?_⟩
      refine NetAt.shut (me := me) (mm := mm) ?_
      rw [pgM_drop]
      have h4 := Ow.at 2 rfl hO.drop.drop.drop
      exact h4.tail fun _ h => h.swap
    · intro _ _ h; exact h.elim
  · rw [getE] at hy
    refine ⟨_, _, _, _, _, _, _, _, _, _, _, _, _, rfl, fun b6 hb6 => (h1.new 51 z12 hb6).st 0 rfl (by simp) fun u2 h2 => CIf.t rfl (hk0 (map_none hy) u2 (NetAt.shut (Ow.swap h2.drop)))⟩

@[reducible] def inF (n : Nat) (k : Int) : PV := .fn (.func 51) [] [.fptr [pP n 0] 0, .fptr [pI k] 0]
theorem cIn (n : Nat) (k : Int) : Pure Try.prog 25 [pP n 0, pI k] (inF n k) := PureK.of (G_alpha_Net_In.c rfl)
def inL (k : Int) (ms : AMs) : List Elem := ((getK cmpI numM k ms).map fun x => x.2.l).getD []

theorem seqIn (n : Nat) (k : Int) {es : List Elem} {ms : AMs} (hI : AInv es ms) : SeqO Try.prog (inF n k) ((inL k ms).map fun e => [.agg e.pv]) (NetAt n es ms) (NetAt n es ms) := by
  refine SeqO.mk fun fy ya yb I S C μ hy hO h0 hstep => ?_
  show CallP _ _ [.fn fy ya yb, .fptr [pP n 0] 0, .fptr [pI k] 0] _ _
  obtain ⟨me, mm, h⟩ := NetAt.open_ hO
  have hlm := hI.lm
  refine G_alpha_Net_In_1.c fun b3 hb3 => ?_
  have O1 := h.new 96 [.fn fy ya yb] hb3
  refine ⟨fun s u => ∃ b4, s.1 = some ⟨b4, 0, none⟩ ∧ ((∃ x, getK cmpI numM k ms = some x ∧ s.2 = true ∧ Ow (Pt b4 77 (cc x.2.c ++ [pI x.2.users, pP x.2.b 0]) :: AM.MAt mm (ms.map pgM) :: Pt b3 96 [.fn fy ya yb] :: Pt n 79 [pP me 0, pP mm 0] :: AE.MAt me (es.map pgE) :: (ms.map setM ++ [C])) u) ∨ (getK cmpI numM k ms = none ∧ s.2 = false ∧ Ow (AM.MAt mm (ms.map pgM) :: Pt b3 96 [.fn fy ya yb] :: Pt n 79 [pP me 0, pP mm 0] :: AE.MAt me (es.map pgE) :: (ms.map setM ++ [C])) u)), ⟨_, rfl, _, O1.rd 1 rfl (by simp), _, rfl, ?_, fun b4 hb4 => ?_⟩, ?_⟩
  · refine AM.cMGet (Ow.at 3 rfl O1) hI.um (by simp; omega) k (fun y μ' hy h' => ?_) (fun μ' hy h' => ?_)
    · rw [getM] at hy
      obtain ⟨x, hx, rfl⟩ := Option.map_eq_some_iff.1 hy
      exact ⟨_, _, _, _, _, _, _, _, _, _, _, _, _, rfl, fun b4 hb4 => (h'.new 77 _ hb4).st 0 rfl (by simp) fun u2 h2 => ⟨b4, rfl, .inl ⟨x, hx, rfl, h2⟩⟩⟩
    · rw [getM] at hy
      exact ⟨_, _, _, _, _, _, _, _, _, _, _, _, _, rfl, fun b4 hb4 => (h'.new 77 _ hb4).st 0 rfl (by simp) fun u2 h2 => ⟨b4, rfl, .inr ⟨map_none hy, rfl, h2.drop⟩⟩⟩
  · have O2 := O1.new 77 [pI 0, pB false, pS ⟨#[]⟩, .list 6 .nil [], .list 6 .nil [], pB false, .list 7 .nil [], pI 0, .raw (.pointer none)] hb4
    refine AM.cMGet (Ow.at 4 rfl O2) hI.um (by simp; omega) k (fun y μ' hy h' => ?_) (fun μ' hy h' => ?_)
    · rw [getM] at hy
      obtain ⟨x, hx, rfl⟩ := Option.map_eq_some_iff.1 hy
      exact ⟨_, _, _, _, _, _, _, _, _, _, _, _, _, rfl, h'.st 1 rfl (by simp) fun u2 h2 => ⟨b4, rfl, .inl ⟨x, hx, rfl, Ow.swap h2⟩⟩⟩
    · rw [getM] at hy
      exact ⟨_, _, _, _, _, _, _, _, _, _, _, _, _, rfl, h'.st 1 rfl (by simp) fun u2 h2 => ⟨b4, rfl, .inr ⟨map_none hy, rfl, (Ow.swap h2).drop⟩⟩⟩
  · rintro ⟨_, q⟩ u ⟨b4, rfl, ⟨x, hx, rfl, hO⟩ | ⟨hx, rfl, hO⟩⟩
    · obtain ⟨hxm, hxk⟩ := (getK_iff cmpI_ok hI.ums).1 hx
      have hul := hI.ul hxm
      have hin : inL k ms = x.2.l := by unfold inL; rw [hx]; rfl
      rw [hin] at hstep ⊢
      refine CIf.f rfl ⟨_, hO.rd 0 rfl (by simp), (AT.cAll x.2.b).call ⟨_, _, _, rfl, ?_⟩⟩
      obtain ⟨A, B, eAB, _, _⟩ := hI.ums.at_ cmpI_ok hxm
      have e2 : ms.map setM = A.map setM ++ setM x :: B.map setM := by conv => lhs; rw [eAB]
                                                                       simp
      have hO1 := hO.drop
      rw [e2] at hO1
      have hO2 := Ow.pick (P := [AM.MAt mm (ms.map pgM), Pt b3 96 [.fn fy ya yb], Pt n 79 [pP me 0, pP mm 0], AE.MAt me (es.map pgE)]) hO1
      refine RangeP.own (AT.seqAll x.2.b x.2.l (by omega)) hO2 (fun i => Ow [Pt b3 96 [.fn fy ya yb], I i]) (fun cd u => cd = .ret ∧ Ow [S] u) (fun i => UpC.own _) (fun cd => UpC.and (UpC.own _)) (fun μ' h' => ?_) ?_ ?_ ?_
      · have h3 := Ow.unpick (P := [AM.MAt mm (ms.map pgM), Pt b3 96 [.fn fy ya yb], Pt n 79 [pP me 0, pP mm 0], AE.MAt me (es.map pgE)]) h'
        have h4 : Ow (Pt b3 96 [.fn fy ya yb] :: (AM.MAt mm (ms.map pgM) :: Pt n 79 [pP me 0, pP mm 0] :: AE.MAt me (es.map pgE) :: (ms.map setM ++ [C]))) μ' := by
          rw [e2]; exact Ow.swap h3
        exact h4.tail fun ν hν => h0 ν (net_mm hν)
      · rintro i hi u1 R hO hnone hsome
        have hi' : i < x.2.l.length := by simpa using hi
        have hst := hstep i (by simpa using hi')
        rw [List.getElem_map] at hst ⊢
        refine ⟨_, _, _, _, _, _, _, _, _, _, _, _, rfl, _, _, _, hO.rd 0 rfl (by simp), Ow.callV hO.swap (fun ν hν => hst ν hν) fun v μ' hO' => ?_⟩
        rcases hO'.split2 with ⟨rfl, h⟩ | ⟨rfl, h⟩
        · exact ⟨true, rfl, CIf.f rfl (hnone _ h.swap)⟩
        · exact ⟨false, rfl, CIf.t rfl (hsome _ _ ⟨rfl, h.swap.drop⟩)⟩
      · intro u1 hO
        rw [List.length_map] at hO
        exact .inl (by rw [List.length_map]; exact hO.drop)
      · rintro cd u1 ⟨rfl, h⟩
        exact .inr h
    · have hin : inL k ms = [] := by unfold inL; rw [hx]; rfl
      rw [hin]
      refine CIf.t rfl (.inl (h0 u (net_mm (Ow.swap hO).drop)))

end Go.Proofs.Ytdiimonfmdbclaa

/-
  The laws of chapter 12: the document's example, lists of elements.
-/
namespace Go.Proofs.Ytdiimonfmdbclaa
open Go.Eng Go.RowKit
set_option linter.unusedVariables false
set_option linter.unusedSimpArgs false
set_option linter.unnecessarySimpa false

theorem cW9 (t : ByteArray) : Pure Try.prog 28 [pS t] (.agg [pI 3, pS t, pI 0]) := PureK.of (G_ponderlaw09_W.c rfl)
theorem cN9 (n : Int) : Pure Try.prog 29 [pI n] (.agg [pI 2, pS ⟨#[]⟩, pI n]) := PureK.of (G_ponderlaw09_N.c rfl)

def wC (id : ByteArray) : Cond := .mk 1 false id [⟨1, ⟨#[]⟩, ⟨3, ⟨#[120]⟩, 0⟩, []⟩] [⟨1, ⟨#[]⟩, ⟨2, ⟨#[]⟩, 5⟩, []⟩] false []
theorem wC_light (id : ByteArray) (h : id.size ≤ 100) : lightC (wC id) := by
  refine (lightC_eq _).2 ⟨h, by show 1 ≤ 10; omega, by show 1 ≤ 10; omega, ?_, ?_, trivial⟩
  · intro t ht; simp [wC, Cond.attr] at ht; subst ht; exact ⟨by decide, by decide, by decide⟩
  · intro t ht; simp [wC, Cond.value] at ht; subst ht; exact ⟨by decide, by decide, by decide⟩
theorem wC_bare (a b : ByteArray) : bareC (wC a) = bareC (wC b) := rfl

theorem ins_nil (x : Int × AMemo) : insK cmpI numM x [] = [x] := rfl
theorem ins_same (k : Int) (m m' : AMemo) : insK cmpI numM (k, m') [(k, m)] = [(k, m')] := by simp [insK, ltK, gtK, cmpI, numM]

theorem cWakes12 : Pure Try.prog 9 [] (pB true) := by
  refine PureK.of (G_ponderlaw12_wakes.c (cANew (L := []) trivial fun u n h => ⟨_, rfl, CIf.f rfl ((cW9 _).call ⟨_, _, _, rfl, (cN9 _).call ⟨_, _, _, rfl, ?_⟩⟩)⟩))
  refine cAWant h AInv.nil (by decide) (by simp) (wC ⟨#[97]⟩) (wC_light _ (by decide)) (fun x hx => by cases hx) fun _ u1 b h1 => ⟨_, rfl, ?_⟩
  rw [ins_nil] at h1
  have hI : AInv [] [(least [], ⟨bareC (wC ⟨#[97]⟩), 1, b, [].filter (meetsC (bareC (wC ⟨#[97]⟩)))⟩)] := (AInv.nil.new (bare_bare (wC_light ⟨#[97]⟩ (by decide))) (by simp) b (by decide)).2
  refine cAWant h1 hI (by simp) (by simp) (wC ⟨#[98]⟩) (wC_light _ (by decide)) (fun x hx ec u2 h2 => ⟨_, rfl, ?_⟩) (fun hno => absurd rfl (hno _ (List.mem_singleton.2 rfl)))
  have hx : x = (0, ⟨bareC (wC ⟨#[97]⟩), 1, b, []⟩) := by simpa [least] using hx
  subst hx
  have hI2 : AInv [] (insK cmpI numM (0, ⟨bareC (wC ⟨#[97]⟩), 1 + 1, b, []⟩) [(least [], ⟨bareC (wC ⟨#[97]⟩), 1, b, [].filter (meetsC (bareC (wC ⟨#[97]⟩)))⟩)]) := hI.upd (x := (least [], ⟨bareC (wC ⟨#[97]⟩), 1, b, [].filter (meetsC (bareC (wC ⟨#[97]⟩)))⟩)) (by simp) rfl rfl rfl ⟨by show (1 : Int) ≤ 1 + 1; decide, by show (1 : Int) + 1 < 1000000; decide⟩
  refine CIf.t rfl (CIf.t rfl (cALen h2 ⟨_, rfl, CIf.t ?_ (cAUsers h2 hI2 0 fun u3 h3 => ⟨_, rfl, ?_⟩)⟩))
  · have : insK cmpI numM ((0 : Int), (⟨bareC (wC ⟨#[97]⟩), 1 + 1, b, []⟩ : AMemo)) [(least [], ⟨bareC (wC ⟨#[97]⟩), 1, b, [].filter (meetsC (bareC (wC ⟨#[97]⟩)))⟩)] = [(0, ⟨bareC (wC ⟨#[97]⟩), 1 + 1, b, []⟩)] := ins_same 0 _ _
    show ((((insK cmpI numM ((0 : Int), (⟨bareC (wC ⟨#[97]⟩), 1 + 1, b, []⟩ : AMemo)) [(least [], ⟨bareC (wC ⟨#[97]⟩), 1, b, [].filter (meetsC (bareC (wC ⟨#[97]⟩)))⟩)]).length : Nat) : Int) == 1) = true
    rw [this]; rfl
  · have : insK cmpI numM ((0 : Int), (⟨bareC (wC ⟨#[97]⟩), 1 + 1, b, []⟩ : AMemo)) [(least [], ⟨bareC (wC ⟨#[97]⟩), 1, b, [].filter (meetsC (bareC (wC ⟨#[97]⟩)))⟩)] = [(0, ⟨bareC (wC ⟨#[97]⟩), 1 + 1, b, []⟩)] := ins_same 0 _ _
    show wk (pB ((((getK cmpI numM 0 (insK cmpI numM ((0 : Int), (⟨bareC (wC ⟨#[97]⟩), 1 + 1, b, []⟩ : AMemo)) [(least [], ⟨bareC (wC ⟨#[97]⟩), 1, b, [].filter (meetsC (bareC (wC ⟨#[97]⟩)))⟩)])).map fun x => x.2.users).getD 0) == 2)) = pB true
    rw [this]; rfl

theorem rowsCC (l : List Cond) : l.map Cond.pv = l.map cc := List.map_congr_left fun c _ => Cond.pv_eq c

theorem cSizeCC (f : Fl) (l : List Cond) (most : Nat) (hm : most ≤ 1000) : PureK Try.prog 7 [.list 7 f (l.map cc), pI (most : Nat), pI 0] fun p => ∃ r : Nat, p = pI (r : Nat) ∧ r ≤ most + 1 ∧ (r ≤ most → sizeL l = r) := by
  have := cKSize _ f l most 0 (Nat.le_refl _) hm (by omega)
  rw [rowsCC] at this; exact this
theorem cHeavyCC (f : Fl) (l : List Cond) (hs : sizeL l ≤ 1000000) : PureK Try.prog 8 [.list 7 f (l.map cc)] fun p => ∃ q : Bool, p = pB q ∧ (q = false → lightL l) := by
  have := cHeavyConds _ f l (Nat.le_refl _) hs
  rw [rowsCC] at this; exact this

theorem cListE {fn : Fn} {a b : List PV} {A : Asn} {es : List Elem} (hs : SeqO Try.prog (.fn fn a b) (es.map fun e => [.agg e.pv]) A A) (hl : es.length ≤ 1000000) {L : List Asn} {μ : Mem} (hO : Ow (A :: L) μ) {K : PV → Mem → Prop} (hk : ∀ μ' fl, Ow (A :: L) μ' → K (.list 12 fl (es.map Elem.pv)) μ') : CallP Try.prog 24 [.fn fn a b] μ K := by
  refine G_ponderkeep_List_api_Elem.c fun b3 hb3 => ?_
  have O1 := (hO.new 42 [.list 12 .nil []] hb3).swap
  refine RangeP.own hs O1 (fun k u => ∃ f, Ow (Pt b3 42 [.list 12 f ((es.take k).map Elem.pv)] :: Tip f k 12 :: A :: L) u) (fun _ _ => False) (fun k => UpC.ex fun _ => UpC.own _) (fun _ _ _ _ h => h.elim) (fun μ' h => ⟨.nil, h.swap.tail fun _ h => Ow.nil h (.inl rfl)⟩) ?_ ?_ ?_
  · rintro k hk u R ⟨f, hO⟩ hnone _
    have hk' : k < es.length := by simpa using hk
    rw [List.getElem_map]
    refine ⟨_, _, _, _, _, _, _, _, _, _, _, _, rfl, _, _, hO.rd 0 rfl (by simp), Ow.app hO.swap (by simp; omega) (by simp; omega) (by simp; omega) fun f' u' hO' => ?_⟩
    refine hO'.st 1 rfl (by simp) fun u2 hO2 => hnone _ ⟨f', ?_⟩
    rw [mapTake hk']
    exact Ow.swap hO2
  · rintro u ⟨f, hO⟩
    refine ⟨_, _, hO.rd 0 rfl (by simp), ?_⟩
    rw [List.length_map, List.take_length] at hO ⊢
    exact hk u f hO.drop.drop
  · intro c u h; exact h.elim

end Go.Proofs.Ytdiimonfmdbclaa

/-
  Bare conditions: what the document's own says.
-/
namespace Go.Proofs.Ytdiimonfmdbclaa
open Go.Eng Go.RowKit
set_option linter.unusedVariables false
set_option linter.unusedSimpArgs false
set_option linter.unnecessarySimpa false

theorem cRbare (f : Fl) (l : List Test) (hl : l.length ≤ 1000) (ht : ∀ t ∈ l, t.list.length ≤ 1000) : Pure Try.prog 33 [.list 6 f (l.map Test.pv)] (.list 6 .sh ((stillL l).map Test.pv)) := by
  refine PureK.of (G_ponderref10_bare.c ?_)
  have hb : ∀ k, (stillL (l.take k)).length ≤ 1000 := fun k => by
    have := stillL_len (l.take k)
    have h3 : (l.take k).length ≤ l.length := by rw [List.length_take]; omega
    omega
  refine LoopI.each2 (n := l.length) (by omega) (fun k x u => x.2 = (stillL (l.take k)).map Test.pv ∧ Ow [Tip x.1 (stillL (l.take k)).length 6] u) ⟨rfl, Ow.nil (L := []) trivial (.inl rfl)⟩ ?_ ?_
  · rintro k ⟨fl, _⟩ u next hk ⟨rfl, hO⟩ hnext
    have hft := stillL_take hk
    have hbk := hb k
    have htk := ht _ (List.getElem_mem hk)
    refine CIf.t (by simpa using hk) ⟨by omega, _, atRow hk, _, rfl, CIf.mk (fun hv => ?_) (fun hv => ?_)⟩
    · rw [if_pos hv] at hft
      refine ⟨by omega, _, atRow hk, _, _, _, _, _, _, _, rfl, by omega, _, atRow hk, _, _, rfl, ?_⟩
      refine Ow.app (Ow.nil (n := 0) hO (.inl rfl)) rfl (by simp only [List.length_map]; omega) (by simp only [List.length_map]; omega) fun f1 u1 hO1 => ?_
      refine Ow.app hO1.drop (by simp only [List.length_map]) (by simp only [List.length_singleton]; omega) (by simp only [List.length_singleton]; omega) fun f2 u2 hO2 => hnext _ _ ⟨?_, ?_⟩
      · rw [hft, List.map_append]; rfl
      · rw [hft, List.length_append]; exact hO2
    · rw [if_neg (by simp [hv]), List.append_nil] at hft
      exact hnext _ _ ⟨by rw [hft], by rw [hft]; exact hO⟩
  · rintro ⟨fl, _⟩ u next ⟨rfl, hO⟩
    refine CIf.f (by simp) ?_
    rw [List.take_length]; rfl

theorem cRBare (c : Cond) (fa fv fc : Fl) (hl : lightC c) : Pure Try.prog 12 [.agg [pI c.kind, pB c.goal, pS c.id, .list 6 fa (c.attr.map Test.pv), .list 6 fv (c.value.map Test.pv), pB c.acc, .list 7 fc (c.conds.map Cond.pv)]] (.agg (cc (bareC c))) := by
  obtain ⟨_, h1, h2, h3, h4, _⟩ := (lightC_eq c).1 hl
  refine PureK.of (G_ponderref10_Bare.c ?_)
  refine (cRbare _ c.attr (by omega) (light1000 h3)).q ⟨_, _, rfl, (cRbare _ c.value (by omega) (light1000 h4)).q ⟨_, _, rfl, rfl⟩⟩

end Go.Proofs.Ytdiimonfmdbclaa

/-
  Functions that only look: memory that is read, whoever owns it.
-/
namespace Go.Eng
open Go.RowKit
set_option linter.unusedVariables false
set_option linter.unusedSimpArgs false
set_option linter.unnecessarySimpa false

/-- These cells can be read. -/
def RdAt (b : Nat) (cs : List PV) (μ : Mem) : Prop := ∃ T, μ b = some (.cells T cs) ∨ μ b = some (.ro T cs)
theorem RdAt.rd {b : Nat} {cs : List PV} {μ : Mem} (h : RdAt b cs μ) {o n : Nat} (hl : o + n ≤ cs.length) : rdM μ b o n = some ((cs.drop o).take n) := by
  obtain ⟨T, h | h⟩ := h
  · exact rdM_at h hl
  · exact rdM_ro h hl
theorem RdAt.row {b sz s : Nat} {R : List (List PV)} {rest r : List PV} {μ : Mem} (h : RdAt b (R.flatten ++ rest) μ) (hR : ∀ r ∈ R, r.length = sz) (hs : R[s]? = some r) : rdM μ b (s * sz) sz = some r := by
  obtain ⟨T, h | h⟩ := h
  · exact rdRow hR h hs
  · have := rdRow (μ := M0.set b (some (.cells T (R.flatten ++ rest)))) hR (Mem.set_same _ _ _) hs
    simp only [rdM, Mem.set_same] at this
    simp only [rdM, h]; exact this
theorem RdAt.some_ {b : Nat} {cs : List PV} {μ : Mem} (h : RdAt b cs μ) : μ b ≠ none := by
  obtain ⟨T, h | h⟩ := h <;> rw [h] <;> simp

/-- Nothing that was there turned. -/
def Grows (μ μ' : Mem) : Prop := ∀ b, μ b ≠ none → μ' b = μ b
theorem Grows.refl (μ : Mem) : Grows μ μ := fun _ _ => rfl
theorem Grows.trans {a b c : Mem} (h : Grows a b) (k : Grows b c) : Grows a c := fun x hx => by
  have e := h x hx
  rw [k x (by rw [e]; exact hx), e]
theorem Grows.new {μ : Mem} {b : Nat} (hb : μ b = none) (o : Option Ob) : Grows μ (μ.set b o) := fun x hx => Mem.set_ne _ _ (by rintro rfl; exact hx hb)
theorem Grows.upd {μ u : Mem} {b : Nat} (h : Grows μ u) (hb : μ b = none) (o : Option Ob) : Grows μ (u.set b o) := fun x hx => by
  rw [Mem.set_ne _ _ (by rintro rfl; exact hx hb)]; exact h x hx
theorem RdAt.grows {b : Nat} {cs : List PV} {μ μ' : Mem} (h : RdAt b cs μ) (hg : Grows μ μ') : RdAt b cs μ' := by
  obtain ⟨T, h⟩ := h
  refine ⟨T, ?_⟩
  rw [hg b (by rcases h with h | h <;> rw [h] <;> simp)]; exact h

/-- The same memory, not to be written. -/
def roM (μ : Mem) : Mem := fun b => match μ b with | some (.cells T cs) => some (.ro T cs) | some (.ro T cs) => some (.ro T cs) | _ => none
theorem roM_rd {μ : Mem} {b : Nat} {T : TypeId} {cs : List PV} (h : μ b = some (.cells T cs)) : RdAt b cs (roM μ) := ⟨T, .inr (by simp [roM, h])⟩

/-- What only looks may come up at any time. -/
theorem CallQ.ofRo {P : Program} {g : FuncId} {args : List PV} {μ : Mem} {K : PV → Mem → Prop} {Kq : PV → Prop} (h : CallP P g args (roM μ) fun p μ' => Grows (roM μ) μ' ∧ Kq p) (hk : ∀ p, Kq p → K p M0) : CallQ P g args μ K := fun Z u vs hg hw ha => by
  have hro : ∀ b o, roM μ b = some o → (o.rw = true → False) ∧ ObOk Z u b o ∧ Z b = none := fun b o ho => by
    unfold roM at ho
    split at ho
    · rename_i T cs hb
      cases ho
      obtain ⟨_, hz, hA⟩ := hg.mem b _ hb
      exact ⟨fun h => (by cases h), ⟨hz, hA⟩, hz⟩
    · rename_i T cs hb
      cases ho
      obtain ⟨_, hz, hA⟩ := hg.mem b _ hb
      exact ⟨fun h => (by cases h), ⟨hz, hA⟩, hz⟩
    · cases ho
  obtain ⟨hc, hcall⟩ := h Z ⟨u.toWorld, fun _ => False⟩ vs ⟨hg.zok, fun b o e => ⟨fun hr => (hro b o e).1 hr, by
    have := (hro b o e).2.1
    cases o with
    | cells T cs => exact this
    | tip n m => exact this
    | obj o F S => exact this
    | ro T cs => exact this⟩⟩ (fun _ h => h.elim) ha
  refine ⟨hc, hcall.mono' fun v lo w' _ _ hp => ?_⟩
  obtain ⟨Z', μ', p, e, g', hr, hgr, hK⟩ := hp
  refine ⟨Z', M0, p, ⟨e.le, fun b C hC _ => e.zs b C hC ?_, fun b hb => ?_, fun b hb => absurd rfl hb, e.lt⟩, ⟨g'.zok, fun b o h => by cases h⟩, hr, hk p hK⟩
  · cases hx : roM μ b with
    | none => rfl
    | some o => rw [(hro b o hx).2.2] at hC; cases hC
  · rcases e.zn b hb with h1 | h1 | h1
    · exact .inl h1
    · exfalso
      have hm := hgr b h1
      cases hx : roM μ b with
      | none => exact h1 hx
      | some o =>
        rw [hx] at hm
        have h2 := (g'.mem b o hm).2
        have h3 := (hro b o hx)
        unfold roM at hx
        split at hx
        · cases hx; exact hb h2.1
        · cases hx; exact hb h2.1
        · cases hx
    · exact .inr (.inr h1)

/-- A set that can be read. -/
def SetRd (sz b : Nat) (rows : List (List PV)) (μ : Mem) : Prop :=
  (∃ fl s, RdAt b [.list sz fl rows, pB s] μ) ∨ (rows = [] ∧ RdAt b [.raw (.slice none 0 0), pB false] μ) ∨
  ∃ b' c rest, RdAt b [.raw (.slice (some ⟨b', 0, none⟩) rows.length c), pB false] μ ∧ RdAt b' (rows.flatten ++ rest) μ
theorem SetRd.grows {sz b : Nat} {rows : List (List PV)} {μ μ' : Mem} (h : SetRd sz b rows μ) (hg : Grows μ μ') : SetRd sz b rows μ' := by
  rcases h with ⟨fl, s, h⟩ | ⟨e, h⟩ | ⟨b', c, rest, h1, h2⟩
  · exact .inl ⟨fl, s, h.grows hg⟩
  · exact .inr (.inl ⟨e, h.grows hg⟩)
  · exact .inr (.inr ⟨b', c, rest, h1.grows hg, h2.grows hg⟩)
theorem SetIn.ro {Ts e : TypeId} {sz : Nat} {μ : Mem} {b : Nat} {rows : List (List PV)} {F : List Nat} (h : SetIn Ts e sz μ b rows F) : SetRd sz b rows (roM μ) := by
  rcases h.lies with ⟨_, hm⟩ | ⟨_, rfl, hm⟩ | ⟨_, rfl, hm⟩ | ⟨b', c, rest, _, _, h1, h2, _⟩
  · exact .inl ⟨_, _, roM_rd hm⟩
  · exact .inl ⟨_, _, roM_rd hm⟩
  · exact .inr (.inl ⟨rfl, roM_rd hm⟩)
  · exact .inr (.inr ⟨b', c, rest, roM_rd h1, roM_rd h2⟩)
theorem SetAt.ro {Ts e : TypeId} {sz b : Nat} {rows : List (List PV)} {L : List Asn} {μ : Mem} (hO : Ow (SetAt Ts e sz b rows :: L) μ) : SetRd sz b rows (roM μ) := by
  obtain ⟨F, h, _⟩ := SetAt.split hO
  exact h.ro

/-! ### rows of a slice of one's own -/
theorem take_part {X : List PV} {sz o m : Nat} (h : o + m ≤ sz) : (X.drop o).take m = ((X.take sz).drop o).take m := by
  rw [List.drop_take, List.take_take, Nat.min_eq_left (by omega)]

theorem rdPart {cs r : List PV} {A sz o m : Nat} (hr : (cs.drop A).take sz = r) (h : o + m ≤ sz) : (cs.drop (A + o)).take m = (r.drop o).take m := by
  rw [← hr, ← take_part h, List.drop_drop]

theorem wrPart {cs r vs : List PV} {A sz o : Nat} (hA : A + sz ≤ cs.length) (hr : (cs.drop A).take sz = r) (h : o + vs.length ≤ sz) : wrL cs (A + o) vs = wrL cs A (wrL r o vs) := by
  have hrl : r.length = sz := by rw [← hr, List.length_take, List.length_drop]; omega
  unfold wrL
  have e1 : cs.take (A + o) = cs.take A ++ r.take o := by
    rw [List.take_add, ← hr, List.take_take, Nat.min_eq_left (by omega)]
  have e2 : cs.drop (A + o + vs.length) = r.drop (o + vs.length) ++ cs.drop (A + sz) := by
    have : cs.drop (A + o + vs.length) = (cs.drop A).drop (o + vs.length) := by rw [List.drop_drop]; congr 1; omega
    rw [this]
    have h2 : cs.drop A = r ++ cs.drop (A + sz) := by
      rw [← hr, ← List.drop_drop, List.take_append_drop]
    conv => lhs; rw [h2]
    rw [List.drop_append_of_le_length (by omega)]
  have e3 : (r.take o ++ vs ++ r.drop (o + vs.length)).length = sz := by
    simp only [List.length_append, List.length_take, List.length_drop]; omega
  rw [e1, e2, e3]
  simp

theorem Vec.at_ {e : TypeId} {sz n c : Nat} {a : Option Addr} {rows : List (List PV)} {L : List Asn} {μ : Mem} (i : Nat) (hO : Ow L μ) (hi : L[i]? = some (Vec e sz (.raw (.slice a n c)) rows)) (hr : ∀ r ∈ rows, r.length = sz) {j : Nat} (hj : j < rows.length) :
    ∃ b, a = some ⟨b, 0, none⟩ ∧ (∀ o m, o + m ≤ sz → rdM μ b (0 + j * sz + o) m = some ((rows[j].drop o).take m)) ∧
      ∀ (o : Nat) (vs : List PV) (K : Mem → Prop), o + vs.length ≤ sz → (∀ μ', Ow (L.set i (Vec e sz (.raw (.slice a n c)) (rows.set j (wrL rows[j] o vs)))) μ' → K μ') → stM b (0 + j * sz + o) vs μ K := by
  have hO1 := Ow.at i hi hO
  obtain ⟨F, hv, μ1, μ2, hs, e0, hF, hL⟩ := Vec.split hO1
  rcases hv with ⟨_, rfl, _⟩ | ⟨b, c', rest, hp, rfl, hm, hlen, hc⟩
  · simp at hj
  · simp only [PV.raw.injEq, Value.slice.injEq] at hp
    obtain ⟨rfl, rfl, rfl⟩ := hp
    have hfl : rows.flatten.length = rows.length * sz := flatLen hr
    have hle : j * sz + sz ≤ rows.length * sz := by rw [← Nat.succ_mul]; exact Nat.mul_le_mul_right _ hj
    have hrow : ((rows.flatten ++ rest).drop (j * sz)).take sz = rows[j] := by
      have := rdRow (s := j) hr hm (List.getElem?_eq_getElem hj)
      simp only [rdM, hm] at this
      split at this
      · simpa using this
      · cases this
    refine ⟨b, rfl, fun o m h => ?_, fun o vs K h hK => ?_⟩
    · have : rdM μ b (0 + j * sz + o) m = some (((rows.flatten ++ rest).drop (0 + j * sz + o)).take m) := by
        simp only [rdM, hm]
        rw [if_pos (by rw [List.length_append, hfl]; omega)]
      rw [this, Nat.zero_add, rdPart hrow h]
    · have hrl : rows[j].length = sz := hr _ (List.getElem_mem hj)
      have hwl : (wrL rows[j] o vs).length = sz := by
        unfold wrL
        simp only [List.length_append, List.length_take, List.length_drop]; omega
      refine ⟨_, _, hm, by rw [List.length_append, hfl]; omega, hK _ (Ow.back i (lt_of_get hi) ?_)⟩
      rw [Nat.zero_add, wrPart (by rw [List.length_append, hfl]; omega) hrow h, wrRow hr hj hwl]
      refine Ow.mv (A := fun _ => True) (F := [b]) (F' := [b]) ⟨μ1, μ2, hs, e0, hF, hL⟩ ((Mv.set (.inl (by simp))).sub (by simp)) fun ν hν => ⟨[b], .inr ⟨b, c, rest, by simp, rfl, ?_, by simpa using hlen, by simpa using hc⟩⟩
      rw [hν b (by simp), Mem.set_same]

theorem Vec.len {e : TypeId} {sz n c : Nat} {a : Option Addr} {rows : List (List PV)} {L : List Asn} {μ : Mem} (i : Nat) (hO : Ow L μ) (hi : L[i]? = some (Vec e sz (.raw (.slice a n c)) rows)) : n = rows.length := by
  obtain ⟨F, hv, _⟩ := Vec.split (Ow.at i hi hO)
  rcases hv with ⟨hp, rfl, _⟩ | ⟨b, c', rest, hp, _⟩
  · simp only [PV.raw.injEq, Value.slice.injEq] at hp; simp [hp.2.1]
  · simp only [PV.raw.injEq, Value.slice.injEq] at hp; exact hp.2.1

end Go.Eng

/-
  Sequences that hand out memory of one's own.
-/
namespace Go.Eng
open Go.RowKit
set_option linter.unusedVariables false
set_option linter.unusedSimpArgs false
set_option linter.unnecessarySimpa false

/-- Calling f with a function y calls y with values of which these hold (with memory that goes to y), one behind the other, till it says no. -/
def SeqW (P : Program) (f : PV) (items : List (List PV → Asn)) (A A' : Asn) : Prop :=
  (∃ g a b, f = .fn (.func g) a b) ∧ ∀ (fy : Fn) (ya yb : List PV) (I : Nat → Asn) (S : Asn) (C : Asn) (μ : Mem), fnOk fy True → Ow [A, C] μ → (∀ μ', Ow [A', C] μ' → Ow [I 0] μ') →
    (∀ (k : Nat) (h : k < items.length) (vs : List PV) (μ : Mem), Ow [items[k] vs, I k] μ → CallVP P (.fn fy ya yb) vs μ fun v μ' => (v = pB true ∧ Ow [I (k + 1)] μ') ∨ (v = pB false ∧ Ow [S] μ')) →
    CallVP P f [.fn fy ya yb] μ fun _ μ' => Ow [I items.length] μ' ∨ Ow [S] μ'

theorem SeqW.mk {P : Program} {g : FuncId} {a b : List PV} {items : List (List PV → Asn)} {A A' : Asn}
    (h : ∀ (fy : Fn) (ya yb : List PV) (I : Nat → Asn) (S : Asn) (C : Asn) (μ : Mem), fnOk fy True → Ow [A, C] μ → (∀ μ', Ow [A', C] μ' → Ow [I 0] μ') →
      (∀ (k : Nat) (h : k < items.length) (vs : List PV) (μ : Mem), Ow [items[k] vs, I k] μ → CallVP P (.fn fy ya yb) vs μ fun v μ' => (v = pB true ∧ Ow [I (k + 1)] μ') ∨ (v = pB false ∧ Ow [S] μ')) →
      CallP P g (a ++ [.fn fy ya yb] ++ b) μ fun _ μ' => Ow [I items.length] μ' ∨ Ow [S] μ') : SeqW P (.fn (.func g) a b) items A A' :=
  ⟨⟨g, a, b, rfl⟩, fun fy ya yb I S C μ hy h0 h1 hstep => h fy ya yb I S C μ hy h0 h1 hstep⟩

theorem RangeP.ownW {P : Program} {f : PV} {items : List (List PV → Asn)} {A A' : Asn} {L : List Asn} {body : List PV → (Option Code → Mem → Prop) → Mem → Prop} {K : Option Code → Mem → Prop} {μ : Mem} (hs : SeqW P f items A A') (hO : Ow (A :: L) μ)
    (I : Nat → Asn) (S : Code → Asn) (hI : ∀ k, UpC (I k)) (hS : ∀ c, UpC (S c)) (h0 : ∀ μ', Ow (A' :: L) μ' → I 0 μ')
    (hstep : ∀ (k : Nat) (h : k < items.length) (vs : List PV) (μ : Mem) (R : Option Code → Mem → Prop), Ow [items[k] vs, I k] μ → (∀ μ', I (k + 1) μ' → R none μ') → (∀ c μ', S c μ' → R (some c) μ') → body vs R μ)
    (hend : ∀ μ, I items.length μ → K none μ) (hstop : ∀ c μ, S c μ → K (some c) μ) : RangeP P f body K μ := by
  obtain ⟨hf, hs⟩ := hs
  refine ⟨hf, fun l rec hl hy => ?_⟩
  have cut : ∀ {ν : Mem} {o : Ob} {M : List Asn}, Ow (Rc l o :: M) ν → ν l = some o ∧ Ow M (ν.set l none) := fun {ν o M} h => by
    obtain ⟨ν1, ν2, hsep, rfl, hR, hM⟩ := h
    refine ⟨Mem.or_left hR, hM.mono fun b o' hb => ?_⟩
    have hb1 : ν1 b = none := (hsep b).resolve_right (by rw [hb]; simp)
    have hne : b ≠ l := by
      rintro rfl
      have : ν1 b = _ := hR
      rw [this] at hb1; cases hb1
    rw [Mem.set_ne _ _ hne, Mem.or_right hb1]; exact hb
  have glue : ∀ {ν : Mem} {o : Ob}, ν l = some o → ν = (ν.set l none).set l (some o) := fun {ν o} h => by
    rw [Mem.set_set, Mem.set_self h]
  have lift : ∀ {ν μ3 : Mem} {o : Ob} {ν1 ν2 : Mem}, μ3 l = none → ν1 = μ3.set l (some o) → Mem.sep ν1 ν2 → ν = ν1.or ν2 → ν l = some o ∧ ∀ b o', μ3 b = some o' → (ν.set l none) b = some o' := fun {ν μ3 o ν1 ν2} h1 h2 hsep e => by
    subst h2 e
    refine ⟨Mem.or_left (Mem.set_same _ _ _), fun b o' hb => ?_⟩
    have hne : b ≠ l := by rintro rfl; rw [h1] at hb; cases hb
    rw [Mem.set_ne _ _ hne]
    exact Mem.or_left (by rw [Mem.set_ne _ _ hne]; exact hb)
  refine (hs (.yield l) [] [] (fun k ν => ∃ μ3, μ3 l = none ∧ ν = μ3.set l (some (rec none)) ∧ I k μ3) (fun ν => ∃ c μ3, μ3 l = none ∧ ν = μ3.set l (some (rec (some c))) ∧ S c μ3) (Ow (Rc l (rec none) :: L)) _ trivial ?_ (fun μ' hO' => Ow.one ?_) ?_).mono ?_
  · have h1 : Ow (Rc l (rec none) :: A :: L) (μ.set l (some (rec none))) := by
      refine ⟨M0.set l (some (rec none)), μ, fun x => ?_, ?_, Mem.set_same _ _ _, hO⟩
      · by_cases e : x = l
        · subst e; exact .inr hl
        · rw [Mem.set_ne _ _ e]; exact .inl rfl
      · funext x
        by_cases e : x = l
        · subst e; rw [Mem.set_same, Mem.or_left (Mem.set_same _ _ _)]
        · rw [Mem.set_ne _ _ e, Mem.or_right (by rw [Mem.set_ne _ _ e]; rfl)]
    refine h1.swap.tail fun ν hν => Ow.one hν
  · have h1 : Ow (A' :: (Rc l (rec none) :: L)) μ' := hO'.tail fun ν hν => hν.ones
    obtain ⟨h2, h3⟩ := cut h1.swap
    exact ⟨_, Mem.set_same _ _ _, glue h2, h0 _ h3⟩
  · rintro k hk vs ν ⟨ν1, ν2, hsep, e, hit, ν3, ν4, hsep2, e2, ⟨μ3, h1, h2, hIk⟩, _⟩
    obtain ⟨h4, h5⟩ := lift h1 h2 hsep2 e2
    have hn1 : ν1 l = none := (hsep l).resolve_right (by rw [h4]; simp)
    have hνl : ν l = some (rec none) := by rw [e, Mem.or_right hn1]; exact h4
    have hO' : Ow [items[k] vs, I k] (ν.set l none) := by
      refine ⟨ν1, ν2.set l none, fun x => ?_, ?_, hit, Ow.one (hI k _ _ h5 hIk)⟩
      · by_cases ex : x = l
        · subst ex; exact .inr (Mem.set_same _ _ _)
        · rw [Mem.set_ne _ _ ex]; exact hsep x
      · funext x
        by_cases ex : x = l
        · subst ex; rw [Mem.set_same, Mem.or_right hn1, Mem.set_same]
        · rw [Mem.set_ne _ _ ex, e]
          cases hx : ν1 x with
          | some o => rw [Mem.or_left hx, Mem.or_left hx]
          | none => rw [Mem.or_right hx, Mem.or_right hx, Mem.set_ne _ _ ex]
    rw [glue hνl]
    refine (hy vs (ν.set l none) (fun p μ' => match p with | none => I (k + 1) μ' | some c => S c μ') (Mem.set_same _ _ _) (hstep k hk vs _ _ hO' (fun μ' h => h) (fun c μ' h => h))).mono ?_
    rintro v μ2 ⟨p, μ4, rfl, h3, rfl, hR⟩
    cases p with
    | none => exact .inl ⟨rfl, Ow.one ⟨μ4, h3, rfl, hR⟩⟩
    | some c => exact .inr ⟨rfl, Ow.one ⟨c, μ4, h3, rfl, hR⟩⟩
  · rintro v ν (h | h)
    · obtain ⟨ν1, ν2, hsep, e, ⟨μ3, h1, h2, h3⟩, _⟩ := h
      obtain ⟨h4, h5⟩ := lift h1 h2 hsep e
      exact ⟨none, ν.set l none, Mem.set_same _ _ _, glue h4, hend _ (hI _ _ _ h5 h3)⟩
    · obtain ⟨ν1, ν2, hsep, e, ⟨c, μ3, h1, h2, h3⟩, _⟩ := h
      obtain ⟨h4, h5⟩ := lift h1 h2 hsep e
      exact ⟨some c, ν.set l none, Mem.set_same _ _ _, glue h4, hstop c _ (hS _ _ _ h5 h3)⟩

/-- A list, in a new slice of one's own. -/
theorem appR_mk {e : TypeId} {sz bytes : Nat} {f : Fl} {rows : List (List PV)} {L : List Asn} {μ : Mem} {K : Option Addr → Nat → Nat → Mem → Prop} (hO : Ow L μ) (hr : ∀ r ∈ rows, r.length = sz) (hc : allCell rows.flatten = true) (hb : rows.length * bytes ≤ 140737488355328) (h62 : rows.length < 4611686018427387904)
    (hk : ∀ a c μ', Ow (Vec e sz (.raw (.slice a rows.length c)) rows :: L) μ' → K a rows.length c μ') : appR sz bytes e none 0 0 (.list sz f rows) μ K := by
  have okr : okSz sz sz rows = true := by simp [okSz, Nat.beq_refl]
  unfold appR newC
  simp only [okr, cond_true, Nat.zero_add]
  refine ⟨hb, h62, Nat.le_refl _, ?_⟩
  cases rows with
  | nil => exact .inl ⟨rfl, fun h => absurd rfl h, hk none 0 μ (Vec.nil e sz hO)⟩
  | cons r rs =>
    refine .inr ⟨by simp, hc, fun h => by simp at h, fun _ => ⟨[], .inl ⟨trivial, rfl⟩, fun b' c' hn hc' => ?_⟩⟩
    rw [List.nil_append]
    refine hk _ c' _ ?_
    have hfl : (r :: rs).flatten.length = (r :: rs).length * sz := flatLen hr
    refine (hO.new e _ hn).imp fun ν hν => ⟨[b'], .inr ⟨b', c', _, rfl, rfl, hν, ?_, hc'⟩⟩
    rw [List.length_replicate, ← Nat.add_mul]; congr 1; omega

theorem Vec.view {e : TypeId} {sz : Nat} {p : PV} {rows : List (List PV)} {L : List Asn} {μ : Mem} (i : Nat) (hO : Ow L μ) (hi : L[i]? = some (Vec e sz p rows)) (hr : ∀ r ∈ rows, r.length = sz) (hc : allCell rows.flatten = true) : BorV μ p (.list sz .sh rows) := by
  obtain ⟨F, h, _⟩ := Vec.split (Ow.at i hi hO)
  exact h.view hr hc

/-- A block of one's own that is frozen for good: a captured variable. -/
theorem frzPtr {Z : Fz} {u : UW} {μ : Mem} {b : Nat} {T : TypeId} {cs : List PV} {r : Value} (hg : Good Z u μ) (hb : μ b = some (.cells T cs)) (hc : allCell cs = true) (hr : Rep Z (pP b 0) r) : Rep (Zbor Z u fun x => if x ∈ [b] then μ x else none) (.fptr cs 0) r := by
  have gs : Good Z u (fun x => if x ∈ [b] then μ x else none) := hg.sub fun x o hx => by
    by_cases hm : x ∈ [b]
    · simpa [hm] using hx
    · simp [hm] at hx
  obtain ⟨A, hz, hm⟩ := Zbor_at (cs := cs) gs (b := b) (by simp [hb, cellsOf])
  rw [hr.ofRaw.1]
  have hm2 := (hm.mono (Zbor_le gs)).c hc
  refine .fptr cs 0 b 0 A.toList (fun j => (A.toList[j]?).getD undef) hz (fun j hj => ?_) (fun j p hp => ?_) (fun j p hp => ?_)
  · have hlt : j < A.toList.length := by rw [hm.1]; exact hj
    rw [Nat.zero_add, List.getElem?_eq_getElem hlt]; rfl
  · exact List.all_eq_true.1 hc p (List.mem_of_getElem? hp)
  · have hlt : j < A.toList.length := by rw [hm.1]; exact (List.getElem?_eq_some_iff.1 hp).1
    have := hm2.2 j p A.toList[j] hp (List.getElem?_eq_getElem hlt)
    simp only [List.getElem?_eq_getElem hlt, Option.getD_some]; exact this.2

theorem Vec.cellsAt {e : TypeId} {sz n c : Nat} {a : Option Addr} {rows : List (List PV)} {L : List Asn} {μ : Mem} (i : Nat) (hO : Ow L μ) (hi : L[i]? = some (Vec e sz (.raw (.slice a n c)) rows)) (h0 : rows ≠ []) : ∃ b rest, a = some ⟨b, 0, none⟩ ∧ n = rows.length ∧ μ b = some (.cells e (rows.flatten ++ rest)) ∧ n ≤ c := by
  obtain ⟨F, hv, _⟩ := Vec.split (Ow.at i hi hO)
  rcases hv with ⟨_, rfl, _⟩ | ⟨b, c', rest, hp, _, hm, _, hc⟩
  · exact absurd rfl h0
  · simp only [PV.raw.injEq, Value.slice.injEq] at hp
    obtain ⟨rfl, rfl, rfl⟩ := hp
    exact ⟨b, rest, rfl, rfl, hm, hc⟩

/-- A part of a slice of one's own, as it reads. -/
theorem Vec.part {e : TypeId} {sz n c : Nat} {a : Option Addr} {rows : List (List PV)} {L : List Asn} {μ : Mem} (i : Nat) (hO : Ow L μ) (hi : L[i]? = some (Vec e sz (.raw (.slice a n c)) rows)) (hr : ∀ r ∈ rows, r.length = sz) (hc : allCell rows.flatten = true) (lo : Nat) (hlo : lo < rows.length) :
    SlM μ (slA a lo c sz) (n - lo) (c - lo) sz (rows.drop lo) := by
  obtain ⟨b, rest, rfl, rfl, hm, hle⟩ := Vec.cellsAt i hO hi (by intro h; rw [h] at hlo; simp at hlo)
  have hfl : rows.flatten.length = rows.length * sz := flatLen hr
  have hfd : (rows.drop lo).flatten.length = (rows.length - lo) * sz := by rw [flatLen (sz := sz) fun r h => hr r (List.mem_of_mem_drop h), List.length_drop]
  have hsl : slA (some ⟨b, 0, none⟩) lo c sz = some ⟨b, 0 + lo * sz, none⟩ := by unfold slA; rw [if_neg (by omega)]; rfl
  refine ⟨by rw [List.length_drop], by omega, .inr fun x hx => ?_, fun r h => hr r (List.mem_of_mem_drop h), ?_, fun _ => ⟨b, 0 + lo * sz, hsl, ?_⟩⟩
  · rw [hsl] at hx; cases hx; rfl
  · rw [← flat_drop hr (Nat.le_of_lt hlo)]
    refine List.all_eq_true.2 fun x hx => List.all_eq_true.1 hc x (List.mem_of_mem_drop hx)
  · have h1 : lo * sz + (rows.length - lo) * sz = rows.length * sz := by rw [← Nat.add_mul]; congr 1; omega
    simp only [rdM, hm]
    rw [if_pos (by rw [List.length_append, hfl]; omega), Nat.zero_add, List.drop_append_of_le_length (by rw [hfl]; omega), List.take_append_of_le_length (by rw [List.length_drop, hfl]; omega), flat_drop hr (Nat.le_of_lt hlo), List.take_of_length_le (by rw [hfd]; omega)]

/-- One row in a new block, as a slice of one's own. -/
theorem Ow.vec1 {L : List Asn} {μ : Mem} {b : Nat} {e : TypeId} {row : List PV} {sz : Nat} (h : Ow (Pt b e row :: L) μ) (hl : row.length = sz) : Ow (Vec e sz (.raw (.slice (some ⟨b, 0, none⟩) 1 1)) [row] :: L) μ :=
  h.imp fun ν hν => ⟨[b], .inr ⟨b, 1, [], rfl, rfl, by rw [show ν b = _ from hν]; simp, by simp, Nat.le_refl _⟩⟩

/-! ### what is one's own, seen as it reads -/
def Mem.inc (ν μ : Mem) : Prop := ∀ b o, ν b = some o → μ b = some o
theorem Mem.inc.refl (μ : Mem) : Mem.inc μ μ := fun _ _ h => h
theorem rdM_inc {ν μ : Mem} (h : Mem.inc ν μ) {b o n : Nat} {cs : List PV} (hr : rdM ν b o n = some cs) : rdM μ b o n = some cs := by
  unfold rdM at hr ⊢
  cases hb : ν b with
  | none => rw [hb] at hr; cases hr
  | some ob => rw [hb] at hr; rw [h b ob hb]; exact hr
theorem BorV.inc {ν μ : Mem} (h : Mem.inc ν μ) {c d : PV} (hb : BorV ν c d) : BorV μ c d := by
  induction hb with
  | same c => exact .same c
  | wk c => exact .wk c
  | nil sz rows => exact .nil sz rows
  | lst0 a k sz spot => exact .lst0 a k sz spot
  | lst b o k sz rows cs cap each cell read _ ih => exact .lst b o k sz rows cs cap each cell (rdM_inc h read) ih
  | agg hl cell _ ih => exact .agg hl cell ih
  | tup hl ok _ ih => exact .tup hl ok ih
theorem BorL.inc {ν μ : Mem} (h : Mem.inc ν μ) {cs ds : List PV} (hb : BorL ν cs ds) : BorL μ cs ds := ⟨hb.1, fun i c d h1 h2 => (hb.2 i c d h1 h2).inc h⟩
theorem BorL.append {μ : Mem} {cs ds cs' ds' : List PV} (h : BorL μ cs ds) (k : BorL μ cs' ds') : BorL μ (cs ++ cs') (ds ++ ds') := by
  refine ⟨by rw [List.length_append, List.length_append, h.1, k.1], fun i c d h1 h2 => ?_⟩
  by_cases hi : i < cs.length
  · rw [List.getElem?_append_left hi] at h1
    rw [List.getElem?_append_left (by rw [← h.1]; exact hi)] at h2
    exact h.2 i c d h1 h2
  · rw [List.getElem?_append_right (by omega)] at h1
    rw [List.getElem?_append_right (by rw [← h.1]; omega), ← h.1] at h2
    exact k.2 _ c d h1 h2
theorem BorL.flat {T : Type} {μ : Mem} {f g : T → List PV} : ∀ {X : List T}, (∀ x ∈ X, BorL μ (f x) (g x)) → BorL μ (X.map f).flatten (X.map g).flatten
  | [], _ => BorL.nil μ
  | x :: X, h => by
    simp only [List.map_cons, List.flatten_cons]
    exact (h x (by simp)).append (BorL.flat fun y hy => h y (by simp [hy]))

theorem Ow.mem : ∀ {L : List Asn} {μ : Mem}, Ow L μ → ∀ A ∈ L, ∃ ν, A ν ∧ Mem.inc ν μ
  | [], _, _, A, hA => by cases hA
  | B :: L, μ, h, A, hA => by
    obtain ⟨μ1, μ2, hs, rfl, hB, hL⟩ := h
    rcases List.mem_cons.1 hA with rfl | hA
    · exact ⟨μ1, hB, fun b o hb => Mem.or_left hb⟩
    · obtain ⟨ν, h1, h2⟩ := Ow.mem hL A hA
      refine ⟨ν, h1, fun b o hb => ?_⟩
      have hb2 := h2 b o hb
      rw [Mem.or_right ((hs b).resolve_right (by rw [hb2]; simp))]; exact hb2

theorem Vec.raw {e : TypeId} {sz : Nat} {p : PV} {rows : List (List PV)} {μ : Mem} (h : Vec e sz p rows μ) : ∃ a c, p = .raw (.slice a rows.length c) := by
  obtain ⟨F, h⟩ := h
  rcases h with ⟨rfl, rfl, _⟩ | ⟨b, c, rest, rfl, _⟩
  · exact ⟨none, 0, rfl⟩
  · exact ⟨_, c, rfl⟩
theorem Vec.rawO {e : TypeId} {sz : Nat} {p : PV} {rows : List (List PV)} {L : List Asn} {μ : Mem} (h : Ow (Vec e sz p rows :: L) μ) : ∃ a c, p = .raw (.slice a rows.length c) := h.fact fun _ hv => Vec.raw hv

/-- A slice of one's own whose cells are one's own again: as a list. -/
theorem Vec.deep {T : Type} {e : TypeId} {sz : Nat} {p : PV} {f g : T → List PV} {X : List T} {ν μ : Mem} (hv : Vec e sz p (X.map f) ν) (hi : Mem.inc ν μ) (hf : ∀ x ∈ X, (f x).length = sz) (hg : ∀ x ∈ X, (g x).length = sz) (hc : ∀ x ∈ X, allCell (g x) = true) (h : ∀ x ∈ X, BorL μ (f x) (g x)) : BorV μ p (.list sz .sh (X.map g)) := by
  obtain ⟨F, hv⟩ := hv
  have hfl : ∀ r ∈ X.map f, r.length = sz := fun r hr => by obtain ⟨x, hx, rfl⟩ := List.mem_map.1 hr; exact hf x hx
  have hgl : ∀ r ∈ X.map g, r.length = sz := fun r hr => by obtain ⟨x, hx, rfl⟩ := List.mem_map.1 hr; exact hg x hx
  rcases hv with ⟨rfl, h0, _⟩ | ⟨b, c, rest, rfl, _, hm, hlen, hle⟩
  · have : X = [] := by cases X with | nil => rfl | cons x X => simp at h0
    subst this
    exact .lst0 none 0 sz (.inl rfl)
  · have hfl2 : (X.map f).flatten.length = (X.map f).length * sz := flatLen hfl
    have hln : (X.map f).length = (X.map g).length := by simp
    rw [hln]
    refine .lst b 0 c sz (X.map g) (X.map f).flatten (by rw [← hln]; exact hle) hgl ?_ ?_ fun i c d h1 h2 => (BorL.flat h).2 i c d h1 h2
    · refine List.all_eq_true.2 fun x hx => ?_
      obtain ⟨r, hr, hx⟩ := List.mem_flatten.1 hx
      obtain ⟨y, hy, rfl⟩ := List.mem_map.1 hr
      exact List.all_eq_true.1 (hc y hy) x hx
    · have hmm := hi b _ hm
      rw [← hln]
      simp only [rdM, hmm]
      rw [if_pos (by simp [hfl2]), List.drop_zero, ← hfl2, List.take_left']
      rfl

end Go.Eng

/-
  Conditions of one's own: lists within lists, each of them one's own.
-/
namespace Go.Proofs.Ytdiimonfmdbclaa
open Go.Eng Go.RowKit
set_option linter.unusedVariables false
set_option linter.unusedSimpArgs false
set_option linter.unnecessarySimpa false

abbrev tySymO : TypeId := 49
abbrev tyTestO : TypeId := 64
abbrev tyCondO : TypeId := 25

theorem symLen (l : List Sym) : ∀ r ∈ l.map Sym.pv, r.length = 3 := rowsLenK (pv := Sym.pv) (fun _ => rfl) l
theorem symCell (l : List Sym) : allCell (l.map Sym.pv).flatten = true := rowsCellK (pv := Sym.pv) (fun _ => rfl) l

/-- A list of symbols: anyone's (d is false), or one's own. -/
def SymsT (d : Bool) (l : List Sym) (q : PV) : Asn := fun μ => bif d then Vec tySymO 3 q (l.map Sym.pv) μ else q = .list 3 .sh (l.map Sym.pv)
@[reducible] def tRow (x : Test × PV) : List PV := [pI x.1.rel, pS x.1.var, pI x.1.sym.k, pS x.1.sym.t, pI x.1.sym.n, x.2]
def tOwn (d : Bool) (x : Test × PV) : Asn := SymsT d x.1.list x.2
def TestsT (d : Bool) (l : List Test) (p : PV) : Asn := fun μ => ∃ X : List (Test × PV), X.map (·.1) = l ∧ (∀ x ∈ X, x.2.cell = true) ∧ Ow (Vec tyTestO 6 p (X.map tRow) :: X.map (tOwn d)) μ
@[reducible] def cRow (x : Cond × PV × PV × PV) : List PV := [pI x.1.kind, pB x.1.goal, pS x.1.id, x.2.1, x.2.2.1, pB x.1.acc, x.2.2.2]
def CondsT (d : Bool) : Nat → List Cond → PV → Asn
  | 0, l, p => fun μ => l = [] ∧ Vec tyCondO 7 p [] μ
  | n + 1, l, p => fun μ => ∃ X : List (Cond × PV × PV × PV), X.map (·.1) = l ∧ (∀ x ∈ X, x.2.1.cell = true ∧ x.2.2.1.cell = true ∧ x.2.2.2.cell = true) ∧
      Ow (Vec tyCondO 7 p (X.map cRow) :: X.map fun x => Ow [TestsT d x.1.attr x.2.1, TestsT d x.1.value x.2.2.1, CondsT d n x.1.conds x.2.2.2]) μ
def kOwn (d : Bool) (n : Nat) (x : Cond × PV × PV × PV) : Asn := Ow [TestsT d x.1.attr x.2.1, TestsT d x.1.value x.2.2.1, CondsT d n x.1.conds x.2.2.2]

theorem tRowLen (X : List (Test × PV)) : ∀ r ∈ X.map tRow, r.length = 6 := fun r hr => by obtain ⟨x, _, rfl⟩ := List.mem_map.1 hr; rfl
theorem cRowLen (X : List (Cond × PV × PV × PV)) : ∀ r ∈ X.map cRow, r.length = 7 := fun r hr => by obtain ⟨x, _, rfl⟩ := List.mem_map.1 hr; rfl

/-! ### as they read -/
theorem SymsT.view {d : Bool} {l : List Sym} {q : PV} {ν μ : Mem} (h : SymsT d l q ν) (hi : Mem.inc ν μ) : BorV μ q (.list 3 .sh (l.map Sym.pv)) := by
  cases d with
  | false => rw [show q = _ from h]; exact .same _
  | true =>
    obtain ⟨F, hv⟩ : Vec tySymO 3 q (l.map Sym.pv) ν := h
    exact (hv.view (symLen l) (symCell l)).inc hi

theorem TestsT.view {d : Bool} {l : List Test} {p : PV} {ν μ : Mem} (h : TestsT d l p ν) (hi : Mem.inc ν μ) : BorV μ p (.list 6 .sh (l.map Test.pv)) := by
  obtain ⟨X, rfl, _, hO⟩ := h
  obtain ⟨ν1, hv, hi1⟩ := hO.mem _ (List.mem_cons_self ..)
  rw [List.map_map]
  refine Vec.deep (f := tRow) (g := Test.pv ∘ Prod.fst) (X := X) hv (fun b o hb => hi b o (hi1 b o hb)) (fun x _ => rfl) (fun x _ => rfl) (fun x _ => rfl) fun x hx => ?_
  obtain ⟨ν2, hs, hi2⟩ := hO.mem (tOwn d x) (List.mem_cons_of_mem _ (List.mem_map.2 ⟨x, hx, rfl⟩))
  exact BorL.cons (.same _) (BorL.cons (.same _) (BorL.cons (.same _) (BorL.cons (.same _) (BorL.cons (.same _) (BorL.cons (SymsT.view hs fun b o hb => hi b o (hi2 b o hb)) (BorL.nil _))))))

theorem CondsT.view {d : Bool} : ∀ {n : Nat} {l : List Cond} {p : PV} {ν μ : Mem}, CondsT d n l p ν → Mem.inc ν μ → BorV μ p (.list 7 .sh (l.map Cond.pv))
  | 0, l, p, ν, μ, h, hi => by
    obtain ⟨rfl, F, hv⟩ := h
    exact (hv.view (by simp) rfl).inc hi
  | n + 1, l, p, ν, μ, h, hi => by
    obtain ⟨X, rfl, _, hO⟩ := h
    obtain ⟨ν1, hv, hi1⟩ := hO.mem _ (List.mem_cons_self ..)
    rw [List.map_map]
    refine Vec.deep (f := cRow) (g := Cond.pv ∘ Prod.fst) (X := X) hv (fun b o hb => hi b o (hi1 b o hb)) (fun x _ => rfl) (fun x _ => by show (Cond.pv x.1).length = 7; rw [Cond.pv_eq]; rfl) (fun x _ => by show allCell (Cond.pv x.1) = true; rw [Cond.pv_eq]; rfl) fun x hx => ?_
    obtain ⟨ν2, hs, hi2⟩ := hO.mem (kOwn d n x) (List.mem_cons_of_mem _ (List.mem_map.2 ⟨x, hx, rfl⟩))
    have hs : Ow [TestsT d x.1.attr x.2.1, TestsT d x.1.value x.2.2.1, CondsT d n x.1.conds x.2.2.2] ν2 := hs
    have hin : ∀ {κ}, Mem.inc κ ν2 → Mem.inc κ μ := fun hk b o hb => hi b o (hi2 b o (hk b o hb))
    obtain ⟨κ1, a1, b1⟩ := hs.mem _ (List.mem_cons_self ..)
    obtain ⟨κ2, a2, b2⟩ := hs.mem _ (List.mem_cons_of_mem _ (List.mem_cons_self ..))
    obtain ⟨κ3, a3, b3⟩ := hs.mem _ (List.mem_cons_of_mem _ (List.mem_cons_of_mem _ (List.mem_cons_self ..)))
    show BorL μ (cRow x) (Cond.pv x.1)
    rw [Cond.pv_eq]
    exact BorL.cons (.same _) (BorL.cons (.same _) (BorL.cons (.same _) (BorL.cons (TestsT.view a1 (hin b1)) (BorL.cons (TestsT.view a2 (hin b2)) (BorL.cons (.same _) (BorL.cons (CondsT.view a3 (hin b3)) (BorL.nil _)))))))

theorem TestsT.raw {d : Bool} {l : List Test} {p : PV} {μ : Mem} (h : TestsT d l p μ) : ∃ a c, p = .raw (.slice a l.length c) := by
  obtain ⟨X, rfl, _, hO⟩ := h
  obtain ⟨ν, hv, _⟩ := hO.mem _ (List.mem_cons_self ..)
  obtain ⟨a, c, h⟩ := hv.raw
  exact ⟨a, c, by simpa using h⟩
theorem CondsT.raw {d : Bool} {n : Nat} {l : List Cond} {p : PV} {μ : Mem} (h : CondsT d n l p μ) : ∃ a c, p = .raw (.slice a l.length c) := by
  cases n with
  | zero =>
    obtain ⟨rfl, hv⟩ := h
    exact Vec.raw hv
  | succ n =>
    obtain ⟨X, rfl, _, hO⟩ := h
    obtain ⟨ν, hv, _⟩ := hO.mem _ (List.mem_cons_self ..)
    obtain ⟨a, c, h⟩ := hv.raw
    exact ⟨a, c, by simpa using h⟩

/-! ### opened and shut -/
theorem TestsT.open_ {d : Bool} {l : List Test} {p : PV} {L : List Asn} {μ : Mem} (h : Ow (TestsT d l p :: L) μ) : ∃ X : List (Test × PV), X.map (·.1) = l ∧ (∀ x ∈ X, x.2.cell = true) ∧ Ow (Vec tyTestO 6 p (X.map tRow) :: (X.map (tOwn d) ++ L)) μ := by
  obtain ⟨X, h⟩ := Ow.ex h
  obtain ⟨h1, h⟩ := Ow.and h
  obtain ⟨h2, h⟩ := Ow.and h
  exact ⟨X, h1, h2, h.nest⟩
theorem TestsT.shut {d : Bool} {p : PV} {X : List (Test × PV)} {L : List Asn} {μ : Mem} (h2 : ∀ x ∈ X, x.2.cell = true) (h : Ow (Vec tyTestO 6 p (X.map tRow) :: (X.map (tOwn d) ++ L)) μ) : Ow (TestsT d (X.map (·.1)) p :: L) μ :=
  (Ow.pack (L1 := Vec tyTestO 6 p (X.map tRow) :: X.map (tOwn d)) h).imp fun _ hν => ⟨X, rfl, h2, hν⟩
theorem CondsT.open_ {d : Bool} {n : Nat} {l : List Cond} {p : PV} {L : List Asn} {μ : Mem} (h : Ow (CondsT d (n + 1) l p :: L) μ) : ∃ X : List (Cond × PV × PV × PV), X.map (·.1) = l ∧ (∀ x ∈ X, x.2.1.cell = true ∧ x.2.2.1.cell = true ∧ x.2.2.2.cell = true) ∧ Ow (Vec tyCondO 7 p (X.map cRow) :: (X.map (kOwn d n) ++ L)) μ := by
  obtain ⟨X, h⟩ := Ow.ex h
  obtain ⟨h1, h⟩ := Ow.and h
  obtain ⟨h2, h⟩ := Ow.and h
  exact ⟨X, h1, h2, h.nest⟩
theorem CondsT.shut {d : Bool} {n : Nat} {p : PV} {X : List (Cond × PV × PV × PV)} {L : List Asn} {μ : Mem} (h2 : ∀ x ∈ X, x.2.1.cell = true ∧ x.2.2.1.cell = true ∧ x.2.2.2.cell = true) (h : Ow (Vec tyCondO 7 p (X.map cRow) :: (X.map (kOwn d n) ++ L)) μ) : Ow (CondsT d (n + 1) (X.map (·.1)) p :: L) μ :=
  (Ow.pack (L1 := Vec tyCondO 7 p (X.map cRow) :: X.map (kOwn d n)) h).imp fun _ hν => ⟨X, rfl, h2, hν⟩

end Go.Proofs.Ytdiimonfmdbclaa

/-
  Copies of one's own; and what is written into them.
-/
namespace Go.Proofs.Ytdiimonfmdbclaa
open Go.Eng Go.RowKit
set_option linter.unusedVariables false
set_option linter.unusedSimpArgs false
set_option linter.unnecessarySimpa false

theorem takeSucc {α β : Type} {f : α → β} {l : List α} {k : Nat} (hk : k < l.length) {X : List α} {x : α} (h : X = l.take k) (hx : x = l[k]) : X ++ [x] = l.take (k + 1) := by
  rw [List.take_add_one, List.getElem?_eq_getElem hk, h, hx]; rfl

/-! ### copies -/
theorem cCopySymsS {L : List Asn} {μ : Mem} (hO : Ow L μ) (f : Fl) (l : List Sym) (hl : l.length ≤ 1000000) {K : PV → Mem → Prop} (hk : ∀ a c μ', Ow (Vec tySymO 3 (.raw (.slice a l.length c)) (l.map Sym.pv) :: L) μ' → K (.raw (.slice a l.length c)) μ') : CallP Try.prog 55 [.list 3 f (l.map Sym.pv)] μ K := by
  refine G_ponderkeep_Copy_api_Sym_s.c (appR_mk hO (symLen l) (symCell l) (by simp; omega) (by simp; omega) fun a c μ' h => ?_)
  rw [List.length_map] at h ⊢
  exact hk a c μ' h

theorem testsAdd {d : Bool} {X : List (Test × PV)} {a : Option Addr} {n c : Nat} {L : List Asn} {u : Mem} (hO : Ow (Vec tyTestO 6 (.raw (.slice a n c)) (X.map tRow) :: (X.map (tOwn d) ++ L)) u) (t : Test) (q : PV) (hq : q.cell = true) (hl : X.length + 1 ≤ 1000000) {L2 : List Asn} {u2 : Mem} (hO2 : Ow (tOwn d (t, q) :: (Vec tyTestO 6 (.raw (.slice a n c)) (X.map tRow) :: (X.map (tOwn d) ++ L))) u2) {K : Option Addr → Nat → Nat → Mem → Prop}
    (hk : ∀ b' c' u3, Ow (Vec tyTestO 6 (.raw (.slice b' (X.length + 1) c')) ((X ++ [(t, q)]).map tRow) :: ((X ++ [(t, q)]).map (tOwn d) ++ L)) u3 → K b' (X.length + 1) c' u3) :
    appR 6 80 tyTestO a n c (.list 6 .nr [[pI t.rel, pS t.var, pI t.sym.k, pS t.sym.t, pI t.sym.n, q]]) u2 K := by
  obtain ⟨a1, c1, hp, happ⟩ := Vec.app hO2.swap (tRowLen X)
  simp only [PV.raw.injEq, Value.slice.injEq, List.length_map] at hp
  obtain ⟨rfl, rfl, rfl⟩ := hp
  simp only [List.length_map] at happ
  refine happ (tRow (t, q)) _ _ rfl (by simp only [allCell, tRow, List.all_cons, List.all_nil, hq]; rfl) (by omega) (by omega) fun b' c' u3 h3 => hk _ c' u3 ?_
  have e1 : (X ++ [(t, q)]).map tRow = X.map tRow ++ [tRow (t, q)] := by simp
  have e2 : (X ++ [(t, q)]).map (tOwn d) ++ L = X.map (tOwn d) ++ tOwn d (t, q) :: L := by simp
  rw [e1, e2]
  exact h3.tail fun ν hν => Ow.unmid hν

theorem cCopyTestsS {L : List Asn} {μ : Mem} (hO : Ow L μ) (f : Fl) (l : List Test) (hl : l.length ≤ 100000) (ht : ∀ t ∈ l, t.list.length ≤ 1000000) {K : PV → Mem → Prop} (hk : ∀ a c μ', Ow (TestsT true l (.raw (.slice a l.length c)) :: L) μ' → K (.raw (.slice a l.length c)) μ') : CallP Try.prog 30 [.list 6 f (l.map Test.pv)] μ K := by
  refine G_ponderkeep_CopyTests_s.c ?_
  refine LoopI.each2 (n := l.length) (by omega) (fun i x u => ∃ X : List (Test × PV), X.map (·.1) = l.take i ∧ (∀ x ∈ X, x.2.cell = true) ∧ x.2.1 = X.length ∧ Ow (Vec tyTestO 6 (.raw (.slice x.1 x.2.1 x.2.2)) (X.map tRow) :: (X.map (tOwn true) ++ L)) u) ⟨[], rfl, by simp, rfl, Vec.nil _ _ hO⟩ ?_ ?_
  · rintro i ⟨a, n, c⟩ u next hi ⟨X, hX, hc, rfl, hO⟩ hnext
    have hXl : X.length = i := by have := congrArg List.length hX; rw [List.length_map, List.length_take] at this; omega
    refine CIf.t (by simpa using hi) ⟨by omega, _, atRow hi, _, _, _, _, _, _, _, rfl, by omega, _, atRow hi, _, _, rfl, ?_⟩
    refine cCopySymsS hO .sh l[i].list (ht _ (List.getElem_mem hi)) fun a1 c1 u1 O1 => ⟨_, _, _, rfl, ?_⟩
    refine testsAdd hO l[i] (.raw (.slice a1 l[i].list.length c1)) rfl (by omega) (L2 := L) O1 fun b' c' u3 O3 => hnext _ _ ⟨X ++ [(l[i], .raw (.slice a1 l[i].list.length c1))], ?_, ?_, by simp, O3⟩
    · rw [List.map_append, hX, List.take_add_one, List.getElem?_eq_getElem hi]; rfl
    · intro x hx
      rcases List.mem_append.1 hx with h | h
      · exact hc x h
      · simp at h; subst h; rfl
  · rintro ⟨a, n, c⟩ u next ⟨X, hX, hc, rfl, hO⟩
    rw [List.take_length] at hX
    refine CIf.f (by simp) ?_
    subst hX
    have := hk a c u
    rw [List.length_map] at this
    exact this (TestsT.shut hc hO)

/-! ### places of cells -/
/-- Cells at a place, whatever lies around them. -/
structure Rw (b o sz : Nat) (A : List PV → Asn) : Prop where
  rd : ∀ {row : List PV} {L : List Asn} {μ : Mem}, row.length = sz → Ow (A row :: L) μ → ∀ k m, k + m ≤ sz → rdM μ b (o + k) m = some ((row.drop k).take m)
  st : ∀ {row : List PV} {L : List Asn} {μ : Mem}, row.length = sz → Ow (A row :: L) μ → ∀ (k : Nat) (vs : List PV) (K : Mem → Prop), k + vs.length ≤ sz → (∀ μ', Ow (A (wrL row k vs) :: L) μ' → K μ') → stM b (o + k) vs μ K

theorem wrL_len {row vs : List PV} {k : Nat} (h : k + vs.length ≤ row.length) : (wrL row k vs).length = row.length := by
  unfold wrL; simp only [List.length_append, List.length_take, List.length_drop]; omega

theorem Rw.pt (b : Nat) (T : TypeId) (sz : Nat) : Rw b 0 sz (Pt b T) :=
  ⟨fun hl hO k m h => by rw [Nat.zero_add]; exact hO.rd 0 rfl (by omega), fun hl hO k vs K h hK => by rw [Nat.zero_add]; exact hO.st 0 rfl (by omega) fun μ' h' => hK μ' h'⟩

theorem Rw.vec {e : TypeId} {sz n c b j : Nat} {rows : List (List PV)} (hr : ∀ r ∈ rows, r.length = sz) (hj : j < rows.length) : Rw b (0 + j * sz) sz fun row => Vec e sz (.raw (.slice (some ⟨b, 0, none⟩) n c)) (rows.set j row) := by
  have hset : ∀ {row : List PV}, row.length = sz → ∀ r ∈ rows.set j row, r.length = sz := fun hl r h => by
    rcases List.mem_or_eq_of_mem_set h with h | rfl
    · exact hr r h
    · exact hl
  refine ⟨fun {row L μ} hl hO k m h => ?_, fun {row L μ} hl hO k vs K h hK => ?_⟩
  · obtain ⟨b', hb, hrd, _⟩ := Vec.at_ 0 hO rfl (hset hl) (j := j) (by simpa using hj)
    simp only [Option.some.injEq, Addr.mk.injEq] at hb
    obtain ⟨rfl, _⟩ := hb
    have := hrd k m h
    rw [List.getElem_set_self] at this
    exact this
  · obtain ⟨b', hb, _, hst⟩ := Vec.at_ 0 hO rfl (hset hl) (j := j) (by simpa using hj)
    simp only [Option.some.injEq, Addr.mk.injEq] at hb
    obtain ⟨rfl, _⟩ := hb
    refine hst k vs K h fun μ' h' => hK μ' ?_
    rw [List.getElem_set_self, List.set_set] at h'
    exact h'

/-! ### what is written into -/
/-- Rows of a slice that is being spoilt: those from i on are as they were. -/
def Half {T : Type} (f : T → List PV) (X : List T) (sz i : Nat) (rows : List (List PV)) : Prop :=
  rows.length = X.length ∧ (∀ r ∈ rows, r.length = sz) ∧ ∀ (j : Nat) (h : j < X.length), i ≤ j → rows[j]? = some (f X[j])
theorem Half.start {T : Type} {f : T → List PV} {X : List T} {sz : Nat} (h : ∀ x, (f x).length = sz) : Half f X sz 0 (X.map f) := by
  refine ⟨by simp, fun r hr => ?_, fun j hj _ => by rw [List.getElem?_map, List.getElem?_eq_getElem hj]; rfl⟩
  obtain ⟨x, _, rfl⟩ := List.mem_map.1 hr
  exact h x
theorem Half.step {T : Type} {f : T → List PV} {X : List T} {sz i : Nat} {rows : List (List PV)} {r : List PV} (h : Half f X sz i rows) (hr : r.length = sz) : Half f X sz (i + 1) (rows.set i r) := by
  refine ⟨by rw [List.length_set]; exact h.1, fun r' h' => ?_, fun j hj hij => ?_⟩
  · rcases List.mem_or_eq_of_mem_set h' with h' | rfl
    · exact h.2.1 r' h'
    · exact hr
  · rw [List.getElem?_set_ne (by omega)]; exact h.2.2 j hj (by omega)

/-- The symbols of a list are written into. -/
theorem spoilSyms {q : PV} {l : List Sym} {L : List Asn} {u : Mem} (hO : Ow (Vec tySymO 3 q (l.map Sym.pv) :: L) u) (hl : l.length ≤ 1000000) {body : (Int → Mem → Prop) → Int → Mem → Prop}
    (hbody : ∀ (a : Option Addr) (c : Nat), q = .raw (.slice a l.length c) → ∀ (k : Nat) (u : Mem) (next : Int → Mem → Prop), k < l.length → (∃ rows, Ow (Vec tySymO 3 (.raw (.slice a l.length c)) rows :: L) u) → withSl a (fun b o => (0 : Int) ≤ k ∧ (k : Int) < ((l.length : Nat) : Int) ∧ stM b (o + Int.toNat (k : Int) * 3) [pI 0, pS ⟨#[]⟩, pI 0] u fun u' => next (IntKind.wrap .i64 ((k : Int) + 1)) u') → body next (k : Int) u)
    (hend : ∀ (a : Option Addr) (c : Nat), q = .raw (.slice a l.length c) → ∀ (u : Mem) (next : Int → Mem → Prop), Ow L u → (∃ rows, Ow (Vec tySymO 3 (.raw (.slice a l.length c)) rows :: L) u) → body next (l.length : Int) u) : LoopI body 0 u := by
  obtain ⟨a, c, rfl⟩ := Vec.rawO hO
  rw [List.length_map] at hO
  refine LoopI.each (n := l.length) (by omega) (fun i u => ∃ rows : List (List PV), rows.length = l.length ∧ (∀ x ∈ rows, x.length = 3) ∧ Ow (Vec tySymO 3 (.raw (.slice a l.length c)) rows :: L) u) ⟨_, by simp, symLen l, hO⟩ ?_ ?_
  · rintro i u next hi ⟨rows, h1, h2, hO⟩ hnext
    refine hbody a c (by rw [List.length_map]) i u next hi ⟨rows, hO⟩ ?_
    obtain ⟨b, rfl, _, hst⟩ := Vec.at_ 0 hO rfl h2 (j := i) (by omega)
    refine ⟨by omega, by omega, ?_⟩
    rw [Int.toNat_natCast]
    refine hst 0 [pI 0, pS ⟨#[]⟩, pI 0] _ (by simp) fun u' h => hnext _ ⟨_, by rw [List.length_set]; exact h1, fun x hx => ?_, h⟩
    rcases List.mem_or_eq_of_mem_set hx with h | rfl
    · exact h2 x h
    · rw [wrL_len (by rw [h2 _ (List.getElem_mem (by omega))]; simp)]; exact h2 _ (List.getElem_mem (by omega))
  · rintro u next ⟨rows, h1, h2, hO⟩
    exact hend a c (by rw [List.length_map]) u next hO.drop ⟨rows, hO⟩

@[reducible] def ptrOf (b o : Nat) : Option Addr := some ⟨b, o, none⟩

theorem spoilTests {f b o : Nat} {A : List PV → Asn} (hA : Rw b o 7 A) {row : List PV} (hrow : row.length = 7) {q : PV} (hf : f + 1 ≤ 7) (hq : (row.drop f).take 1 = [q]) {l : List Test} (hl : l.length ≤ 100000) (ht : ∀ t ∈ l, t.list.length ≤ 100000) {L : List Asn} {u : Mem} (hO : Ow (A row :: TestsT true l q :: L) u) {E : Mem → Prop} (hk : ∀ u', Ow (A row :: L) u' → E u') :
    LoopI (α := Int) (fun next s u =>
      nn (ptrOf b o)
      (withPtrP (.raw (.pointer (ptrOf b o))) fun b o =>
        ∃ (x11 : Option Addr) (x11n x11c : Nat), rdM u b (o + f) 1 = some [(.raw (.slice x11 x11n x11c))] ∧
        CIf (decide ((s : Int) < ((x11n : Nat) : Int)))
        (LoopI (α := Int) (fun next_1 s_1 u_1 =>
            nn (ptrOf b o)
            (withPtrP (.raw (.pointer (ptrOf b o))) fun b_1 o_1 =>
              ∃ (x20 : Option Addr) (x20n x20c : Nat), rdM u_1 b_1 (o_1 + f) 1 = some [(.raw (.slice x20 x20n x20c))] ∧
              withSl x20 fun b_2 o_2 =>
              (0 : Int) ≤ s ∧ s < ((x20n : Nat) : Int) ∧
              ∃ (x24 : Option Addr) (x24n x24c : Nat), rdM u_1 b_2 ((o_2 + Int.toNat s * 6) + 5) 1 = some [(.raw (.slice x24 x24n x24c))] ∧
              CIf (decide ((s_1 : Int) < ((x24n : Nat) : Int)))
              (nn (ptrOf b o)
                (withPtrP (.raw (.pointer (ptrOf b o))) fun b_3 o_3 =>
                  ∃ (x32 : Option Addr) (x32n x32c : Nat), rdM u_1 b_3 (o_3 + f) 1 = some [(.raw (.slice x32 x32n x32c))] ∧
                  withSl x32 fun b_4 o_4 =>
                  (0 : Int) ≤ s ∧ s < ((x32n : Nat) : Int) ∧
                  ∃ (x36 : Option Addr) (x36n x36c : Nat), rdM u_1 b_4 ((o_4 + Int.toNat s * 6) + 5) 1 = some [(.raw (.slice x36 x36n x36c))] ∧
                  withSl x36 fun b_5 o_5 =>
                  (0 : Int) ≤ s_1 ∧ s_1 < ((x36n : Nat) : Int) ∧
                  stM b_5 (o_5 + Int.toNat s_1 * 3) [(pI (0)), (pS ⟨#[]⟩), (pI (0))] u_1 fun u_2 =>
                  next_1 (IntKind.wrap .i64 (s_1 + (1))) u_2))
              (nn (ptrOf b o)
                (withPtrP (.raw (.pointer (ptrOf b o))) fun b_6 o_6 =>
                  ∃ (x43 : Option Addr) (x43n x43c : Nat), rdM u_1 b_6 (o_6 + f) 1 = some [(.raw (.slice x43 x43n x43c))] ∧
                  withSl x43 fun b_7 o_7 =>
                  (0 : Int) ≤ s ∧ s < ((x43n : Nat) : Int) ∧
                  stM b_7 (o_7 + Int.toNat s * 6) [(pI (-1)), (pS ⟨#[]⟩), (pI (0)), (pS ⟨#[]⟩), (pI (0)), (.list 3 .nil [])] u_1 fun u_3 =>
                  next (IntKind.wrap .i64 (s + (1))) u_3))))
          (0) u)
        (E u))) 0 u := by
  obtain ⟨X, rfl, hXc, hO⟩ := TestsT.open_ hO.swap
  obtain ⟨a, c, rfl⟩ := Vec.rawO hO
  rw [List.length_map] at hO hl
  have hO1 : Ow (A row :: Vec tyTestO 6 (.raw (.slice a X.length c)) (X.map tRow) :: ((X.drop 0).map (tOwn true) ++ L)) u := (hO.tail fun _ h => h.mid).swap
  have hq' : (row.drop f).take 1 = [.raw (.slice a X.length c)] := by rw [hq, List.length_map]
  refine LoopI.each (n := X.length) (by omega) (fun i u => ∃ rows, Half tRow X 6 i rows ∧ Ow (A row :: Vec tyTestO 6 (.raw (.slice a X.length c)) rows :: ((X.drop i).map (tOwn true) ++ L)) u) ⟨_, Half.start (fun _ => rfl), hO1⟩ ?_ ?_
  · rintro i u next hi ⟨rows, hH, hO⟩ hnext
    have hdr : X.drop i = X[i] :: X.drop (i + 1) := List.drop_eq_getElem_cons hi
    have hrd0 : ∀ {L' : List Asn} {u' : Mem}, Ow (A row :: L') u' → rdM u' b (o + f) 1 = some [.raw (.slice a X.length c)] := fun h => by rw [hA.rd hrow h f 1 hf, hq']
    refine ⟨_, _, _, hrd0 hO, CIf.t (by simpa using hi) ?_⟩
    have hO2 : Ow (Vec tySymO 3 X[i].2 (X[i].1.list.map Sym.pv) :: A row :: Vec tyTestO 6 (.raw (.slice a X.length c)) rows :: ((X.drop (i + 1)).map (tOwn true) ++ L)) u := by
      rw [hdr, List.map_cons, List.cons_append] at hO
      exact (Ow.at 2 rfl hO).imp fun ν hν => hν
    have hri : rows[i]? = some (tRow X[i]) := hH.2.2 i hi (Nat.le_refl _)
    obtain ⟨hlt, hri'⟩ := List.getElem?_eq_some_iff.1 hri
    refine spoilSyms hO2 (by have := ht X[i].1 (List.mem_map.2 ⟨_, List.getElem_mem hi, rfl⟩); omega) ?_ ?_
    · rintro a' c' hq2 k u1 next1 hk ⟨rowsS, hO3⟩ hcont
      have hO4 := hO3.swap
      obtain ⟨b2, rfl, hrd, _⟩ := Vec.at_ 2 hO3 rfl hH.2.1 (j := i) hlt
      rw [hri'] at hrd
      have h5 : rdM u1 b2 (0 + i * 6 + 5) 1 = some [.raw (.slice a' X[i].1.list.length c')] := by rw [hrd 5 1 (by omega)]; show some [X[i].2] = _; rw [hq2]
      have hk' : decide ((k : Int) < ((X[i].1.list.length : Nat) : Int)) = true := by simpa using hk
      refine ⟨_, _, _, hrd0 hO4, by omega, by omega, _, _, _, by rw [Int.toNat_natCast]; exact h5, CIf.t hk' ⟨_, _, _, hrd0 hO4, by omega, by omega, _, _, _, by rw [Int.toNat_natCast]; exact h5, hcont⟩⟩
    · rintro a' c' hq2 u1 next1 hO3 ⟨rowsS, hO3'⟩
      obtain ⟨b2, rfl, hrd, hst⟩ := Vec.at_ 1 hO3 rfl hH.2.1 (j := i) hlt
      rw [hri'] at hrd
      have h5 : rdM u1 b2 (0 + i * 6 + 5) 1 = some [.raw (.slice a' X[i].1.list.length c')] := by rw [hrd 5 1 (by omega)]; show some [X[i].2] = _; rw [hq2]
      refine ⟨_, _, _, hrd0 hO3, by omega, by omega, _, _, _, by rw [Int.toNat_natCast]; exact h5, CIf.f (by simp) ⟨_, _, _, hrd0 hO3, by omega, by omega, ?_⟩⟩
      rw [Int.toNat_natCast]
      refine hst 0 _ _ (by simp) fun u' h' => hnext _ ⟨_, hH.step ?_, h'⟩
      rw [hri']; rfl
  · rintro u next ⟨rows, hH, hO⟩
    rw [List.drop_length] at hO
    exact ⟨_, _, _, by rw [hA.rd hrow hO f 1 hf, hq'], CIf.f (by simp) (hk _ (hO.tail fun _ h => h.drop))⟩

theorem cSpoilCond : ∀ (n : Nat) {b o : Nat} {A : List PV → Asn} (hA : Rw b o 7 A) (x : Cond × PV × PV × PV) (hl : lightC x.1) (hs : sizeL x.1.conds ≤ 100000) {L : List Asn} {u : Mem} (hO : Ow (A (cRow x) :: kOwn true n x :: L) u) {K : PV → Mem → Prop} (hk : ∀ μ' row, row.length = 7 → Ow (A row :: L) μ' → K (.tup []) μ'), CallP Try.prog 14 [pP b o] u K := by
  intro n
  induction n with
  | zero =>
    intro b o A hA x hl hs L u hO K hk
    obtain ⟨_, l1, l2, l3, l4, _⟩ := (lightC_eq _).1 hl
    have hO : Ow (A (cRow x) :: TestsT true x.1.attr x.2.1 :: TestsT true x.1.value x.2.2.1 :: CondsT true 0 x.1.conds x.2.2.2 :: L) u := hO.tail fun _ h => Ow.nest h
    refine G_ponderkeep_SpoilCond.c ?_
    refine spoilTests (f := 3) hA rfl (by omega) rfl (by omega) (fun t ht => by have := (l3 t ht).1; omega) hO fun u1 O1 => ?_
    refine spoilTests (f := 4) hA rfl (by omega) rfl (by omega) (fun t ht => by have := (l4 t ht).1; omega) O1 fun u2 O2 => ?_
    obtain ⟨h0, O3⟩ := Ow.and O2.swap
    obtain ⟨a, c, hq⟩ := Vec.rawO O3
    have hrd : ∀ {L' : List Asn} {u' : Mem}, Ow (A (cRow x) :: L') u' → rdM u' b (o + 6) 1 = some [.raw (.slice a 0 c)] := fun h => by rw [hA.rd rfl h 6 1 (by omega)]; show some [x.2.2.2] = _; rw [hq]; rfl
    refine LoopI.each (n := 0) (by omega) (fun _ u => Ow (A (cRow x) :: L) u) O3.drop (fun k u next hk => by omega) fun u next O4 => ?_
    refine ⟨_, _, _, hrd O4, CIf.f (by simp) ?_⟩
    exact hA.st rfl O4 2 [pS ⟨#[103, 111, 110, 101]⟩] _ (by simp) fun u5 O5 => hk u5 _ rfl O5
  | succ n ih =>
    intro b o A hA x hl hs L u hO K hk
    obtain ⟨_, l1, l2, l3, l4, l5⟩ := (lightC_eq _).1 hl
    have hO : Ow (A (cRow x) :: TestsT true x.1.attr x.2.1 :: TestsT true x.1.value x.2.2.1 :: CondsT true (n + 1) x.1.conds x.2.2.2 :: L) u := hO.tail fun _ h => Ow.nest h
    refine G_ponderkeep_SpoilCond.c ?_
    refine spoilTests (f := 3) hA rfl (by omega) rfl (by omega) (fun t ht => by have := (l3 t ht).1; omega) hO fun u1 O1 => ?_
    refine spoilTests (f := 4) hA rfl (by omega) rfl (by omega) (fun t ht => by have := (l4 t ht).1; omega) O1 fun u2 O2 => ?_
    obtain ⟨X, hX, hXc, O3⟩ := CondsT.open_ O2.swap
    obtain ⟨a, c, hq⟩ := Vec.rawO O3
    rw [hq, List.length_map] at O3
    have hsz := sizeL_len x.1.conds
    have hXl : X.length ≤ 100000 := by have := congrArg List.length hX; rw [List.length_map] at this; omega
    have hrd : ∀ {L' : List Asn} {u' : Mem}, Ow (A (cRow x) :: L') u' → rdM u' b (o + 6) 1 = some [.raw (.slice a X.length c)] := fun h => by rw [hA.rd rfl h 6 1 (by omega)]; show some [x.2.2.2] = _; rw [hq, List.length_map]
    have O4 : Ow (A (cRow x) :: Vec tyCondO 7 (.raw (.slice a X.length c)) (X.map cRow) :: ((X.drop 0).map (kOwn true n) ++ L)) u2 := (O3.tail fun _ h => h.mid).swap
    refine LoopI.each (n := X.length) (by omega) (fun i u => ∃ rows, Half cRow X 7 i rows ∧ Ow (A (cRow x) :: Vec tyCondO 7 (.raw (.slice a X.length c)) rows :: ((X.drop i).map (kOwn true n) ++ L)) u) ⟨_, Half.start (fun _ => rfl), O4⟩ ?_ ?_
    · rintro i u next hi ⟨rows, hH, hO⟩ hnext
      have hdr : X.drop i = X[i] :: X.drop (i + 1) := List.drop_eq_getElem_cons hi
      have hri : rows[i]? = some (cRow X[i]) := hH.2.2 i hi (Nat.le_refl _)
      obtain ⟨hlt, hri'⟩ := List.getElem?_eq_some_iff.1 hri
      obtain ⟨b2, rfl, _, _⟩ := Vec.at_ 1 hO rfl hH.2.1 (j := i) hlt
      refine ⟨_, _, _, hrd hO, CIf.t (by simpa using hi) ⟨_, _, _, hrd hO, by omega, by omega, ?_⟩⟩
      rw [Int.toNat_natCast]
      have hxm : X[i].1 ∈ x.1.conds := by rw [← hX]; exact List.mem_map.2 ⟨_, List.getElem_mem hi, rfl⟩
      have hO2 : Ow ((fun row => Vec tyCondO 7 (.raw (.slice (some ⟨b2, 0, none⟩) X.length c)) (rows.set i row)) (cRow X[i]) :: kOwn true n X[i] :: (A (cRow x) :: ((X.drop (i + 1)).map (kOwn true n) ++ L))) u := by
        rw [hdr, List.map_cons, List.cons_append] at hO
        have h1 := hO.swap.tail fun _ h => h.swap
        show Ow (Vec tyCondO 7 _ (rows.set i (cRow X[i])) :: _) u
        rw [← hri', List.set_getElem_self]
        exact h1
      have hm := sizeL_mem hxm
      refine ih (Rw.vec hH.2.1 hlt) X[i] (lightL_iff.1 l5 _ hxm) (by omega) hO2 fun μ' row hrl h => ⟨rfl, hnext _ ⟨_, hH.step hrl, h.swap⟩⟩
    · rintro u next ⟨rows, hH, hO⟩
      rw [List.drop_length] at hO
      refine ⟨_, _, _, hrd hO, CIf.f (by simp) ?_⟩
      exact hA.st rfl hO 2 [pS ⟨#[103, 111, 110, 101]⟩] _ (by simp) fun u5 O5 => hk u5 _ rfl (O5.tail fun _ h => h.drop)

end Go.Proofs.Ytdiimonfmdbclaa

/-
  The law AlphaBare.
-/
namespace Go.Proofs.Ytdiimonfmdbclaa
open Go.Eng Go.RowKit
set_option linter.unusedVariables false
set_option linter.unusedSimpArgs false
set_option linter.unnecessarySimpa false

theorem cStillS {L : List Asn} {μ : Mem} (hO : Ow L μ) (f : Fl) (l : List Test) (hl : l.length ≤ 1000) (ht : ∀ t ∈ l, t.list.length ≤ 1000) {K : PV → Mem → Prop} (hk : ∀ a c μ', Ow (TestsT true (stillL l) (.raw (.slice a (stillL l).length c)) :: L) μ' → K (.raw (.slice a (stillL l).length c)) μ') : CallP Try.prog 32 [.list 6 f (l.map Test.pv)] μ K := by
  refine G_alpha_still_s.c ?_
  refine LoopI.each2 (n := l.length) (by omega) (fun i x u => ∃ X : List (Test × PV), X.map (·.1) = stillL (l.take i) ∧ X.length ≤ i ∧ (∀ x ∈ X, x.2.cell = true) ∧ x.2.1 = X.length ∧ Ow (Vec tyTestO 6 (.raw (.slice x.1 x.2.1 x.2.2)) (X.map tRow) :: (X.map (tOwn true) ++ L)) u) ⟨[], rfl, by simp, by simp, rfl, Vec.nil _ _ hO⟩ ?_ ?_
  · rintro i ⟨a, n, c⟩ u next hi ⟨X, hX, hXl, hc, rfl, hO⟩ hnext
    have hft := stillL_take hi
    have htk := ht _ (List.getElem_mem hi)
    refine CIf.t (by simpa using hi) ⟨by omega, _, atRow hi, _, _, _, _, _, _, _, rfl, CIf.mk (fun hv => ?_) (fun hv => ?_)⟩
    · rw [if_pos hv] at hft
      refine appR_mk hO (symLen l[i].list) (symCell l[i].list) (by simp; omega) (by simp; omega) fun a1 c1 u1 O1 => ?_
      rw [List.length_map] at O1 ⊢
      refine testsAdd hO l[i] (.raw (.slice a1 l[i].list.length c1)) rfl (by omega) (L2 := L) O1 fun b' c' u3 O3 => hnext _ _ ⟨X ++ [(l[i], .raw (.slice a1 l[i].list.length c1))], ?_, by simp; omega, ?_, by simp, O3⟩
      · rw [List.map_append, hX, hft]; rfl
      · intro x hx
        rcases List.mem_append.1 hx with h | h
        · exact hc x h
        · simp at h; subst h; rfl
    · rw [if_neg (by simp [hv]), List.append_nil] at hft
      exact hnext _ _ ⟨X, by rw [hft]; exact hX, by omega, hc, rfl, hO⟩
  · rintro ⟨a, n, c⟩ u next ⟨X, hX, hXl, hc, rfl, hO⟩
    rw [List.take_length] at hX
    refine CIf.f (by simp) ?_
    rw [← hX] at hk
    have := hk a c u
    rw [List.length_map] at this
    exact this (TestsT.shut hc hO)

/-- A bare condition of one's own. -/
theorem cBareS {L : List Asn} {μ : Mem} (hO : Ow L μ) (c : Cond) (fa fv fc : Fl) (hl : lightC c) {K : PV → Mem → Prop}
    (hk : ∀ a1 c1 a2 c2 μ', Ow (TestsT true (stillL c.attr) (.raw (.slice a1 (stillL c.attr).length c1)) :: TestsT true (stillL c.value) (.raw (.slice a2 (stillL c.value).length c2)) :: L) μ' → K (.agg [pI 1, pB c.goal, pS ⟨#[]⟩, .raw (.slice a1 (stillL c.attr).length c1), .raw (.slice a2 (stillL c.value).length c2), pB c.acc, .raw (.slice none 0 0)]) μ') :
    CallP Try.prog 11 [.agg [pI c.kind, pB c.goal, pS c.id, .list 6 fa (c.attr.map Test.pv), .list 6 fv (c.value.map Test.pv), pB c.acc, .list 7 fc (c.conds.map Cond.pv)]] μ K := by
  obtain ⟨_, h1, h2, h3, h4, _⟩ := (lightC_eq c).1 hl
  refine CallP.conv (G_alpha_Bare_s.c ?_)
  refine CallP.q (K := fun p μ' => ∃ a c1, p = .raw (.slice a (stillL c.attr).length c1) ∧ Ow [TestsT true (stillL c.attr) p] μ') (cStillS (L := []) trivial _ c.attr (by omega) (light1000 h3) fun a c1 μ' h => ⟨a, c1, rfl, h⟩) ?_
  rintro p μ1 hs1 ⟨a1, c1, rfl, O1⟩
  refine ⟨_, _, _, rfl, ?_⟩
  refine CallP.q (K := fun p μ' => ∃ a c1, p = .raw (.slice a (stillL c.value).length c1) ∧ Ow [TestsT true (stillL c.value) p] μ') (cStillS (L := []) trivial _ c.value (by omega) (light1000 h4) fun a c1 μ' h => ⟨a, c1, rfl, h⟩) ?_
  rintro p μ2 hs2 ⟨a2, c2, rfl, O2⟩
  refine ⟨_, _, _, rfl, ?_⟩
  have O3 := (hO.side hs1 O1).side hs2 O2
  refine ⟨.agg [pI 1, pB c.goal, pS ⟨#[]⟩, .raw (.slice a1 (stillL c.attr).length c1), .raw (.slice a2 (stillL c.value).length c2), pB c.acc, .raw (.slice none 0 0)], .agg rfl rfl fun i x y hx hy => ?_, hk a1 c1 a2 c2 _ (Ow.swap O3)⟩
  match i with
  | 0 | 1 | 2 | 3 | 4 | 5 => simp at hx hy; subst hx hy; exact .same _
  | 6 => simp at hx hy; subst hx hy; exact .nil 7 []
  | i + 7 => simp at hx

theorem cCopyCond (c : Cond) (fa fv fc : Fl) (hl : lightC c) (hs : sizeL c.conds ≤ 1000000) : Pure Try.prog 10 [.agg [pI c.kind, pB c.goal, pS c.id, .list 6 fa (c.attr.map Test.pv), .list 6 fv (c.value.map Test.pv), pB c.acc, .list 7 fc (c.conds.map Cond.pv)]] (.agg (cc c)) := by
  obtain ⟨_, h1, h2, h3, h4, h5⟩ := (lightC_eq c).1 hl
  refine PureK.of (G_ponderkeep_CopyCond.c ?_)
  exact (cCopyTests _ c.attr (by omega) (lightTs h3)).call ⟨_, _, rfl, (cCopyTests _ c.value (by omega) (lightTs h4)).call ⟨_, _, rfl, (cCopyConds _ _ c.conds (Nat.le_refl _) hs h5).call ⟨_, _, rfl, rfl⟩⟩⟩

theorem cAlphaBare (c : Cond) : Pure Try.prog 3 [.agg c.pv] (pB true) := by
  rw [Cond.pv_eq]
  refine PureK.of (G_ponderlaw12_AlphaBare.c ⟨fun s u => s = false → lightC c ∧ sizeL [c] ≤ 20, ?_, ?_⟩)
  · refine PureK.call (cSizeCC .nr [c] 20 (by omega)) ?_
    rintro _ ⟨r, rfl, _, hr⟩
    refine ⟨_, rfl, CIf.mk (fun h => (fun h => by cases h)) (fun h => ?_)⟩
    have h := of_decide_eq_false h
    have hr := hr (by omega)
    refine PureK.call (cHeavyCC .nr [c] (by rw [hr]; omega)) ?_
    rintro _ ⟨q, rfl, hq⟩
    exact ⟨_, rfl, fun hf => ⟨(hq hf).1, by omega⟩⟩
  · intro s u hs
    refine CIf.mk (fun h => cWakes12.call ⟨_, rfl, rfl⟩) (fun h => ?_)
    obtain ⟨hl, hn⟩ := hs h
    have hsz : sizeL c.conds ≤ 20 := by simp only [sizeL, sizeC_eq] at hn; omega
    have hbl := bare_light hl
    have hbc : (bareC c).conds = [] := rfl
    refine (cCopyCond c .sh .sh .sh hl (by omega)).call ⟨_, _, _, _, _, _, _, _, _, _, rfl, ?_⟩
    refine cBareS (L := []) trivial c .sh .sh .sh hl fun a1 c1 a2 c2 u1 O1 => ⟨_, _, _, _, _, _, _, _, _, _, _, _, _, rfl, fun b4 hb4 => ?_⟩
    refine (O1.new 25 _ hb4).st 0 rfl (by simp) fun u2 O2 => ?_
    have O3 : Ow [Pt b4 25 (cRow (bareC c, .raw (.slice a1 (stillL c.attr).length c1), .raw (.slice a2 (stillL c.value).length c2), .raw (.slice none 0 0))), TestsT true (stillL c.attr) (.raw (.slice a1 (stillL c.attr).length c1)), TestsT true (stillL c.value) (.raw (.slice a2 (stillL c.value).length c2))] u2 := O2
    refine (cRBare c .sh .sh .sh hl).call ⟨_, _, _, _, _, _, _, _, _, _, rfl, _, _, _, _, _, _, _, _, _, _, _, _, _, O3.rd 0 rfl (by simp), ?_⟩
    refine CallP.view (args' := [.agg (cc (bareC c)), .agg (cc (bareC c))]) (qCond (bareC c) (bareC c) (by rw [hbc]; simp [sizeL]) hbl) rfl (fun i p q hp hq => ?_) (fun p ⟨q, e, _⟩ => by rw [e]; rfl) ?_
    · match i with
      | 0 =>
        simp only [List.getElem?_cons_zero, Option.some.injEq] at hp hq; subst hp hq
        obtain ⟨ν1, t1, i1⟩ := O3.mem _ (List.mem_cons_of_mem _ (List.mem_cons_self ..))
        obtain ⟨ν2, t2, i2⟩ := O3.mem _ (List.mem_cons_of_mem _ (List.mem_cons_of_mem _ (List.mem_cons_self ..)))
        refine ⟨.agg rfl rfl fun i x y hx hy => ?_, rfl⟩
        match i with
        | 0 | 1 | 2 | 5 => simp at hx hy; subst hx hy; exact .same _
        | 3 => simp at hx hy; subst hx hy; exact t1.view i1
        | 4 => simp at hx hy; subst hx hy; exact t2.view i2
        | 6 => simp at hx hy; subst hx hy; exact .lst0 none 0 7 (.inl rfl)
        | i + 7 => simp at hx
      | 1 => simp only [List.getElem?_cons_zero, List.getElem?_cons_succ, Option.some.injEq] at hp hq; subst hp hq; exact ⟨.same _, rfl⟩
      | i + 2 => simp at hp
    · rintro _ ⟨q, rfl, hq⟩
      obtain rfl : q = true := hq.2 rfl
      refine ⟨_, rfl, CIf.f rfl ?_⟩
      have O4 : Ow [Pt b4 25 (cRow (bareC c, .raw (.slice a1 (stillL c.attr).length c1), .raw (.slice a2 (stillL c.value).length c2), .raw (.slice none 0 0))), kOwn true 0 (bareC c, .raw (.slice a1 (stillL c.attr).length c1), .raw (.slice a2 (stillL c.value).length c2), .raw (.slice none 0 0))] u2 := by
        refine O3.tail fun ν hν => ?_
        have h1 := Vec.nil tyCondO 7 hν
        have h2 : Ow [TestsT true (stillL c.attr) (.raw (.slice a1 (stillL c.attr).length c1)), TestsT true (stillL c.value) (.raw (.slice a2 (stillL c.value).length c2)), CondsT true 0 [] (.raw (.slice none 0 0))] ν := (h1.swap.tail fun _ h => h.swap).tail fun _ h => h.tail fun _ h => h.imp fun _ h => ⟨rfl, h⟩
        exact Ow.one h2
      refine cSpoilCond 0 (Rw.pt b4 _ 7) _ hbl (by show sizeL [] ≤ 100000; simp [sizeL]) O4 fun u3 row _ _ => ⟨rfl, ?_⟩
      refine PureK.q (qCond c c (by omega) hl) ?_
      rintro _ ⟨q1, rfl, hq1⟩
      obtain rfl : q1 = true := hq1.2 rfl
      refine ⟨_, rfl, CIf.t rfl ((cBare c .sh .sh .sh hl).q ⟨_, _, _, _, _, _, _, _, _, _, rfl, ?_⟩)⟩
      exact (qCond (bareC c) (bareC c) (by rw [hbc]; simp [sizeL]) hbl).call (fun _ => ⟨_, rfl, CIf.t rfl (cWakes12.call ⟨_, rfl, rfl⟩)⟩) (fun h => absurd rfl h)

end Go.Proofs.Ytdiimonfmdbclaa

/-
  The program's types, opened: symbols, bindings, tests, elements, conditions.
-/
namespace Go.Proofs.Ytdiimonfmdbclaa
open Go.Eng
set_option linter.unusedVariables false
set_option linter.unusedSimpArgs false
set_option linter.unnecessarySimpa false
set_option maxRecDepth 100000

theorem progOwn : ownKnob Try.prog.godebug = none := by kernel_rfl
theorem progLaid : laidOutB Try.prog = true := by kernel_rfl

section
variable {w : World}

theorem szInt : Try.prog.cellsOf 3 = 1 := by kernel_rfl
theorem szBool : Try.prog.cellsOf 4 = 1 := by kernel_rfl
theorem szString : Try.prog.cellsOf 9 = 1 := by kernel_rfl
theorem szSym : Try.prog.cellsOf 49 = 3 := by kernel_rfl
theorem szSyms : Try.prog.cellsOf 62 = 1 := by kernel_rfl
theorem szTest : Try.prog.cellsOf 64 = 6 := by kernel_rfl
theorem szTests : Try.prog.cellsOf 22 = 1 := by kernel_rfl
theorem szCond : Try.prog.cellsOf 25 = 7 := by kernel_rfl
theorem szConds : Try.prog.cellsOf 23 = 1 := by kernel_rfl

theorem rdSym (n : Nat) (cs : List Value) (h : Reads Try.prog w n 49 cs) : ∃ s : Sym, RepC (Zall w) s.pv cs ∧ True := by
  obtain ⟨m, rfl, hl, hf⟩ := h.struct Try.underlying49
  rw [szSym] at hl
  obtain ⟨i0, e0, _⟩ := (fldR hf 0 0 szInt rfl rfl rfl).pint Try.underlying3
  obtain ⟨i1, e1, _⟩ := (fldR hf 1 1 szString rfl rfl rfl).pstr Try.underlying9
  obtain ⟨i2, e2, _⟩ := (fldR hf 2 2 szInt rfl rfl rfl).pint Try.underlying3
  match cs, hl with
  | [x0, x1, x2], _ => exact ⟨⟨_, _, _⟩, (e0.append e1).append e2, trivial⟩

theorem rdSyms (n : Nat) (cs : List Value) (h : Reads Try.prog w n 62 cs) : ∃ l : List Sym, RepC (Zall w) [.list 3 .sh (l.map Sym.pv)] cs ∧ (∀ s ∈ l, True) ∧ l.length ≤ maxLen :=
  h.plist Try.underlying62 szSym (by omega) fun m cs _ hr => rdSym m cs hr

theorem rdTest (n : Nat) (cs : List Value) (h : Reads Try.prog w n 64 cs) : ∃ t : Test, RepC (Zall w) t.pv cs ∧ True := by
  obtain ⟨m, rfl, hl, hf⟩ := h.struct Try.underlying64
  rw [szTest] at hl
  obtain ⟨i0, e0, _⟩ := (fldR hf 0 0 szInt rfl rfl rfl).pint Try.underlying3
  obtain ⟨i1, e1, _⟩ := (fldR hf 1 1 szString rfl rfl rfl).pstr Try.underlying9
  obtain ⟨s, e2, _⟩ := rdSym _ _ (fldR hf 2 2 szSym rfl rfl rfl)
  obtain ⟨l, e3, _⟩ := rdSyms _ _ (fldR hf 3 5 szSyms rfl rfl rfl)
  match cs, hl with
  | [x0, x1, x2, x3, x4, x5], _ => exact ⟨⟨_, _, s, l⟩, ((e0.append e1).append e2).append e3, trivial⟩

theorem rdTests (n : Nat) (cs : List Value) (h : Reads Try.prog w n 22 cs) : ∃ l : List Test, RepC (Zall w) [.list 6 .sh (l.map Test.pv)] cs ∧ (∀ s ∈ l, True) ∧ l.length ≤ maxLen :=
  h.plist Try.underlying22 szTest (by omega) fun m cs _ hr => rdTest m cs hr

theorem rdCond : ∀ (n : Nat) (cs : List Value), Reads Try.prog w n 25 cs → ∃ c : Cond, RepC (Zall w) c.pv cs ∧ True := by
  intro n
  induction n using Nat.strongRecOn with
  | ind n ih =>
    intro cs h
    obtain ⟨m, rfl, hl, hf⟩ := h.struct Try.underlying25
    rw [szCond] at hl
    obtain ⟨i0, e0, _⟩ := (fldR hf 0 0 szInt rfl rfl rfl).pint Try.underlying3
    obtain ⟨i1, e1⟩ := (fldR hf 1 1 szBool rfl rfl rfl).pbool Try.underlying4
    obtain ⟨i2, e2, _⟩ := (fldR hf 2 2 szString rfl rfl rfl).pstr Try.underlying9
    obtain ⟨a3, e3, _⟩ := rdTests _ _ (fldR hf 3 3 szTests rfl rfl rfl)
    obtain ⟨a4, e4, _⟩ := rdTests _ _ (fldR hf 4 4 szTests rfl rfl rfl)
    obtain ⟨i5, e5⟩ := (fldR hf 5 5 szBool rfl rfl rfl).pbool Try.underlying4
    obtain ⟨l, e6, _⟩ := (fldR hf 6 6 szConds rfl rfl rfl).plist (pv := Cond.pv) (Q := fun _ => True) Try.underlying23 szCond (by omega) fun m' cs' hm hr => ih m' (by omega) cs' hr
    match cs, hl with
    | [x0, x1, x2, x3, x4, x5, x6], _ =>
      refine ⟨.mk i0 i1 i2 a3 a4 i5 l, ?_, trivial⟩
      rw [Cond.pv_eq]
      exact (((((e0.append e1).append e2).append e3).append e4).append e5).append e6

theorem rdConds (n : Nat) (cs : List Value) (h : Reads Try.prog w n 23 cs) : ∃ l : List Cond, RepC (Zall w) [.list 7 .sh (l.map Cond.pv)] cs ∧ (∀ s ∈ l, True) ∧ l.length ≤ maxLen :=
  h.plist Try.underlying23 szCond (by omega) fun m cs _ hr => rdCond m cs hr

end
end Go.Proofs.Ytdiimonfmdbclaa

/-
  The program's types, opened: elements.
-/
namespace Go.Proofs.Ytdiimonfmdbclaa
open Go.Eng
set_option linter.unusedVariables false
set_option linter.unusedSimpArgs false
set_option linter.unnecessarySimpa false
set_option maxRecDepth 100000

section
variable {w : World}

theorem szElem : Try.prog.cellsOf 51 = 12 := by kernel_rfl

theorem rdElem (n : Nat) (cs : List Value) (h : Reads Try.prog w n 51 cs) : ∃ s : Elem, RepC (Zall w) s.pv cs ∧ True := by
  obtain ⟨m, rfl, hl, hf⟩ := h.struct Try.underlying51
  rw [szElem] at hl
  obtain ⟨a, e0, _⟩ := rdSym _ _ (fldR hf 0 0 szSym rfl rfl rfl)
  obtain ⟨b, e1, _⟩ := rdSym _ _ (fldR hf 1 3 szSym rfl rfl rfl)
  obtain ⟨c, e2, _⟩ := rdSym _ _ (fldR hf 2 6 szSym rfl rfl rfl)
  obtain ⟨i3, e3⟩ := (fldR hf 3 9 szBool rfl rfl rfl).pbool Try.underlying4
  obtain ⟨i4, e4⟩ := (fldR hf 4 10 szBool rfl rfl rfl).pbool Try.underlying4
  obtain ⟨i5, e5, _⟩ := (fldR hf 5 11 szInt rfl rfl rfl).pint Try.underlying3
  match cs, hl with
  | [x0, x1, x2, x3, x4, x5, x6, x7, x8, x9, x10, x11], _ => exact ⟨⟨a, b, c, _, _, _⟩, ((((e0.append e1).append e2).append e3).append e4).append e5, trivial⟩

end
end Go.Proofs.Ytdiimonfmdbclaa

namespace Go.Proofs.Ytdiimonfmdbclaa
open Go.ChangeShapes Go.WideShapes Go.ChangeAt Go.RowKit Go.Eng
set_option linter.unusedVariables false

set_option maxRecDepth 100000 in
theorem AlphaBare.lifted (os : Os) (started : os.Started) (H : Type) (enc : TypeId × Value → H) :
    ReturnsInHanded {} Try.checked os 3 .any (Rows.alphaBareSpec.pre6 enc Try.prog Try.f3 Rows.alphaBareRow.domain false) (Rows.alphaBareSpec.post enc Try.prog Try.f3 false true false false) := by
  refine returnsInHanded_of_change (C := Try.checked) progOwn started (by kernel_rfl) Try.func3
    (ChangeSpec.witness6 (enc := enc) (C := Try.checked) false ⟨#[], #[.agg #[.int .i64 0, .bool false, .string ByteArray.empty, .slice none 0 0, .slice none 0 0, .bool false, .slice none 0 0]], []⟩ 12 (by kernel_rfl) (by kernel_rfl) (by kernel_rfl) (by kernel_rfl)) ?_
  intro W base args ds gs before hval0 hW hcnd _
  have hval : ∀ (j : Nat) t v, Try.f3.params[j]? = some t → args[j]? = some v → Value.okWide Try.prog W .any base t v := hval0
  have hW' := hW
  obtain ⟨p, q, hA0, hV, rfl, hfz, hnd⟩ := hW
  have hA : DataW.TrodAll enc Try.prog W 0 (fun _ => true) true Try.f3.params.toList args.toList ds p := hA0
  rw [Try.params3] at hA hval
  obtain ⟨v0, vs0, d0, ds0, p0, q0, hargs, rfl, rfl, h0, r0⟩ := trodAll_cons hA
  obtain ⟨rfl, rfl, rfl⟩ := trodAll_nil r0
  obtain rfl : args = #[v0] := by cases args; simp_all
  obtain ⟨rfl, rfl⟩ := trodVars_none hV
  have lt0 : ∀ x ∈ p0, x.block < W.heap.size := by obtain ⟨m, hm⟩ := h0; exact DataW.trod_lt m _ _ _ hm
  obtain ⟨a0, e0, w0⟩ := pargAgg Try.underlying25 rdCond (hval 0 25 v0 rfl rfl) h0
  clear hA0 hval0
  refine (PureK.calls (vs := [v0]) (cAlphaBare a0) (Reps.cons rfl e0 (Reps.nil _))).mono fun e W' ⟨⟨v, x, Z, he, hr, hx⟩, bel⟩ => ?_
  subst hx; subst he; rw [hr.ofRaw.1]
  exact ⟨_, rfl, _, _, _, [], _, [], hW', trodAll_mk1 (shut_bool Try.underlying4 _), (trodAll_cons_mk (Below.trod progLaid (by kernel_rfl) (of_decide_eq_true (by kernel_rfl)) h0 bel lt0) trodAll_mk0), rfl, bel.frame _, fun h => by cases h⟩

theorem AlphaBare.proved : Rows.AlphaBareSaid :=
  OpenClaim.holds_of_wide 3 Try.f3 rfl rfl rfl rfl rfl rfl rfl ⟨rfl, rfl, rfl, rfl, rfl⟩ rfl rfl rfl rfl rfl (by kernel_rfl) Try.func3 (by kernel_rfl)
    (of_decide_eq_true (by kernel_rfl)) (by unfold Func.isWrapper; first | (rw [if_pos (by decide +kernel)]; kernel_rfl) | (rw [if_neg (by decide +kernel)]; exact ⟨rfl, rfl⟩))
    (fun os started H enc _ => AlphaBare.lifted os started H enc)

end Go.Proofs.Ytdiimonfmdbclaa
