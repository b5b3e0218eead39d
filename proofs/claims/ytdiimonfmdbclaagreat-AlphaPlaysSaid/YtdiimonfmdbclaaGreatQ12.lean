import Derived.Test.YtdiimonfmdbclaaGreatQ11
import Derived.Test.YtdiimonfmdbclaaGreatRows
import Derived.WalkKit
import Derived.ProofKit
import Derived.OpenShut
import Derived.ShutString
import Derived.ChangeOld
import Derived.Below
/-
  Elements by themselves: elements that come and go; what a memory has.
-/
namespace Go.Proofs.YtdiimonfmdbclaaGreat
open Go.Eng Go.RowKit
set_option linter.unusedVariables false
set_option linter.unusedSimpArgs false
set_option linter.unnecessarySimpa false

@[reducible] def intRow (k : Int) : List PV := [pI k]
@[reducible] def z12 : List PV := [pI 0, pS ⟨#[]⟩, pI 0, pI 0, pS ⟨#[]⟩, pI 0, pI 0, pS ⟨#[]⟩, pI 0, pB false, pB false, pI 0]

theorem hitsM_take {e : Elem} {ms : AMs} {k : Nat} (hk : k < ms.length) : hitsM e (ms.take (k + 1)) = hitsM e (ms.take k) ++ (if meetsC ms[k].2.c e = true then [ms[k].1] else []) := by
  unfold hitsM
  rw [List.take_add_one, List.getElem?_eq_getElem hk, List.filter_append, List.map_append]
  congr 1
  simp only [Option.toList_some, List.filter_cons, List.filter_nil]
  split <;> rfl
theorem hitsM_len (e : Elem) (ms : AMs) : (hitsM e ms).length ≤ ms.length := by
  unfold hitsM; rw [List.length_map]; exact List.length_filter_le _ _

/-- Some of the memories have turned. -/
theorem turned {f : Int × AMemo → Int × AMemo} {ms : AMs} {k : Nat} (hk : k < ms.length) : ((ms.take k).map f ++ ms.drop k).map setM = ((ms.take k).map f).map setM ++ setM ms[k] :: (ms.drop (k + 1)).map setM := by
  rw [List.map_append, List.drop_eq_getElem_cons hk, List.map_cons]
theorem turned1 {f : Int × AMemo → Int × AMemo} {ms : AMs} {k : Nat} (hk : k < ms.length) : ((ms.take (k + 1)).map f ++ ms.drop (k + 1)).map setM = ((ms.take k).map f).map setM ++ setM (f ms[k]) :: (ms.drop (k + 1)).map setM := by
  have e : (ms.take (k + 1)).map f = (ms.take k).map f ++ [f ms[k]] := mapTake hk
  rw [e, List.map_append, List.map_append, List.append_assoc]; rfl
theorem pgM_put (e : Elem) (ms : AMs) : (ms.map (putE e)).map pgM = ms.map pgM := by rw [List.map_map]; rfl
theorem pgM_drop (t : Int) (ms : AMs) : (ms.map (dropE t)).map pgM = ms.map pgM := by rw [List.map_map]; rfl

theorem cAPut {L : List Asn} {μ : Mem} {n : Nat} {es : List Elem} {ms : AMs} (hO : Ow (NetAt n es ms :: L) μ) (hI : AInv es ms) (e : Elem) {K : PV → Mem → Prop}
    (hk1 : (getK cmpI tagE e.tag es).isSome = true → ∀ μ', Ow (NetAt n es ms :: L) μ' → K (.tup [.list 1 .nil [], pI 3]) μ')
    (hk0 : getK cmpI tagE e.tag es = none → ∀ μ' fl, Ow (NetAt n (insK cmpI tagE e es) (ms.map (putE e)) :: L) μ' → K (.tup [.list 1 fl ((hitsM e ms).map intRow), pI 0]) μ') : CallP Tryz.prog 12 [pP n 0, .agg e.pv] μ K := by
  obtain ⟨me, mm, h⟩ := NetAt.open_ hO
  have hlm := hI.lm
  have hle := hI.le
  refine G_alpha_Net_Put.c fun b3 hb3 => ?_
  have O1 := h.new 36 e.pv hb3
  refine ⟨fun s u => getK cmpI tagE e.tag es = none ∧ Ow (Pt b3 36 e.pv :: Pt n 67 [pP me 0, pP mm 0] :: AE.MAt me (es.map pgE) :: AM.MAt mm (ms.map pgM) :: (ms.map setM ++ L)) u, ?_, ?_⟩
  · have fin : ∀ {cs : List PV} {b6 : Nat} {u : Mem} {q : Bool}, Ow (Pt b6 36 cs :: Pt b3 36 e.pv :: Pt n 67 [pP me 0, pP mm 0] :: AE.MAt me (es.map pgE) :: AM.MAt mm (ms.map pgM) :: (ms.map setM ++ L)) u → (q = true → (getK cmpI tagE e.tag es).isSome = true) → (q = false → getK cmpI tagE e.tag es = none) → CIf q (K (.tup [.list 1 .nil [], pI 3]) u) (getK cmpI tagE e.tag es = none ∧ Ow (Pt b3 36 e.pv :: Pt n 67 [pP me 0, pP mm 0] :: AE.MAt me (es.map pgE) :: AM.MAt mm (ms.map pgM) :: (ms.map setM ++ L)) u) := fun {cs b6 u q} hO h1 h2 =>
      CIf.mk (fun hq => hk1 (h1 hq) u (NetAt.shut hO.drop.drop)) (fun hq => ⟨h2 hq, hO.drop⟩)
    refine ⟨_, O1.rd 1 rfl (by simp), _, O1.rd 0 rfl (by simp), ?_, fun b6 hb6 => ?_⟩
    · refine AE.cMGet (Ow.at 2 rfl O1) hI.ue (by simp; omega) e.tag (fun y μ' hy h' => ?_) (fun μ' hy h' => ?_)
      · refine ⟨_, _, _, _, _, _, _, _, _, _, _, _, _, rfl, fun b6 hb6 => ((h'.swap.tail fun _ h => h.swap).new 36 z12 hb6).st 0 rfl (by simp) fun u2 h2 => fin h2 (fun _ => ?_) (fun hq => by cases hq)⟩
        rw [getE] at hy
        cases hx : getK cmpI tagE e.tag es with
        | none => rw [hx] at hy; cases hy
        | some x => rfl
      · refine ⟨_, _, _, _, _, _, _, _, _, _, _, _, _, rfl, fun b6 hb6 => ((h'.swap.tail fun _ h => h.swap).new 36 z12 hb6).st 0 rfl (by simp) fun u2 h2 => fin h2 (fun hq => by cases hq) (fun _ => ?_)⟩
        rw [getE] at hy; exact map_none hy
    · have O2 := O1.new 36 z12 hb6
      refine AE.cMGet (Ow.at 3 rfl O2) hI.ue (by simp; omega) e.tag (fun y μ' hy h' => ?_) (fun μ' hy h' => ?_)
      · refine ⟨_, _, _, _, _, _, _, _, _, _, _, _, _, rfl, (Ow.at 1 rfl h').st 0 rfl (by simp) fun u2 h2 => fin (h2.tail fun _ h => h.swap.tail fun _ h => h.swap) (fun _ => ?_) (fun hq => by cases hq)⟩
        rw [getE] at hy
        cases hx : getK cmpI tagE e.tag es with
        | none => rw [hx] at hy; cases hy
        | some x => rfl
      · refine ⟨_, _, _, _, _, _, _, _, _, _, _, _, _, rfl, (Ow.at 1 rfl h').st 0 rfl (by simp) fun u2 h2 => fin (h2.tail fun _ h => h.swap.tail fun _ h => h.swap) (fun hq => by cases hq) (fun _ => ?_)⟩
        rw [getE] at hy; exact map_none hy
  · rintro ⟨⟨_, _⟩, _⟩ u ⟨hn, hO⟩
    refine ⟨_, hO.rd 1 rfl (by simp), _, hO.rd 0 rfl (by simp), _, _, _, _, _, _, _, _, _, _, _, _, hO.rd 0 rfl (by simp), ?_⟩
    refine AE.cMPut (Ow.at 2 rfl hO) hI.ue (by simp; omega) e.tag e fun u1 h1 => ⟨_, rfl, fun b8 hb8 => ?_⟩
    have e1 : insK AE.ck AE.key (e.tag, e) (es.map pgE) = (insK cmpI tagE e es).map pgE := insK_map (f := pgE) (x := e)
    rw [e1] at h1
    have h2 := h1.new 47 [.list 1 .nil []] hb8
    refine ⟨_, h2.rd 3 rfl (by simp), (AM.cMAll mm).call ⟨_, _, _, rfl, ?_⟩⟩
    have hml : ((ms.map pgM).map fun x => [AM.argK x.1, AM.argV x.2]).length = ms.length := by simp
    refine RangeP.own (AM.seqMAll mm (ms.map pgM) (by simp; omega)) (Ow.at 4 rfl h2)
      (fun k u => ∃ fl, Ow (Pt b8 47 [.list 1 fl ((hitsM e (ms.take k)).map intRow)] :: Tip fl (hitsM e (ms.take k)).length 1 :: Pt b3 36 e.pv :: AM.MAt mm (ms.map pgM) :: AE.MAt me ((insK cmpI tagE e es).map pgE) :: Pt n 67 [pP me 0, pP mm 0] :: (((ms.take k).map (putE e) ++ ms.drop k).map setM ++ L)) u)
      (fun _ _ => False) (fun k => UpC.ex fun _ => UpC.own _) (fun _ _ _ _ h => h.elim) (fun μ' h' => ⟨.nil, ?_⟩) ?_ ?_ ?_
    · have h3 : Ow (Pt b8 47 [.list 1 .nil []] :: Pt b3 36 e.pv :: AM.MAt mm (ms.map pgM) :: AE.MAt me ((insK cmpI tagE e es).map pgE) :: Pt n 67 [pP me 0, pP mm 0] :: (ms.map setM ++ L)) μ' := by
        have a1 := h'.swap
        refine a1.tail fun _ h => ?_
        have a2 := (Ow.at 2 rfl h)
        exact a2
      refine h3.tail fun _ h => Ow.nil ?_ (.inl rfl)
      simpa using h
    · rintro k hk u R ⟨fl, hO⟩ hnone _
      have hk' : k < ms.length := by simpa using hk
      have hxm : ms[k] ∈ ms := List.getElem_mem hk'
      have hb := (hI.bare _ hxm).light
      have hul := hI.ul hxm
      have hht := hitsM_take (e := e) hk'
      have hlt := hitsM_len e (ms.take k)
      rw [List.length_take] at hlt
      rw [List.getElem_map, List.getElem_map]
      rw [turned hk'] at hO
      have hO2 := Ow.pick (P := [Pt b8 47 [.list 1 fl ((hitsM e (ms.take k)).map intRow)], Tip fl (hitsM e (ms.take k)).length 1, Pt b3 36 e.pv, AM.MAt mm (ms.map pgM), AE.MAt me ((insK cmpI tagE e es).map pgE), Pt n 67 [pP me 0, pP mm 0]]) hO
      refine ⟨_, _, _, _, _, _, _, _, _, _, _, _, _, rfl, _, _, _, _, _, _, _, _, _, _, _, _, hO.rd 2 rfl (by simp), (cMeets ms[k].2.c e .sh .sh .sh hb).call ⟨_, rfl, CIf.mk (fun hm => ?_) (fun hm => ?_)⟩⟩
      · refine ⟨_, _, _, _, _, _, _, _, _, _, _, _, hO.rd 2 rfl (by simp), AT.cPut (l := ms[k].2.l) hO2 hul.1 (by omega) e fun u3 h3 => ⟨_, rfl, _, _, h3.rd 1 rfl (by simp), ?_⟩⟩
        have hs : setM (putE e ms[k]) = AT.At ms[k].2.b (putK AT.ck AT.key e ms[k].2.l) := by
          show AT.At ms[k].2.b (if meetsC ms[k].2.c e then _ else _) = _
          rw [if_pos hm]; rfl
        have h4 := (Ow.at 2 rfl h3)
        refine Ow.app h4 (by simp) (by simp; omega) (by simp; omega) fun f' u4 h5 => ?_
        refine h5.st 2 rfl (by simp) fun u6 h6 => hnone _ ⟨f', ?_⟩
        rw [turned1 hk', hs, hht, if_pos hm, List.map_append, List.length_append]
        refine Ow.unpick (P := [Pt b8 47 [.list 1 f' ((hitsM e (ms.take k)).map intRow ++ [ms[k].1].map intRow)], Tip f' ((hitsM e (ms.take k)).length + [ms[k].1].length) 1, Pt b3 36 e.pv, AM.MAt mm (ms.map pgM), AE.MAt me ((insK cmpI tagE e es).map pgE), Pt n 67 [pP me 0, pP mm 0]]) ?_
        have h7 : Ow (Tip f' ((hitsM e (ms.take k)).length + 1) 1 :: AT.At ms[k].2.b (putK AT.ck AT.key e ms[k].2.l) :: Pt b8 47 [.list 1 f' ((hitsM e (ms.take k)).map intRow ++ [[pI ms[k].1]])] :: Pt b3 36 e.pv :: AM.MAt mm (ms.map pgM) :: AE.MAt me ((insK cmpI tagE e es).map pgE) :: Pt n 67 [pP me 0, pP mm 0] :: ((((ms.take k).map (putE e)).map setM ++ (ms.drop (k + 1)).map setM) ++ L)) u6 := h6
        exact h7.swap.tail fun _ h => h.swap
      · refine hnone _ ⟨fl, ?_⟩
        have hs : setM (putE e ms[k]) = setM ms[k] := by
          show AT.At ms[k].2.b (if meetsC ms[k].2.c e then _ else _) = _
          have hm' : meetsC ms[k].2.c e = false := hm
          rw [if_neg (by simp [hm'])]; rfl
        have hm' : meetsC ms[k].2.c e = false := hm
        rw [turned1 hk', hs, hht, if_neg (by simp [hm']), List.append_nil]
        exact hO
    · rintro u ⟨fl, hO⟩
      rw [hml, List.take_length, List.drop_length, List.append_nil] at hO
      refine ⟨_, _, hO.rd 0 rfl (by simp), hk0 hn u fl ?_⟩
      refine NetAt.shut (me := me) (mm := mm) ?_
      rw [pgM_put]
      have h3 := hO.drop.drop.drop
      have h4 := Ow.at 2 rfl h3
      exact h4.tail fun _ h => h.swap
    · intro _ _ h; exact h.elim

theorem hit_iff {es : List Elem} {ms : AMs} (hI : AInv es ms) {x : Int × AMemo} (hx : x ∈ ms) {e : Elem} (he : e ∈ es) : (getK AT.ck AT.key (AT.key e) x.2.l).isSome = meetsC x.2.c e := by
  rw [hI.has x hx]
  cases hm : meetsC x.2.c e with
  | true =>
    have : getK AT.ck AT.key (AT.key e) (es.filter (meetsC x.2.c)) = some e := (getK_iff AT.hc (UpK.filter hI.ues _)).2 ⟨List.mem_filter.2 ⟨he, hm⟩, rfl⟩
    rw [this]; rfl
  | false =>
    have : getK AT.ck AT.key (AT.key e) (es.filter (meetsC x.2.c)) = none := (getK_none AT.hc).2 fun y hy ey => by
      have hy' := List.mem_filter.1 hy
      have := UpK.inj cmpI_ok hI.ues hy'.1 he ey
      rw [this, hm] at hy'; cases hy'.2
    rw [this]; rfl

theorem cADrop {L : List Asn} {μ : Mem} {n : Nat} {es : List Elem} {ms : AMs} (hO : Ow (NetAt n es ms :: L) μ) (hI : AInv es ms) (t : Int) {K : PV → Mem → Prop}
    (hk0 : getK cmpI tagE t es = none → ∀ μ', Ow (NetAt n es ms :: L) μ' → K (.tup [.list 1 .nil [], pI 4]) μ')
    (hk1 : ∀ e, getK cmpI tagE t es = some e → ∀ μ' fl, Ow (NetAt n (delK cmpI tagE t es) (ms.map (dropE t)) :: L) μ' → K (.tup [.list 1 fl ((hitsM e ms).map intRow), pI 0]) μ') : CallP Tryz.prog 17 [pP n 0, pI t] μ K := by
  obtain ⟨me, mm, h⟩ := NetAt.open_ hO
  have hlm := hI.lm
  have hle := hI.le
  refine G_alpha_Net_Drop.c ⟨_, h.rd 0 rfl (by simp), AE.cMDrop (Ow.at 1 rfl h) hI.ue (by simp; omega) t (fun y u1 hy h1 => ?_) (fun u1 hy h1 => ?_)⟩
  · rw [getE] at hy
    obtain ⟨e, he, rfl⟩ := Option.map_eq_some_iff.1 hy
    obtain ⟨hem, het⟩ := (getK_iff cmpI_ok hI.ues).1 he
    have het : e.tag = t := het
    refine ⟨_, _, _, _, _, _, _, _, _, _, _, _, _, rfl, fun b6 hb6 => (h1.new 36 z12 hb6).st 0 rfl (by simp) fun u2 h2 => CIf.f rfl fun b8 hb8 => ?_⟩
    have e1 : delK AE.ck AE.key (AE.key (t, AE.z)) (es.map pgE) = (delK cmpI tagE t es).map pgE := delK_map
    rw [e1] at h2
    have h3 := h2.new 47 [.list 1 .nil []] hb8
    refine ⟨_, h3.rd 3 rfl (by simp), (AM.cMAll mm).call ⟨_, _, _, rfl, ?_⟩⟩
    have hml : ((ms.map pgM).map fun x => [AM.argK x.1, AM.argV x.2]).length = ms.length := by simp
    refine RangeP.own (AM.seqMAll mm (ms.map pgM) (by simp; omega)) (Ow.at 4 rfl h3)
      (fun k u => ∃ fl, Ow (Pt b8 47 [.list 1 fl ((hitsM e (ms.take k)).map intRow)] :: Tip fl (hitsM e (ms.take k)).length 1 :: Pt b6 36 e.pv :: AM.MAt mm (ms.map pgM) :: AE.MAt me ((delK cmpI tagE t es).map pgE) :: Pt n 67 [pP me 0, pP mm 0] :: (((ms.take k).map (dropE t) ++ ms.drop k).map setM ++ L)) u)
      (fun _ _ => False) (fun k => UpC.ex fun _ => UpC.own _) (fun _ _ _ _ h => h.elim) (fun μ' h' => ⟨.nil, ?_⟩) ?_ ?_ ?_
    · have h4 : Ow (Pt b8 47 [.list 1 .nil []] :: Pt b6 36 e.pv :: AM.MAt mm (ms.map pgM) :: AE.MAt me ((delK cmpI tagE t es).map pgE) :: Pt n 67 [pP me 0, pP mm 0] :: (ms.map setM ++ L)) μ' := by
        refine h'.swap.tail fun _ h => ?_
        exact h.swap
      refine h4.tail fun _ h => Ow.nil ?_ (.inl rfl)
      simpa using h
    · rintro k hk u R ⟨fl, hO⟩ hnone _
      have hk' : k < ms.length := by simpa using hk
      have hxm : ms[k] ∈ ms := List.getElem_mem hk'
      have hul := hI.ul hxm
      have hht := hitsM_take (e := e) hk'
      have hlt := hitsM_len e (ms.take k)
      rw [List.length_take] at hlt
      have hhit := hit_iff hI hxm hem
      rw [List.getElem_map, List.getElem_map]
      rw [turned hk'] at hO
      have hO2 := Ow.pick (P := [Pt b8 47 [.list 1 fl ((hitsM e (ms.take k)).map intRow)], Tip fl (hitsM e (ms.take k)).length 1, Pt b6 36 e.pv, AM.MAt mm (ms.map pgM), AE.MAt me ((delK cmpI tagE t es).map pgE), Pt n 67 [pP me 0, pP mm 0]]) hO
      have hs : setM (dropE t ms[k]) = AT.At ms[k].2.b (delK AT.ck AT.key (AT.key e) ms[k].2.l) := by
        have : AT.key e = t := het
        rw [this]; rfl
      refine ⟨_, _, _, _, _, _, _, _, _, _, _, _, _, rfl, _, _, _, _, _, _, _, _, _, _, _, _, hO.rd 2 rfl (by simp), AT.cDrop (l := ms[k].2.l) hO2 hul.1 (by omega) e fun u3 h3 => ⟨_, rfl, ?_⟩⟩
      rw [hhit]
      refine CIf.mk (fun hm => ⟨_, _, h3.rd 1 rfl (by simp), ?_⟩) (fun hm => ?_)
      · have h4 := (Ow.at 2 rfl h3)
        refine Ow.app h4 (by simp) (by simp; omega) (by simp; omega) fun f' u4 h5 => ?_
        refine h5.st 2 rfl (by simp) fun u6 h6 => hnone _ ⟨f', ?_⟩
        rw [turned1 hk', hs, hht, if_pos hm, List.map_append, List.length_append]
        refine Ow.unpick (P := [Pt b8 47 [.list 1 f' ((hitsM e (ms.take k)).map intRow ++ [ms[k].1].map intRow)], Tip f' ((hitsM e (ms.take k)).length + [ms[k].1].length) 1, Pt b6 36 e.pv, AM.MAt mm (ms.map pgM), AE.MAt me ((delK cmpI tagE t es).map pgE), Pt n 67 [pP me 0, pP mm 0]]) ?_
        have h7 : Ow (Tip f' ((hitsM e (ms.take k)).length + 1) 1 :: AT.At ms[k].2.b (delK AT.ck AT.key (AT.key e) ms[k].2.l) :: Pt b8 47 [.list 1 f' ((hitsM e (ms.take k)).map intRow ++ [[pI ms[k].1]])] :: Pt b6 36 e.pv :: AM.MAt mm (ms.map pgM) :: AE.MAt me ((delK cmpI tagE t es).map pgE) :: Pt n 67 [pP me 0, pP mm 0] :: ((((ms.take k).map (dropE t)).map setM ++ (ms.drop (k + 1)).map setM) ++ L)) u6 := h6
        exact h7.swap.tail fun _ h => h.swap
      · refine hnone _ ⟨fl, ?_⟩
        rw [turned1 hk', hs, hht, if_neg (by simp [hm]), List.append_nil]
        exact Ow.unpick (P := [Pt b8 47 [.list 1 fl ((hitsM e (ms.take k)).map intRow)], Tip fl (hitsM e (ms.take k)).length 1, Pt b6 36 e.pv, AM.MAt mm (ms.map pgM), AE.MAt me ((delK cmpI tagE t es).map pgE), Pt n 67 [pP me 0, pP mm 0]]) h3
    · rintro u ⟨fl, hO⟩
      rw [hml, List.take_length, List.drop_length, List.append_nil] at hO
      refine ⟨_, _, hO.rd 0 rfl (by simp), hk1 e he u fl ?_⟩
      refine NetAt.shut (me := me) (mm := mm) ?_
      rw [pgM_drop]
      have h4 := Ow.at 2 rfl hO.drop.drop.drop
      exact h4.tail fun _ h => h.swap
    · intro _ _ h; exact h.elim
  · rw [getE] at hy
    refine ⟨_, _, _, _, _, _, _, _, _, _, _, _, _, rfl, fun b6 hb6 => (h1.new 36 z12 hb6).st 0 rfl (by simp) fun u2 h2 => CIf.t rfl (hk0 (map_none hy) u2 (NetAt.shut (Ow.swap h2.drop)))⟩

@[reducible] def inF (n : Nat) (k : Int) : PV := .fn (.func 72) [] [.fptr [pP n 0] 0, .fptr [pI k] 0]
theorem cIn (n : Nat) (k : Int) : Pure Tryz.prog 47 [pP n 0, pI k] (inF n k) := PureK.of (G_alpha_Net_In.c rfl)
def inL (k : Int) (ms : AMs) : List Elem := ((getK cmpI numM k ms).map fun x => x.2.l).getD []

theorem seqIn (n : Nat) (k : Int) {es : List Elem} {ms : AMs} (hI : AInv es ms) : SeqO Tryz.prog (inF n k) ((inL k ms).map fun e => [.agg e.pv]) (NetAt n es ms) (NetAt n es ms) := by
  refine SeqO.mk fun fy ya yb I S C μ hy hO h0 hstep => ?_
  show CallP _ _ [.fn fy ya yb, .fptr [pP n 0] 0, .fptr [pI k] 0] _ _
  obtain ⟨me, mm, h⟩ := NetAt.open_ hO
  have hlm := hI.lm
  refine G_alpha_Net_In_1.c fun b3 hb3 => ?_
  have O1 := h.new 138 [.fn fy ya yb] hb3
  refine ⟨fun s u => ∃ b4, s.1 = some ⟨b4, 0, none⟩ ∧ ((∃ x, getK cmpI numM k ms = some x ∧ s.2 = true ∧ Ow (Pt b4 65 (cc x.2.c ++ [pI x.2.users, pP x.2.b 0]) :: AM.MAt mm (ms.map pgM) :: Pt b3 138 [.fn fy ya yb] :: Pt n 67 [pP me 0, pP mm 0] :: AE.MAt me (es.map pgE) :: (ms.map setM ++ [C])) u) ∨ (getK cmpI numM k ms = none ∧ s.2 = false ∧ Ow (AM.MAt mm (ms.map pgM) :: Pt b3 138 [.fn fy ya yb] :: Pt n 67 [pP me 0, pP mm 0] :: AE.MAt me (es.map pgE) :: (ms.map setM ++ [C])) u)), ⟨_, rfl, _, O1.rd 1 rfl (by simp), _, rfl, ?_, fun b4 hb4 => ?_⟩, ?_⟩
  · refine AM.cMGet (Ow.at 3 rfl O1) hI.um (by simp; omega) k (fun y μ' hy h' => ?_) (fun μ' hy h' => ?_)
    · rw [getM] at hy
      obtain ⟨x, hx, rfl⟩ := Option.map_eq_some_iff.1 hy
      exact ⟨_, _, _, _, _, _, _, _, _, _, _, _, _, rfl, fun b4 hb4 => (h'.new 65 _ hb4).st 0 rfl (by simp) fun u2 h2 => ⟨b4, rfl, .inl ⟨x, hx, rfl, h2⟩⟩⟩
    · rw [getM] at hy
      exact ⟨_, _, _, _, _, _, _, _, _, _, _, _, _, rfl, fun b4 hb4 => (h'.new 65 _ hb4).st 0 rfl (by simp) fun u2 h2 => ⟨b4, rfl, .inr ⟨map_none hy, rfl, h2.drop⟩⟩⟩
  · have O2 := O1.new 65 [pI 0, pB false, pS ⟨#[]⟩, .list 6 .nil [], .list 6 .nil [], pB false, .list 7 .nil [], pI 0, .raw (.pointer none)] hb4
    refine AM.cMGet (Ow.at 4 rfl O2) hI.um (by simp; omega) k (fun y μ' hy h' => ?_) (fun μ' hy h' => ?_)
    · rw [getM] at hy
      obtain ⟨x, hx, rfl⟩ := Option.map_eq_some_iff.1 hy
      exact ⟨_, _, _, _, _, _, _, _, _, _, _, _, _, rfl, h'.st 1 rfl (by simp) fun u2 h2 => ⟨b4, rfl, .inl ⟨x, hx, rfl, Ow.swap h2⟩⟩⟩
    · rw [getM] at hy
      exact ⟨_, _, _, _, _, _, _, _, _, _, _, _, _, rfl, h'.st 1 rfl (by simp) fun u2 h2 => ⟨b4, rfl, .inr ⟨map_none hy, rfl, (Ow.swap h2).drop⟩⟩⟩
  · rintro ⟨_, q⟩ u ⟨b4, rfl, ⟨x, hx, rfl, hO⟩ | ⟨hx, rfl, hO⟩⟩
    · obtain ⟨hxm, hxk⟩ := (getK_iff cmpI_ok hI.ums).1 hx
      have hul := hI.ul hxm
      have hin : inL k ms = x.2.l := by unfold inL; rw [hx]; rfl
      rw [hin] at hstep ⊢
      refine CIf.f rfl ⟨_, hO.rd 0 rfl (by simp), (AT.cAll x.2.b).call ⟨_, _, _, rfl, ?_⟩⟩
      obtain ⟨A, B, eAB, _, _⟩ := hI.ums.at_ cmpI_ok hxm
      have e2 : ms.map setM = A.map setM ++ setM x :: B.map setM := by conv => lhs; rw [eAB]
                                                                       simp
      have hO1 := hO.drop
      rw [e2] at hO1
      have hO2 := Ow.pick (P := [AM.MAt mm (ms.map pgM), Pt b3 138 [.fn fy ya yb], Pt n 67 [pP me 0, pP mm 0], AE.MAt me (es.map pgE)]) hO1
      refine RangeP.own (AT.seqAll x.2.b x.2.l (by omega)) hO2 (fun i => Ow [Pt b3 138 [.fn fy ya yb], I i]) (fun cd u => cd = .ret ∧ Ow [S] u) (fun i => UpC.own _) (fun cd => UpC.and (UpC.own _)) (fun μ' h' => ?_) ?_ ?_ ?_
      · have h3 := Ow.unpick (P := [AM.MAt mm (ms.map pgM), Pt b3 138 [.fn fy ya yb], Pt n 67 [pP me 0, pP mm 0], AE.MAt me (es.map pgE)]) h'
        have h4 : Ow (Pt b3 138 [.fn fy ya yb] :: (AM.MAt mm (ms.map pgM) :: Pt n 67 [pP me 0, pP mm 0] :: AE.MAt me (es.map pgE) :: (ms.map setM ++ [C]))) μ' := by
          rw [e2]; exact Ow.swap h3
        exact h4.tail fun ν hν => h0 ν (net_mm hν)
      · rintro i hi u1 R hO hnone hsome
        have hi' : i < x.2.l.length := by simpa using hi
        have hst := hstep i (by simpa using hi')
        rw [List.getElem_map] at hst ⊢
        refine ⟨_, _, _, _, _, _, _, _, _, _, _, _, rfl, _, _, _, hO.rd 0 rfl (by simp), Ow.callV hO.swap (fun ν hν => hst ν hν) fun v μ' hO' => ?_⟩
        rcases hO'.split2 with ⟨rfl, h⟩ | ⟨rfl, h⟩
        · exact ⟨true, rfl, CIf.f rfl (hnone _ h.swap)⟩
        · exact ⟨false, rfl, CIf.t rfl (hsome _ _ ⟨rfl, h.swap.drop⟩)⟩
      · intro u1 hO
        rw [List.length_map] at hO
        exact .inl (by rw [List.length_map]; exact hO.drop)
      · rintro cd u1 ⟨rfl, h⟩
        exact .inr h
    · have hin : inL k ms = [] := by unfold inL; rw [hx]; rfl
      rw [hin]
      refine CIf.t rfl (.inl (h0 u (net_mm (Ow.swap hO).drop)))

end Go.Proofs.YtdiimonfmdbclaaGreat

/-
  The laws of chapter 12: the document's example, lists of elements.
-/
namespace Go.Proofs.YtdiimonfmdbclaaGreat
open Go.Eng Go.RowKit
set_option linter.unusedVariables false
set_option linter.unusedSimpArgs false
set_option linter.unnecessarySimpa false

theorem cW9 (t : ByteArray) : Pure Tryz.prog 24 [pS t] (.agg [pI 3, pS t, pI 0]) := PureK.of (G_ponderlaw09_W.c rfl)
theorem cN9 (n : Int) : Pure Tryz.prog 25 [pI n] (.agg [pI 2, pS ⟨#[]⟩, pI n]) := PureK.of (G_ponderlaw09_N.c rfl)

def wC (id : ByteArray) : Cond := .mk 1 false id [⟨1, ⟨#[]⟩, ⟨3, ⟨#[120]⟩, 0⟩, []⟩] [⟨1, ⟨#[]⟩, ⟨2, ⟨#[]⟩, 5⟩, []⟩] false []
theorem wC_light (id : ByteArray) (h : id.size ≤ 100) : lightC (wC id) := by
  refine (lightC_eq _).2 ⟨h, by show 1 ≤ 10; omega, by show 1 ≤ 10; omega, ?_, ?_, trivial⟩
  · intro t ht; simp [wC, Cond.attr] at ht; subst ht; exact ⟨by decide, by decide, by decide⟩
  · intro t ht; simp [wC, Cond.value] at ht; subst ht; exact ⟨by decide, by decide, by decide⟩
theorem wC_bare (a b : ByteArray) : bareC (wC a) = bareC (wC b) := rfl

theorem ins_nil (x : Int × AMemo) : insK cmpI numM x [] = [x] := rfl
theorem ins_same (k : Int) (m m' : AMemo) : insK cmpI numM (k, m') [(k, m)] = [(k, m')] := by simp [insK, ltK, gtK, cmpI, numM]

theorem cWakes12 : Pure Tryz.prog 6 [] (pB true) := by
  refine PureK.of (G_ponderlaw12_wakes.c (cANew (L := []) trivial fun u n h => ⟨_, rfl, CIf.f rfl ((cW9 _).call ⟨_, _, _, rfl, (cN9 _).call ⟨_, _, _, rfl, ?_⟩⟩)⟩))
  refine cAWant h AInv.nil (by decide) (by simp) (wC ⟨#[97]⟩) (wC_light _ (by decide)) (fun x hx => by cases hx) fun _ u1 b h1 => ⟨_, rfl, ?_⟩
  rw [ins_nil] at h1
  have hI : AInv [] [(least [], ⟨bareC (wC ⟨#[97]⟩), 1, b, [].filter (meetsC (bareC (wC ⟨#[97]⟩)))⟩)] := (AInv.nil.new (bare_bare (wC_light ⟨#[97]⟩ (by decide))) (by simp) b (by decide)).2
  refine cAWant h1 hI (by simp) (by simp) (wC ⟨#[98]⟩) (wC_light _ (by decide)) (fun x hx ec u2 h2 => ⟨_, rfl, ?_⟩) (fun hno => absurd rfl (hno _ (List.mem_singleton.2 rfl)))
  have hx : x = (0, ⟨bareC (wC ⟨#[97]⟩), 1, b, []⟩) := by simpa [least] using hx
  subst hx
  have hI2 : AInv [] (insK cmpI numM (0, ⟨bareC (wC ⟨#[97]⟩), 1 + 1, b, []⟩) [(least [], ⟨bareC (wC ⟨#[97]⟩), 1, b, [].filter (meetsC (bareC (wC ⟨#[97]⟩)))⟩)]) := hI.upd (x := (least [], ⟨bareC (wC ⟨#[97]⟩), 1, b, [].filter (meetsC (bareC (wC ⟨#[97]⟩)))⟩)) (by simp) rfl rfl rfl ⟨by show (1 : Int) ≤ 1 + 1; decide, by show (1 : Int) + 1 < 1000000; decide⟩
  refine CIf.t rfl (CIf.t rfl (cALen h2 ⟨_, rfl, CIf.t ?_ (cAUsers h2 hI2 0 fun u3 h3 => ⟨_, rfl, ?_⟩)⟩))
  · have : insK cmpI numM ((0 : Int), (⟨bareC (wC ⟨#[97]⟩), 1 + 1, b, []⟩ : AMemo)) [(least [], ⟨bareC (wC ⟨#[97]⟩), 1, b, [].filter (meetsC (bareC (wC ⟨#[97]⟩)))⟩)] = [(0, ⟨bareC (wC ⟨#[97]⟩), 1 + 1, b, []⟩)] := ins_same 0 _ _
    show ((((insK cmpI numM ((0 : Int), (⟨bareC (wC ⟨#[97]⟩), 1 + 1, b, []⟩ : AMemo)) [(least [], ⟨bareC (wC ⟨#[97]⟩), 1, b, [].filter (meetsC (bareC (wC ⟨#[97]⟩)))⟩)]).length : Nat) : Int) == 1) = true
    rw [this]; rfl
  · have : insK cmpI numM ((0 : Int), (⟨bareC (wC ⟨#[97]⟩), 1 + 1, b, []⟩ : AMemo)) [(least [], ⟨bareC (wC ⟨#[97]⟩), 1, b, [].filter (meetsC (bareC (wC ⟨#[97]⟩)))⟩)] = [(0, ⟨bareC (wC ⟨#[97]⟩), 1 + 1, b, []⟩)] := ins_same 0 _ _
    show wk (pB ((((getK cmpI numM 0 (insK cmpI numM ((0 : Int), (⟨bareC (wC ⟨#[97]⟩), 1 + 1, b, []⟩ : AMemo)) [(least [], ⟨bareC (wC ⟨#[97]⟩), 1, b, [].filter (meetsC (bareC (wC ⟨#[97]⟩)))⟩)])).map fun x => x.2.users).getD 0) == 2)) = pB true
    rw [this]; rfl

theorem rowsCC (l : List Cond) : l.map Cond.pv = l.map cc := List.map_congr_left fun c _ => Cond.pv_eq c

theorem cSizeCC (f : Fl) (l : List Cond) (most : Nat) (hm : most ≤ 1000) : PureK Tryz.prog 21 [.list 7 f (l.map cc), pI (most : Nat), pI 0] fun p => ∃ r : Nat, p = pI (r : Nat) ∧ r ≤ most + 1 ∧ (r ≤ most → sizeL l = r) := by
  have := cKSize _ f l most 0 (Nat.le_refl _) hm (by omega)
  rw [rowsCC] at this; exact this
theorem cHeavyCC (f : Fl) (l : List Cond) (hs : sizeL l ≤ 1000000) : PureK Tryz.prog 22 [.list 7 f (l.map cc)] fun p => ∃ q : Bool, p = pB q ∧ (q = false → lightL l) := by
  have := cHeavyConds _ f l (Nat.le_refl _) hs
  rw [rowsCC] at this; exact this

theorem cListE {fn : Fn} {a b : List PV} {A : Asn} {es : List Elem} (hs : SeqO Tryz.prog (.fn fn a b) (es.map fun e => [.agg e.pv]) A A) (hl : es.length ≤ 1000000) {L : List Asn} {μ : Mem} (hO : Ow (A :: L) μ) {K : PV → Mem → Prop} (hk : ∀ μ' fl, Ow (A :: L) μ' → K (.list 12 fl (es.map Elem.pv)) μ') : CallP Tryz.prog 46 [.fn fn a b] μ K := by
  refine G_ponderkeep_List_api_Elem.c fun b3 hb3 => ?_
  have O1 := (hO.new 28 [.list 12 .nil []] hb3).swap
  refine RangeP.own hs O1 (fun k u => ∃ f, Ow (Pt b3 28 [.list 12 f ((es.take k).map Elem.pv)] :: Tip f k 12 :: A :: L) u) (fun _ _ => False) (fun k => UpC.ex fun _ => UpC.own _) (fun _ _ _ _ h => h.elim) (fun μ' h => ⟨.nil, h.swap.tail fun _ h => Ow.nil h (.inl rfl)⟩) ?_ ?_ ?_
  · rintro k hk u R ⟨f, hO⟩ hnone _
    have hk' : k < es.length := by simpa using hk
    rw [List.getElem_map]
    refine ⟨_, _, _, _, _, _, _, _, _, _, _, _, rfl, _, _, hO.rd 0 rfl (by simp), Ow.app hO.swap (by simp; omega) (by simp; omega) (by simp; omega) fun f' u' hO' => ?_⟩
    refine hO'.st 1 rfl (by simp) fun u2 hO2 => hnone _ ⟨f', ?_⟩
    rw [mapTake hk']
    exact Ow.swap hO2
  · rintro u ⟨f, hO⟩
    refine ⟨_, _, hO.rd 0 rfl (by simp), ?_⟩
    rw [List.length_map, List.take_length] at hO ⊢
    exact hk u f hO.drop.drop
  · intro c u h; exact h.elim

end Go.Proofs.YtdiimonfmdbclaaGreat

/-
  Functions that only look: memory that is read, whoever owns it.
-/
namespace Go.Eng
open Go.RowKit
set_option linter.unusedVariables false
set_option linter.unusedSimpArgs false
set_option linter.unnecessarySimpa false

/-- These cells can be read. -/
def RdAt (b : Nat) (cs : List PV) (μ : Mem) : Prop := ∃ T, μ b = some (.cells T cs) ∨ μ b = some (.ro T cs)
theorem RdAt.rd {b : Nat} {cs : List PV} {μ : Mem} (h : RdAt b cs μ) {o n : Nat} (hl : o + n ≤ cs.length) : rdM μ b o n = some ((cs.drop o).take n) := by
  obtain ⟨T, h | h⟩ := h
  · exact rdM_at h hl
  · exact rdM_ro h hl
theorem RdAt.row {b sz s : Nat} {R : List (List PV)} {rest r : List PV} {μ : Mem} (h : RdAt b (R.flatten ++ rest) μ) (hR : ∀ r ∈ R, r.length = sz) (hs : R[s]? = some r) : rdM μ b (s * sz) sz = some r := by
  obtain ⟨T, h | h⟩ := h
  · exact rdRow hR h hs
  · have := rdRow (μ := M0.set b (some (.cells T (R.flatten ++ rest)))) hR (Mem.set_same _ _ _) hs
    simp only [rdM, Mem.set_same] at this
    simp only [rdM, h]; exact this
theorem RdAt.some_ {b : Nat} {cs : List PV} {μ : Mem} (h : RdAt b cs μ) : μ b ≠ none := by
  obtain ⟨T, h | h⟩ := h <;> rw [h] <;> simp

/-- Nothing that was there turned. -/
def Grows (μ μ' : Mem) : Prop := ∀ b, μ b ≠ none → μ' b = μ b
theorem Grows.refl (μ : Mem) : Grows μ μ := fun _ _ => rfl
theorem Grows.trans {a b c : Mem} (h : Grows a b) (k : Grows b c) : Grows a c := fun x hx => by
  have e := h x hx
  rw [k x (by rw [e]; exact hx), e]
theorem Grows.new {μ : Mem} {b : Nat} (hb : μ b = none) (o : Option Ob) : Grows μ (μ.set b o) := fun x hx => Mem.set_ne _ _ (by rintro rfl; exact hx hb)
theorem Grows.upd {μ u : Mem} {b : Nat} (h : Grows μ u) (hb : μ b = none) (o : Option Ob) : Grows μ (u.set b o) := fun x hx => by
  rw [Mem.set_ne _ _ (by rintro rfl; exact hx hb)]; exact h x hx
theorem RdAt.grows {b : Nat} {cs : List PV} {μ μ' : Mem} (h : RdAt b cs μ) (hg : Grows μ μ') : RdAt b cs μ' := by
  obtain ⟨T, h⟩ := h
  refine ⟨T, ?_⟩
  rw [hg b (by rcases h with h | h <;> rw [h] <;> simp)]; exact h

/-- The same memory, not to be written. -/
def roM (μ : Mem) : Mem := fun b => match μ b with | some (.cells T cs) => some (.ro T cs) | some (.ro T cs) => some (.ro T cs) | _ => none
theorem roM_rd {μ : Mem} {b : Nat} {T : TypeId} {cs : List PV} (h : μ b = some (.cells T cs)) : RdAt b cs (roM μ) := ⟨T, .inr (by simp [roM, h])⟩

/-- What only looks may come up at any time. -/
theorem CallQ.ofRo {P : Program} {g : FuncId} {args : List PV} {μ : Mem} {K : PV → Mem → Prop} {Kq : PV → Prop} (h : CallP P g args (roM μ) fun p μ' => Grows (roM μ) μ' ∧ Kq p) (hk : ∀ p, Kq p → K p M0) : CallQ P g args μ K := fun Z u vs hg hw ha => by
  have hro : ∀ b o, roM μ b = some o → (o.rw = true → False) ∧ ObOk Z u b o ∧ Z b = none := fun b o ho => by
    unfold roM at ho
    split at ho
    · rename_i T cs hb
      cases ho
      obtain ⟨_, hz, hA⟩ := hg.mem b _ hb
      exact ⟨fun h => (by cases h), ⟨hz, hA⟩, hz⟩
    · rename_i T cs hb
      cases ho
      obtain ⟨_, hz, hA⟩ := hg.mem b _ hb
      exact ⟨fun h => (by cases h), ⟨hz, hA⟩, hz⟩
    · cases ho
  obtain ⟨hc, hcall⟩ := h Z ⟨u.toWorld, fun _ => False⟩ vs ⟨hg.zok, fun b o e => ⟨fun hr => (hro b o e).1 hr, by
    have := (hro b o e).2.1
    cases o with
    | cells T cs => exact this
    | tip n m => exact this
    | obj o F S => exact this
    | ro T cs => exact this⟩⟩ (fun _ h => h.elim) ha
  refine ⟨hc, hcall.mono' fun v lo w' _ _ hp => ?_⟩
  obtain ⟨Z', μ', p, e, g', hr, hgr, hK⟩ := hp
  refine ⟨Z', M0, p, ⟨e.le, fun b C hC _ => e.zs b C hC ?_, fun b hb => ?_, fun b hb => absurd rfl hb, e.lt⟩, ⟨g'.zok, fun b o h => by cases h⟩, hr, hk p hK⟩
  · cases hx : roM μ b with
    | none => rfl
    | some o => rw [(hro b o hx).2.2] at hC; cases hC
  · rcases e.zn b hb with h1 | h1 | h1
    · exact .inl h1
    · exfalso
      have hm := hgr b h1
      cases hx : roM μ b with
      | none => exact h1 hx
      | some o =>
        rw [hx] at hm
        have h2 := (g'.mem b o hm).2
        have h3 := (hro b o hx)
        unfold roM at hx
        split at hx
        · cases hx; exact hb h2.1
        · cases hx; exact hb h2.1
        · cases hx
    · exact .inr (.inr h1)

/-- A set that can be read. -/
def SetRd (sz b : Nat) (rows : List (List PV)) (μ : Mem) : Prop :=
  (∃ fl s, RdAt b [.list sz fl rows, pB s] μ) ∨ (rows = [] ∧ RdAt b [.raw (.slice none 0 0), pB false] μ) ∨
  ∃ b' c rest, RdAt b [.raw (.slice (some ⟨b', 0, none⟩) rows.length c), pB false] μ ∧ RdAt b' (rows.flatten ++ rest) μ
theorem SetRd.grows {sz b : Nat} {rows : List (List PV)} {μ μ' : Mem} (h : SetRd sz b rows μ) (hg : Grows μ μ') : SetRd sz b rows μ' := by
  rcases h with ⟨fl, s, h⟩ | ⟨e, h⟩ | ⟨b', c, rest, h1, h2⟩
  · exact .inl ⟨fl, s, h.grows hg⟩
  · exact .inr (.inl ⟨e, h.grows hg⟩)
  · exact .inr (.inr ⟨b', c, rest, h1.grows hg, h2.grows hg⟩)
theorem SetIn.ro {Ts e : TypeId} {sz : Nat} {μ : Mem} {b : Nat} {rows : List (List PV)} {F : List Nat} (h : SetIn Ts e sz μ b rows F) : SetRd sz b rows (roM μ) := by
  rcases h.lies with ⟨_, hm⟩ | ⟨_, rfl, hm⟩ | ⟨_, rfl, hm⟩ | ⟨b', c, rest, _, _, h1, h2, _⟩
  · exact .inl ⟨_, _, roM_rd hm⟩
  · exact .inl ⟨_, _, roM_rd hm⟩
  · exact .inr (.inl ⟨rfl, roM_rd hm⟩)
  · exact .inr (.inr ⟨b', c, rest, roM_rd h1, roM_rd h2⟩)
theorem SetAt.ro {Ts e : TypeId} {sz b : Nat} {rows : List (List PV)} {L : List Asn} {μ : Mem} (hO : Ow (SetAt Ts e sz b rows :: L) μ) : SetRd sz b rows (roM μ) := by
  obtain ⟨F, h, _⟩ := SetAt.split hO
  exact h.ro

/-! ### rows of a slice of one's own -/
theorem take_part {X : List PV} {sz o m : Nat} (h : o + m ≤ sz) : (X.drop o).take m = ((X.take sz).drop o).take m := by
  rw [List.drop_take, List.take_take, Nat.min_eq_left (by omega)]

theorem rdPart {cs r : List PV} {A sz o m : Nat} (hr : (cs.drop A).take sz = r) (h : o + m ≤ sz) : (cs.drop (A + o)).take m = (r.drop o).take m := by
  rw [← hr, ← take_part h, List.drop_drop]

theorem wrPart {cs r vs : List PV} {A sz o : Nat} (hA : A + sz ≤ cs.length) (hr : (cs.drop A).take sz = r) (h : o + vs.length ≤ sz) : wrL cs (A + o) vs = wrL cs A (wrL r o vs) := by
  have hrl : r.length = sz := by rw [← hr, List.length_take, List.length_drop]; omega
  unfold wrL
  have e1 : cs.take (A + o) = cs.take A ++ r.take o := by
    rw [List.take_add, ← hr, List.take_take, Nat.min_eq_left (by omega)]
  have e2 : cs.drop (A + o + vs.length) = r.drop (o + vs.length) ++ cs.drop (A + sz) := by
    have : cs.drop (A + o + vs.length) = (cs.drop A).drop (o + vs.length) := by rw [List.drop_drop]; congr 1; omega
    rw [this]
    have h2 : cs.drop A = r ++ cs.drop (A + sz) := by
      rw [← hr, ← List.drop_drop, List.take_append_drop]
    conv => lhs; rw [h2]
    rw [List.drop_append_of_le_length (by omega)]
  have e3 : (r.take o ++ vs ++ r.drop (o + vs.length)).length = sz := by
    simp only [List.length_append, List.length_take, List.length_drop]; omega
  rw [e1, e2, e3]
  simp

theorem Vec.at_ {e : TypeId} {sz n c : Nat} {a : Option Addr} {rows : List (List PV)} {L : List Asn} {μ : Mem} (i : Nat) (hO : Ow L μ) (hi : L[i]? = some (Vec e sz (.raw (.slice a n c)) rows)) (hr : ∀ r ∈ rows, r.length = sz) {j : Nat} (hj : j < rows.length) :
    ∃ b, a = some ⟨b, 0, none⟩ ∧ (∀ o m, o + m ≤ sz → rdM μ b (0 + j * sz + o) m = some ((rows[j].drop o).take m)) ∧
      ∀ (o : Nat) (vs : List PV) (K : Mem → Prop), o + vs.length ≤ sz → (∀ μ', Ow (L.set i (Vec e sz (.raw (.slice a n c)) (rows.set j (wrL rows[j] o vs)))) μ' → K μ') → stM b (0 + j * sz + o) vs μ K := by
  have hO1 := Ow.at i hi hO
  obtain ⟨F, hv, μ1, μ2, hs, e0, hF, hL⟩ := Vec.split hO1
  rcases hv with ⟨_, rfl, _⟩ | ⟨b, c', rest, hp, rfl, hm, hlen, hc⟩
  · simp at hj
  · simp only [PV.raw.injEq, Value.slice.injEq] at hp
    obtain ⟨rfl, rfl, rfl⟩ := hp
    have hfl : rows.flatten.length = rows.length * sz := flatLen hr
    have hle : j * sz + sz ≤ rows.length * sz := by rw [← Nat.succ_mul]; exact Nat.mul_le_mul_right _ hj
    have hrow : ((rows.flatten ++ rest).drop (j * sz)).take sz = rows[j] := by
      have := rdRow (s := j) hr hm (List.getElem?_eq_getElem hj)
      simp only [rdM, hm] at this
      split at this
      · simpa using this
      · cases this
    refine ⟨b, rfl, fun o m h => ?_, fun o vs K h hK => ?_⟩
    · have : rdM μ b (0 + j * sz + o) m = some (((rows.flatten ++ rest).drop (0 + j * sz + o)).take m) := by
        simp only [rdM, hm]
        rw [if_pos (by rw [List.length_append, hfl]; omega)]
      rw [this, Nat.zero_add, rdPart hrow h]
    · have hrl : rows[j].length = sz := hr _ (List.getElem_mem hj)
      have hwl : (wrL rows[j] o vs).length = sz := by
        unfold wrL
        simp only [List.length_append, List.length_take, List.length_drop]; omega
      refine ⟨_, _, hm, by rw [List.length_append, hfl]; omega, hK _ (Ow.back i (lt_of_get hi) ?_)⟩
      rw [Nat.zero_add, wrPart (by rw [List.length_append, hfl]; omega) hrow h, wrRow hr hj hwl]
      refine Ow.mv (A := fun _ => True) (F := [b]) (F' := [b]) ⟨μ1, μ2, hs, e0, hF, hL⟩ ((Mv.set (.inl (by simp))).sub (by simp)) fun ν hν => ⟨[b], .inr ⟨b, c, rest, by simp, rfl, ?_, by simpa using hlen, by simpa using hc⟩⟩
      rw [hν b (by simp), Mem.set_same]

theorem Vec.len {e : TypeId} {sz n c : Nat} {a : Option Addr} {rows : List (List PV)} {L : List Asn} {μ : Mem} (i : Nat) (hO : Ow L μ) (hi : L[i]? = some (Vec e sz (.raw (.slice a n c)) rows)) : n = rows.length := by
  obtain ⟨F, hv, _⟩ := Vec.split (Ow.at i hi hO)
  rcases hv with ⟨hp, rfl, _⟩ | ⟨b, c', rest, hp, _⟩
  · simp only [PV.raw.injEq, Value.slice.injEq] at hp; simp [hp.2.1]
  · simp only [PV.raw.injEq, Value.slice.injEq] at hp; exact hp.2.1

end Go.Eng

/-
  AM, read only.
-/
namespace Go.Proofs.YtdiimonfmdbclaaGreat
open Go.Eng Go.RowKit
set_option linter.unusedVariables false
set_option linter.unusedSimpArgs false
set_option linter.unnecessarySimpa false
namespace AM
theorem cFindR {μ : Mem} {b : Nat} {l : List El} (h : SetRd 10 b (l.map pv) μ) (hu : UpK ck key l) (hl : l.length ≤ 4000000000000000000) (x : El) {K : PV → Mem → Prop} (hk : ∀ (k : Nat) (t : Bool), FoundAt ck (l.map key) (key x) k t → K (.tup [pI k, pB t]) μ) : CallP Tryz.prog 78 [pP b 0, arg x] μ K := by
  have huu := hu.up
  have hll : (l.map key).length = l.length := by simp
  have m1 : ∀ i j, i < j → j < l.length → (if h : j < l.length then ck (key l[j]) (key x) else 1) ≤ 0 → (if h : i < l.length then ck (key l[i]) (key x) else 1) < 0 := by
    intro i j hij hj h
    rw [dif_pos hj] at h
    rw [dif_pos (Nat.lt_trans hij hj)]
    have := huu.mono1 hc (x := key x) hij (by simpa using hj) (by simpa using h)
    simpa using this
  have m2 : ∀ i j, i < j → j < l.length → 0 ≤ (if h : i < l.length then ck (key l[i]) (key x) else 1) → 0 < (if h : j < l.length then ck (key l[j]) (key x) else 1) := by
    intro i j hij hj h
    rw [dif_pos (Nat.lt_trans hij hj)] at h
    rw [dif_pos hj]
    have := huu.mono2 hc (x := key x) hij (by simpa using hj) (by simpa using h)
    simpa using this
  have hit : ∀ mid (hmn : mid < l.length), (ck (key l[mid]) (key x) = 0 → ∀ i, i < mid → (if h : i < l.length then ck (key l[i]) (key x) else 1) < 0) → ck (key l[mid]) (key x) = 0 → K (.tup [pI mid, pB true]) μ := fun mid hmn h3 h0 =>
    hk mid true ⟨by rw [hll]; omega, fun i hi hik => by
      have := h3 h0 i hik
      rw [dif_pos (by rw [hll] at hi; exact hi)] at this
      rw [List.getElem_map]; exact this, fun _ => ⟨by rw [hll]; exact hmn, by rw [List.getElem_map]; exact (hc.zero _ _).1 h0⟩, fun h => by cases h⟩
  have miss : ∀ k, k ≤ l.length → (∀ i, i < k → (if h : i < l.length then ck (key l[i]) (key x) else 1) < 0) → (∀ i, k ≤ i → i < l.length → 0 < (if h : i < l.length then ck (key l[i]) (key x) else 1)) → K (.tup [pI k, pB false]) μ := fun k hkl h1 h2 =>
    hk k false ⟨by rw [hll]; exact hkl, fun i hi hik => by
      have := h1 i hik; rw [hll] at hi; rw [dif_pos hi] at this; rw [List.getElem_map]; exact this, fun h => (by cases h), fun _ i hi hik => by
      rw [hll] at hi; have := h2 i hik hi; rw [dif_pos hi] at this; rw [List.getElem_map]; exact this⟩
  have raw : ∀ (a : Option Addr) (c : Nat), RdAt b [.raw (.slice a l.length c), pB false] μ → (∀ mid (hm : mid < l.length), ∃ b', a = some ⟨b', 0, none⟩ ∧ rdM μ b' (mid * 10) 10 = some (pv l[mid])) → CallP Tryz.prog 78 [pP b 0, arg x] μ K := fun a c hb hrow => by
    refine G_order_Set_book_page_alpha_number_alpha_memory_find_r.c ?_
    refine ⟨_, _, _, hb.rd (by simp), ?_⟩
    refine LoopI.bin (n := l.length) (by omega) (fun i => if h : i < l.length then ck (key l[i]) (key x) else 1) (fun u => u = μ) rfl m1 m2 ?_ ?_
    · intro lo hi mid u next hlt hhi hmid hmn hA h1 h2 h3
      subst hA
      rw [dif_pos hmn] at h1 h2 h3
      refine CIf.t (by simpa using hlt) ⟨by decide, ?_⟩
      obtain ⟨b', rfl, hrd⟩ := hrow mid hmn
      refine ⟨_, _, _, hb.rd (by simp), ?_⟩
      dsimp only
      rw [midE hlt (by omega), ← hmid]
      refine ⟨by omega, by omega, _, _, _, _, _, _, _, _, _, _, _, _, _, by rw [Int.toNat_natCast, Nat.zero_add]; exact hrd, fun v => by kernel_rfl, (cCmp l[mid] x).call ⟨_, rfl, CIf.mk (fun h => ?_) (fun h => CIf.mk (fun h' => ?_) (fun h' => ?_))⟩⟩
      · exact hit mid hmn h3 (by simpa using h)
      · have h0 : ck (key l[mid]) (key x) < 0 := by simpa using h'
        have := h1 h0 _ rfl
        rw [wrap_id (by omega) (by omega)]
        exact this
      · have h0 : 0 < ck (key l[mid]) (key x) := by
          have a1 : ck (key l[mid]) (key x) ≠ 0 := by simpa using h
          have a2 : ¬ ck (key l[mid]) (key x) < 0 := by simpa using h'
          omega
        exact h2 h0 _ rfl
    · intro k u next hA hk' h1 h2
      subst hA
      exact CIf.f (by simp) (miss k hk' h1 h2)
  rcases h with ⟨fl, s, hb⟩ | ⟨he, hb⟩ | ⟨b', c, rest, hb, hb'⟩
  · refine G_order_Set_book_page_alpha_number_alpha_memory_find.c ?_
    refine ⟨_, _, hb.rd (by simp), ?_⟩
    rw [List.length_map]
    refine LoopI.bin (n := l.length) (by omega) (fun i => if h : i < l.length then ck (key l[i]) (key x) else 1) (fun u => u = μ) rfl m1 m2 ?_ ?_
    · intro lo hi mid u next hlt hhi hmid hmn hA h1 h2 h3
      subst hA
      rw [dif_pos hmn] at h1 h2 h3
      refine CIf.t (by simpa using hlt) ⟨by decide, ?_⟩
      refine ⟨_, _, hb.rd (by simp), ?_⟩
      dsimp only
      rw [midE hlt (by omega), ← hmid]
      refine ⟨by omega, _, row hmn, _, _, _, _, _, _, _, _, _, _, _, _, _, rfl, fun v => by kernel_rfl, (cCmp l[mid] x).call ⟨_, rfl, CIf.mk (fun h => ?_) (fun h => CIf.mk (fun h' => ?_) (fun h' => ?_))⟩⟩
      · exact hit mid hmn h3 (by simpa using h)
      · have h0 : ck (key l[mid]) (key x) < 0 := by simpa using h'
        have := h1 h0 _ rfl
        rw [wrap_id (by omega) (by omega)]
        exact this
      · have h0 : 0 < ck (key l[mid]) (key x) := by
          have a1 : ck (key l[mid]) (key x) ≠ 0 := by simpa using h
          have a2 : ¬ ck (key l[mid]) (key x) < 0 := by simpa using h'
          omega
        exact h2 h0 _ rfl
    · intro k u next hA hk' h1 h2
      subst hA
      exact CIf.f (by simp) (miss k hk' h1 h2)
  · have hl0 : l = [] := by simpa using he
    subst hl0
    exact raw none 0 hb fun mid hm => by simp at hm
  · rw [List.length_map] at hb
    exact raw _ c hb fun mid hm => ⟨b', rfl, hb'.row (each l) (by rw [List.getElem?_map, List.getElem?_eq_getElem hm]; rfl)⟩

theorem cGetR {μ : Mem} {b : Nat} {l : List El} (h : SetRd 10 b (l.map pv) μ) (hu : UpK ck key l) (hl : l.length ≤ 4000000000000000000) (x : El) {K : PV → Mem → Prop} (h1 : ∀ y, getK ck key (key x) l = some y → K (.tup [arg y, pB true]) μ) (h0 : getK ck key (key x) l = none → K (.tup [zero, pB false]) μ) : CallP Tryz.prog 58 [pP b 0, arg x] μ K := by
  have key1 : ∀ k, FoundAt ck (l.map key) (key x) k true → ∃ hk : k < l.length, K (.tup [arg l[k], pB true]) μ := fun k hf => by
    obtain ⟨hk, e⟩ := hf.some hc hu
    exact ⟨hk, h1 _ e⟩
  rcases h with ⟨fl, s, hb⟩ | ⟨he, hb⟩ | ⟨b', c, rest, hb, hb'⟩
  · refine G_order_Set_book_page_alpha_number_alpha_memory_Get.c (CIf.f rfl (cFindR (.inl ⟨fl, s, hb⟩) hu hl x fun k t hf => ⟨_, _, rfl, CIf.mk (fun ht => ?_) (fun ht => ?_)⟩))
    · have ht : t = false := by simpa using ht
      subst ht; exact h0 (hf.none hc)
    · have ht : t = true := by simpa using ht
      subst ht
      obtain ⟨hk, hK⟩ := key1 k hf
      exact ⟨_, _, hb.rd (by simp), by omega, _, row hk, _, _, _, _, _, _, _, _, _, _, _, _, _, rfl, hK⟩
  · have hl0 : l = [] := by simpa using he
    subst hl0
    refine G_order_Set_book_page_alpha_number_alpha_memory_Get.c (CIf.f rfl (cFindR (.inr (.inl ⟨rfl, hb⟩)) hu hl x fun k t hf => ⟨_, _, rfl, CIf.mk (fun ht => ?_) (fun ht => ?_)⟩))
    · have ht : t = false := by simpa using ht
      subst ht; exact h0 (hf.none hc)
    · have ht : t = true := by simpa using ht
      subst ht
      obtain ⟨hk, hK⟩ := key1 k hf
      simp at hk
  · refine G_order_Set_book_page_alpha_number_alpha_memory_Get_r.c (CIf.f rfl (cFindR (.inr (.inr ⟨b', c, rest, hb, hb'⟩)) hu hl x fun k t hf => ⟨_, _, rfl, CIf.mk (fun ht => ?_) (fun ht => ?_)⟩))
    · have ht : t = false := by simpa using ht
      subst ht; exact h0 (hf.none hc)
    · have ht : t = true := by simpa using ht
      subst ht
      obtain ⟨hk, hK⟩ := key1 k hf
      refine ⟨_, _, _, hb.rd (by simp), by omega, by simpa using hk, _, _, _, _, _, _, _, _, _, _, _, _, _, ?_, hK⟩
      rw [Int.toNat_natCast, Nat.zero_add]
      exact hb'.row (each l) (by rw [List.getElem?_map, List.getElem?_eq_getElem hk]; rfl)

/-- A map that can be read. -/
def MRd (m : Nat) (l : List El) (μ : Mem) : Prop := ∃ s, RdAt m [pP s 0] μ ∧ SetRd 10 s (l.map pv) μ
theorem MAt.ro {m : Nat} {l : List El} {L : List Asn} {μ : Mem} (hO : Ow (MAt m l :: L) μ) : MRd m l (roM μ) := by
  obtain ⟨s, h⟩ := MAt.open_ hO
  exact ⟨s, roM_rd (h.get 0 rfl), SetAt.ro h.swap⟩

theorem cMGetR {μ : Mem} {m : Nat} {l : List El} (h : MRd m l μ) (hu : UpK ck key l) (hl : l.length ≤ 4000000000000000000) (k : KY) {K : PV → Mem → Prop} (h1 : ∀ y μ', getK ck key (key (k, z)) l = some y → Grows μ μ' → K (.tup [argV y.2, pB true]) μ') (h0 : ∀ μ', getK ck key (key (k, z)) l = none → Grows μ μ' → K (.tup [zeroV, pB false]) μ') : CallP Tryz.prog 38 [pP m 0, argK k] μ K := by
  obtain ⟨s, hm, hs⟩ := h
  refine G_book_Map_alpha_number_alpha_memory_Get.c (CIf.f rfl ⟨fun r u => ∃ b7, r.1 = some ⟨b7, 0, none⟩ ∧ Grows μ u ∧ ((∃ y, getK ck key (key (k, z)) l = some y ∧ r.2 = true ∧ RdAt b7 (pv y) u) ∨ (getK ck key (key (k, z)) l = none ∧ r.2 = false ∧ RdAt b7 zc u)), ?_, ?_⟩)
  · have fin1 : ∀ {u : Mem} {b7 : Nat} {y : El} {K' : Mem → Prop}, Grows μ u → μ b7 = none → u b7 = some (.cells 111 zc) → (∀ u', Grows μ u' → RdAt b7 (pv y) u' → K' u') → stM b7 0 (pv y) u K' := fun {u b7 y K'} hg hb hu hk' => ⟨_, _, hu, by simp, hk' _ (hg.upd hb _) ⟨_, .inl (Mem.set_same _ _ _)⟩⟩
    have fin0 : ∀ {u : Mem} {b7 : Nat} {K' : Mem → Prop}, Grows μ u → μ b7 = none → u b7 = some (.cells 111 zc) → (∀ u', Grows μ u' → RdAt b7 zc u' → K' u') → stM b7 0 zc u K' := fun {u b7 K'} hg hb hu hk' => ⟨_, _, hu, by simp, hk' _ (hg.upd hb _) ⟨_, .inl (Mem.set_same _ _ _)⟩⟩
    refine ⟨_, hm.rd (by simp), (cAt k).q ⟨_, _, _, _, _, _, _, _, _, _, _, _, _, rfl, ?_⟩, fun b7 hb7 => (cAt k).q ⟨_, _, _, _, _, _, _, _, _, _, _, _, _, rfl, ?_⟩⟩
    · rw [Mem.or_M0]
      refine ⟨cGetR hs hu hl (k, z) (fun y hy => ⟨_, _, _, _, _, _, _, _, _, _, _, _, _, _, rfl, fun b7 hb7 => ?_⟩) (fun hy => ⟨_, _, _, _, _, _, _, _, _, _, _, _, _, _, rfl, fun b7 hb7 => ?_⟩), fun b7 hb7 => ?_⟩
      · exact fin1 (y := y) (Grows.new hb7 _) hb7 (Mem.set_same _ _ _) fun u' g r => ⟨b7, rfl, g, .inl ⟨y, hy, rfl, r⟩⟩
      · exact fin0 (Grows.new hb7 _) hb7 (Mem.set_same _ _ _) fun u' g r => ⟨b7, rfl, g, .inr ⟨hy, rfl, r⟩⟩
      · refine cGetR (hs.grows (Grows.new hb7 _)) hu hl (k, z) (fun y hy => ⟨_, _, _, _, _, _, _, _, _, _, _, _, _, _, rfl, ?_⟩) (fun hy => ⟨_, _, _, _, _, _, _, _, _, _, _, _, _, _, rfl, ?_⟩)
        · exact fin1 (y := y) (Grows.new hb7 _) hb7 (Mem.set_same _ _ _) fun u' g r => ⟨b7, rfl, g, .inl ⟨y, hy, rfl, r⟩⟩
        · exact fin0 (Grows.new hb7 _) hb7 (Mem.set_same _ _ _) fun u' g r => ⟨b7, rfl, g, .inr ⟨hy, rfl, r⟩⟩
    · rw [Mem.or_M0]
      refine cGetR (hs.grows (Grows.new hb7 _)) hu hl (k, z) (fun y hy => ⟨_, _, _, _, _, _, _, _, _, _, _, _, _, _, rfl, ?_⟩) (fun hy => ⟨_, _, _, _, _, _, _, _, _, _, _, _, _, _, rfl, ?_⟩)
      · exact fin1 (y := y) (Grows.new hb7 _) hb7 (Mem.set_same _ _ _) fun u' g r => ⟨b7, rfl, g, .inl ⟨y, hy, rfl, r⟩⟩
      · exact fin0 (Grows.new hb7 _) hb7 (Mem.set_same _ _ _) fun u' g r => ⟨b7, rfl, g, .inr ⟨hy, rfl, r⟩⟩
  · rintro ⟨_, t⟩ u ⟨b7, rfl, hg, ⟨y, hy, rfl, hr⟩ | ⟨hy, rfl, hr⟩⟩
    · exact ⟨_, _, _, _, _, _, _, _, _, _, _, _, hr.rd (by simp), h1 y _ hy hg⟩
    · exact ⟨_, _, _, _, _, _, _, _, _, _, _, _, hr.rd (by simp), h0 _ hy hg⟩

end AM
end Go.Proofs.YtdiimonfmdbclaaGreat

/-
  Tests: the document's own.
-/
namespace Go.Proofs.YtdiimonfmdbclaaGreat
open Go.Eng Go.RowKit
set_option linter.unusedVariables false
set_option linter.unusedSimpArgs false
set_option linter.unnecessarySimpa false

theorem cRHolds (rel : Int) (a b : Sym) : Pure Tryz.prog 95 [pI rel, .agg a.pv, .agg b.pv] (pB (holds rel a b)) := by
  refine PureK.of (G_ponderref09_Holds.c ?_)
  refine ⟨fun s u => s = (a.k == 2 && b.k == 2), ?_, ?_⟩
  · exact CIf.mk (fun h => by simp [h]) (fun h => by simp [h])
  · rintro s u rfl
    repeat' (refine CIf.mk (fun h => ?_) (fun h => ?_))
    all_goals simp_all [holds, symEq, wk, wk1]

theorem cRGet (fl : Fl) (l : List Eng.Bind) (hn : l.length ≤ 1000000) (v : ByteArray) : Pure Tryz.prog 93 [.list 4 fl (l.map Bind.pv), pS v] (getP (getB l v)) := by
  refine PureK.of (G_ponderref09_Get.c ?_)
  refine LoopI.each (n := l.length) (by omega) (fun k u => getB (l.take k) v = none) (by simp [getB]) ?_ ?_
  · intro k u next hk hg hnext
    refine CIf.t (by simpa using hk) ⟨by omega, _, atRow hk, _, rfl, CIf.mk (fun he => ⟨by omega, _, atRow hk, _, _, _, rfl, ?_⟩) (fun he => ?_)⟩
    · rw [getB_hit hk hg he]; rfl
    · exact hnext _ (by rw [getB_take hk hg, he]; rfl)
  · intro u next hg
    refine CIf.f (by simp) ?_
    rw [List.take_length] at hg
    rw [hg]; rfl

theorem appQ {fl : Fl} {new : List (List PV)} {μ : Mem} {size bytes : Nat} {K : Fl → Mem → Prop} (h : fl = .nil) (hb : new.length * bytes ≤ 140737488355328) (h62 : new.length < 4611686018427387904) (hK : ∀ fl' μ', Ow [Tip fl' new.length size] μ' → K fl' μ') : appL true size bytes fl [] new μ K := by
  subst h
  refine appL.go1 (h := trivial) (by simpa using hb) (by simpa using h62) (fun fl' μ' h1 => hK fl' μ' (Ow.one ?_))
  simpa [Tip] using h1

theorem cRMore (fl : Fl) (l : List Eng.Bind) (hn : l.length ≤ 1000000) (v : ByteArray) (s : Sym) : Pure Tryz.prog 94 [.list 4 fl (l.map Bind.pv), pS v, .agg s.pv] (.list 4 .sh ((l ++ [(⟨v, s⟩ : Eng.Bind)]).map Bind.pv)) := by
  refine PureK.of (G_ponderref09_more.c ?_)
  have go : appL true 4 48 .nil [] (l.map Bind.pv) M0 fun f8 u => appL false 4 48 f8 ([] ++ l.map Bind.pv) [[pS v, pI s.k, pS s.t, pI s.n]] u fun f13 u_1 => wk (.list 4 f13 (([] ++ l.map Bind.pv) ++ [[pS v, pI s.k, pS s.t, pI s.n]])) = .list 4 .sh ((l ++ [(⟨v, s⟩ : Eng.Bind)]).map Bind.pv) :=
    appQ rfl (by simp; omega) (by simp; omega) fun f8 u hO => Ow.app hO (by simp) (by simp; omega) (by simp; omega) fun f13 u1 _ => by simp [wk, wk1]
  exact ⟨go, go⟩

theorem cROne (fl fl2 : Fl) (t : Test) (s : Sym) (l : List Eng.Bind) (hn : l.length ≤ 1000000) (ht : t.list.length ≤ 1000000) : PureK Tryz.prog 87 [.agg [pI t.rel, pS t.var, pI t.sym.k, pS t.sym.t, pI t.sym.n, .list 3 fl2 (t.list.map Sym.pv)], .agg s.pv, .list 4 fl (l.map Bind.pv)] (AnsQ (met t s l)) := by
  refine PureK.of (G_ponderref09_One.c ?_)
  have no : met t s l = none → AnsQ (met t s l) (wk (.tup [.list 4 .nil [], pB false])) := fun h => ⟨[], by rw [h]; rfl, fun l' e => by rw [h] at e; cases e⟩
  have yes : met t s l = some l → AnsQ (met t s l) (wk (.tup [.list 4 fl (l.map Bind.pv), pB true])) := fun h => ⟨l, by rw [h]; rfl, fun l' e => by rw [h] at e; cases e; rfl⟩
  refine CIf.mk (fun h8 => ?_) (fun h8 => ?_)
  · have h8 : t.rel = 8 := by simpa using h8
    have hm : met t s l = if t.list.any (fun x => symEq x s) = true then some l else none := by rw [met, if_pos h8]
    refine LoopI.each (n := t.list.length) (by omega) (fun k u => (t.list.take k).any (fun x => symEq x s) = false) (by simp) ?_ ?_
    · intro k u next hk hg hnext
      refine CIf.t (by simpa using hk) ⟨by omega, _, atRow hk, _, _, _, rfl, CIf.mk (fun he => ?_) (fun he => ?_)⟩
      · exact yes (by rw [hm, anyHit (p := fun x => symEq x s) hk he]; rfl)
      · exact hnext _ (by rw [any_take hk hg]; exact he)
    · intro u next hg
      rw [List.take_length] at hg
      exact CIf.f (by simp) (no (by rw [hm, hg]; rfl))
  · have h8 : t.rel ≠ 8 := by simpa using h8
    refine CIf.mk (fun h1 => ?_) (fun h1 => CIf.mk (fun h7 => ?_) (fun h7 => ?_))
    · have h1 : t.rel < 1 := by simpa using h1
      exact no (by rw [met, if_neg h8, if_pos (.inl h1)])
    · have h7 : t.rel > 7 := by simpa using h7
      exact no (by rw [met, if_neg h8, if_pos (.inr h7)])
    · have h17 : ¬ (t.rel < 1 ∨ t.rel > 7) := by simp at h1 h7; omega
      refine ⟨fun x u => (t.var = ⟨#[]⟩ ∧ (⟨x.1, x.2.1, x.2.2⟩ : Sym) = t.sym) ∨ (t.var ≠ ⟨#[]⟩ ∧ getB l t.var = some ⟨x.1, x.2.1, x.2.2⟩), ?_, ?_⟩
      · refine CIf.mk (fun hv => ?_) (fun hv => .inl ⟨strEq_iff.1 (by simpa using hv), rfl⟩)
        have hv : t.var ≠ ⟨#[]⟩ := strEq_false.1 (by simpa using hv)
        refine (cRGet fl l hn t.var).call ?_
        cases hg : getB l t.var with
        | some x => exact ⟨_, _, _, _, rfl, CIf.f rfl (.inr ⟨hv, rfl⟩)⟩
        | none =>
          refine ⟨_, _, _, _, rfl, CIf.t rfl (CIf.mk (fun hr => ?_) (fun hr => ?_))⟩
          · have hr : t.rel ≠ 1 := by simpa using hr
            exact no (by rw [met, if_neg h8, if_neg h17, if_neg hv, hg]; exact if_neg hr)
          · have hr : t.rel = 1 := by simpa using hr
            have hm : met t s l = some (l ++ [⟨t.var, s⟩]) := by rw [met, if_neg h8, if_neg h17, if_neg hv, hg]; exact if_pos hr
            refine (cRMore fl l hn t.var s).call ⟨_, _, rfl, ?_⟩
            exact ⟨_, by rw [hm]; rfl, fun l' e => by rw [hm] at e; cases e; rfl⟩
      · rintro ⟨x1, x2, x3⟩ u hx
        have hm : met t s l = if holds t.rel s ⟨x1, x2, x3⟩ = true then some l else none := by
          rw [met, if_neg h8, if_neg h17]
          rcases hx with ⟨hv, e⟩ | ⟨hv, e⟩
          · rw [if_pos hv, ← e]
          · rw [if_neg hv, e]
        refine (cRHolds t.rel s ⟨x1, x2, x3⟩).call ⟨_, rfl, CIf.mk (fun h => ?_) (fun h => ?_)⟩
        · exact no (by rw [hm, if_neg (by simpa using h)])
        · exact yes (by rw [hm, if_pos (by simpa using h)])

theorem cRTests9 (fl fl' : Fl) (ts : List Test) (s : Sym) (l : List Eng.Bind) (hn : l.length + ts.length ≤ 1000000) (ht : ∀ t ∈ ts, t.list.length ≤ 1000000) : PureK Tryz.prog 88 [.list 6 fl (ts.map Test.pv), .agg s.pv, .list 4 fl' (l.map Bind.pv)] (AnsQ (allT ts s l)) := by
  refine PureK.of (G_ponderref09_tests.c ?_)
  refine LoopI.each2 (n := ts.length) (by omega) (fun k x u => ∃ lk : List Eng.Bind, x.2 = lk.map Bind.pv ∧ allT (ts.take k) s l = some lk ∧ lk.length ≤ l.length + k) ⟨l, rfl, rfl, Nat.le_refl _⟩ ?_ ?_
  · rintro k ⟨f, _⟩ u next hk ⟨lk, rfl, hlk, hlen⟩ hnext
    have hta := allT_take hk hlk
    refine CIf.t (by simpa using hk) ⟨by omega, _, atRow hk, _, _, _, _, _, _, _, rfl, ?_⟩
    refine PureK.call (cROne f .sh ts[k] s lk (by omega) (ht _ (List.getElem_mem hk))) fun p hp => ?_
    obtain ⟨l2, rfl, h2⟩ := hp
    refine ⟨_, _, _, rfl, CIf.mk (fun h => ?_) (fun h => ?_)⟩
    · have hno : met ts[k] s lk = none := by
        cases hm : met ts[k] s lk with
        | none => rfl
        | some r => rw [hm] at h; simp at h
      have : allT ts s l = none := allT_fail (k + 1) (by rw [hta, hno])
      exact ⟨[], by rw [this]; rfl, fun l' e => by rw [this] at e; cases e⟩
    · cases hm : met ts[k] s lk with
      | none => rw [hm] at h; simp at h
      | some r =>
        have e := h2 r hm
        subst e
        have := met_len hm
        exact hnext _ _ ⟨l2, rfl, by rw [hta, hm], by omega⟩
  · rintro ⟨f, _⟩ u next ⟨lk, rfl, hlk, _⟩
    rw [List.take_length] at hlk
    exact CIf.f (by simp) ⟨lk, by rw [hlk]; rfl, fun l' e => by rw [hlk] at e; cases e; rfl⟩

theorem cRCond9 (fa fv fc fl : Fl) (c : Cond) (e : Elem) (l : List Eng.Bind) (hn : l.length + 1 + c.attr.length + c.value.length ≤ 1000000) (ha : ∀ t ∈ c.attr, t.list.length ≤ 1000000) (hv : ∀ t ∈ c.value, t.list.length ≤ 1000000) :
    PureK Tryz.prog 71 [.agg [pI c.kind, pB c.goal, pS c.id, .list 6 fa (c.attr.map Test.pv), .list 6 fv (c.value.map Test.pv), pB c.acc, .list 7 fc (c.conds.map Cond.pv)], .agg e.pv, .list 4 fl (l.map Bind.pv)] (AnsQ (condS c e l)) := by
  refine PureK.of (G_ponderref09_Cond.c ?_)
  have no : condS c e l = none → AnsQ (condS c e l) (wk (.tup [.list 4 .nil [], pB false])) := fun h => ⟨[], by rw [h]; rfl, fun l' e' => by rw [h] at e'; cases e'⟩
  refine ⟨fun _ u => (c.kind = 1 ∨ c.kind = 2) ∧ (c.goal = true → e.goal = true) ∧ c.acc = e.acc, ?_, ?_⟩
  · have rest : (c.kind = 1 ∨ c.kind = 2) → ∀ u : Mem, CIf c.goal
        (CIf (!e.goal) (AnsQ (condS c e l) (wk (.tup [.list 4 .nil [], pB false]))) (CIf (!(c.acc == e.acc)) (AnsQ (condS c e l) (wk (.tup [.list 4 .nil [], pB false]))) ((c.kind = 1 ∨ c.kind = 2) ∧ (c.goal = true → e.goal = true) ∧ c.acc = e.acc)))
        (CIf (!(c.acc == e.acc)) (AnsQ (condS c e l) (wk (.tup [.list 4 .nil [], pB false]))) ((c.kind = 1 ∨ c.kind = 2) ∧ (c.goal = true → e.goal = true) ∧ c.acc = e.acc)) := fun hk u => by
      refine CIf.mk (fun g => CIf.mk (fun g2 => no ?_) (fun g2 => CIf.mk (fun g3 => no ?_) (fun g3 => ⟨hk, fun _ => by simpa using g2, by simpa using g3⟩))) (fun g => CIf.mk (fun g3 => no ?_) (fun g3 => ⟨hk, (fun h => by rw [g] at h; cases h), by simpa using g3⟩))
      · rw [condS, if_neg]; rintro ⟨_, h, _⟩; simp [h g] at g2
      · rw [condS, if_neg]; rintro ⟨_, _, h⟩; simp [h] at g3
      · rw [condS, if_neg]; rintro ⟨_, _, h⟩; simp [h] at g3
    refine CIf.mk (fun k1 => CIf.mk (fun k2 => no ?_) (fun k2 => rest (.inr (by simpa using k2)) M0)) (fun k1 => rest (.inl (by simpa using k1)) M0)
    rw [condS, if_neg]; rintro ⟨h | h, _⟩
    · rw [h] at k1; simp at k1
    · rw [h] at k2; simp at k2
  · rintro _ u hc
    have hcs : condS c e l = (met (idTest c.id) e.id l).bind fun l1 => (allT c.attr e.attr l1).bind fun l2 => allT c.value e.value l2 := if_pos hc
    refine PureK.call (cROne fl .sh (idTest c.id) e.id l (by omega) (by simp)) fun p hp => ?_
    obtain ⟨l1, rfl, h1⟩ := hp
    refine ⟨_, _, _, rfl, CIf.mk (fun h => no ?_) (fun h => ?_)⟩
    · cases hm : met (idTest c.id) e.id l with
      | none => rw [hcs, hm]; rfl
      | some r => rw [hm] at h; simp at h
    · cases hm : met (idTest c.id) e.id l with
      | none => rw [hm] at h; simp at h
      | some r1 =>
        have e1 := h1 r1 hm
        subst e1
        have hl1 := met_len hm
        refine PureK.call (cRTests9 fa .sh c.attr e.attr l1 (by omega) ha) fun p hp => ?_
        obtain ⟨l2, rfl, h2⟩ := hp
        refine ⟨_, _, _, rfl, CIf.mk (fun h => no ?_) (fun h => ?_)⟩
        · cases hm2 : allT c.attr e.attr l1 with
          | none => rw [hcs, hm]; show (allT c.attr e.attr l1).bind _ = none; rw [hm2]; rfl
          | some r => rw [hm2] at h; simp at h
        · cases hm2 : allT c.attr e.attr l1 with
          | none => rw [hm2] at h; simp at h
          | some r2 =>
            have e2 := h2 r2 hm2
            subst e2
            have hl2 := allT_len hm2
            have hfin : condS c e l = allT c.value e.value l2 := by rw [hcs, hm]; show (allT c.attr e.attr l1).bind _ = _; rw [hm2]; rfl
            refine PureK.call (cRTests9 fv .sh c.value e.value l2 (by omega) hv) fun p hp => ?_
            obtain ⟨l3, rfl, h3⟩ := hp
            exact ⟨_, _, _, rfl, l3, by rw [hfin]; rfl, fun l' e' => h3 l' (by rw [← hfin]; exact e')⟩

end Go.Proofs.YtdiimonfmdbclaaGreat

/-
  Elements by themselves: what the document's own says.
-/
namespace Go.Proofs.YtdiimonfmdbclaaGreat
open Go.Eng Go.RowKit
set_option linter.unusedVariables false
set_option linter.unusedSimpArgs false
set_option linter.unnecessarySimpa false

theorem cAUsersQ {L : List Asn} {μ : Mem} {n : Nat} {es : List Elem} {ms : AMs} (hO : Ow (NetAt n es ms :: L) μ) (hI : AInv es ms) (k : Int) {K : PV → Mem → Prop} (hk : K (pI (((getK cmpI numM k ms).map fun x => x.2.users).getD 0)) M0) : CallQ Tryz.prog 27 [pP n 0, pI k] μ K := by
  obtain ⟨me, mm, h⟩ := NetAt.open_ hO
  have hlm := hI.lm
  have h1 : AM.MRd mm (ms.map pgM) (roM μ) := AM.MAt.ro (Ow.at 2 rfl h)
  have h2 := roM_rd (h.get 0 rfl)
  refine CallQ.ofRo (Kq := fun p => p = pI (((getK cmpI numM k ms).map fun x => x.2.users).getD 0)) (G_alpha_Net_Users.c ⟨_, h2.rd (by simp), AM.cMGetR h1 hI.um (by simp; omega) k (fun y μ' hy hg => ?_) (fun μ' hy hg => ?_)⟩) (fun p e => by rw [e]; exact hk)
  · rw [getM] at hy
    obtain ⟨x, hx, rfl⟩ := Option.map_eq_some_iff.1 hy
    refine ⟨_, _, _, _, _, _, _, _, _, _, _, _, _, rfl, hg, ?_⟩
    rw [hx]; rfl
  · rw [getM] at hy
    refine ⟨_, _, _, _, _, _, _, _, _, _, _, _, _, rfl, hg, ?_⟩
    rw [map_none hy]; rfl

/-! ### the document's own -/
theorem cRbare (f : Fl) (l : List Test) (hl : l.length ≤ 1000) (ht : ∀ t ∈ l, t.list.length ≤ 1000) : Pure Tryz.prog 29 [.list 6 f (l.map Test.pv)] (.list 6 .sh ((stillL l).map Test.pv)) := by
  refine PureK.of (G_ponderref10_bare.c ?_)
  have hb : ∀ k, (stillL (l.take k)).length ≤ 1000 := fun k => by
    have := stillL_len (l.take k)
    have h3 : (l.take k).length ≤ l.length := by rw [List.length_take]; omega
    omega
  refine LoopI.each2 (n := l.length) (by omega) (fun k x u => x.2 = (stillL (l.take k)).map Test.pv ∧ Ow [Tip x.1 (stillL (l.take k)).length 6] u) ⟨rfl, Ow.nil (L := []) trivial (.inl rfl)⟩ ?_ ?_
  · rintro k ⟨fl, _⟩ u next hk ⟨rfl, hO⟩ hnext
    have hft := stillL_take hk
    have hbk := hb k
    have htk := ht _ (List.getElem_mem hk)
    refine CIf.t (by simpa using hk) ⟨by omega, _, atRow hk, _, rfl, CIf.mk (fun hv => ?_) (fun hv => ?_)⟩
    · rw [if_pos hv] at hft
      refine ⟨by omega, _, atRow hk, _, _, _, _, _, _, _, rfl, by omega, _, atRow hk, _, _, rfl, ?_⟩
      refine Ow.app (Ow.nil (n := 0) hO (.inl rfl)) rfl (by simp only [List.length_map]; omega) (by simp only [List.length_map]; omega) fun f1 u1 hO1 => ?_
      refine Ow.app hO1.drop (by simp only [List.length_map]) (by simp only [List.length_singleton]; omega) (by simp only [List.length_singleton]; omega) fun f2 u2 hO2 => hnext _ _ ⟨?_, ?_⟩
      · rw [hft, List.map_append]; rfl
      · rw [hft, List.length_append]; exact hO2
    · rw [if_neg (by simp [hv]), List.append_nil] at hft
      exact hnext _ _ ⟨by rw [hft], by rw [hft]; exact hO⟩
  · rintro ⟨fl, _⟩ u next ⟨rfl, hO⟩
    refine CIf.f (by simp) ?_
    rw [List.take_length]; rfl

theorem cRBare (c : Cond) (fa fv fc : Fl) (hl : lightC c) : Pure Tryz.prog 9 [.agg [pI c.kind, pB c.goal, pS c.id, .list 6 fa (c.attr.map Test.pv), .list 6 fv (c.value.map Test.pv), pB c.acc, .list 7 fc (c.conds.map Cond.pv)]] (.agg (cc (bareC c))) := by
  obtain ⟨_, h1, h2, h3, h4, _⟩ := (lightC_eq c).1 hl
  refine PureK.of (G_ponderref10_Bare.c ?_)
  refine (cRbare _ c.attr (by omega) (light1000 h3)).q ⟨_, _, rfl, (cRbare _ c.value (by omega) (light1000 h4)).q ⟨_, _, rfl, rfl⟩⟩

theorem cRMeets (c : Cond) (e : Elem) (fa fv fc : Fl) (hl : lightC c) : Pure Tryz.prog 42 [.agg [pI c.kind, pB c.goal, pS c.id, .list 6 fa (c.attr.map Test.pv), .list 6 fv (c.value.map Test.pv), pB c.acc, .list 7 fc (c.conds.map Cond.pv)], .agg e.pv] (pB (meetsC c e)) := by
  obtain ⟨_, h1, h2, h3, h4, _⟩ := (lightC_eq c).1 hl
  refine PureK.of (G_ponderref10_Meets.c ?_)
  refine PureK.call (cRCond9 .sh .sh .sh .nil (idX c) e [] (by show 0 + 1 + c.attr.length + c.value.length ≤ 1000000; omega) (lightTs h3) (lightTs h4)) ?_
  rintro _ ⟨l, rfl, _⟩
  exact ⟨_, _, _, rfl, rfl⟩

/-! ### the document's memories -/
@[reducible] def rrow (x : Cond × Int) : List PV := [pI x.1.kind, pB x.1.goal, pS x.1.id, .list 6 .sh (x.1.attr.map Test.pv), .list 6 .sh (x.1.value.map Test.pv), pB x.1.acc, .list 7 .sh (x.1.conds.map Cond.pv), pI x.2]
theorem rrow_len (R : List (Cond × Int)) : ∀ r ∈ R.map rrow, r.length = 8 := rowsLenK (pv := rrow) (fun _ => rfl) R

/-- A bare condition's place among the document's memories. -/
def hasC (c : Cond) (x : Cond × Int) : Prop := 0 < x.2 ∧ x.1 = c
inductive WantR (c : Cond) (R : List (Cond × Int)) : List (Cond × Int) → Nat → Prop where
  | there (i : Nat) (h : i < R.length) (hi : hasC c R[i]) (hf : ∀ (j : Nat) (hj : j < i), ¬ hasC c (R[j]'(by omega))) : WantR c R (R.set i (R[i].1, R[i].2 + 1)) i
  | hole (i : Nat) (h : i < R.length) (hn : ∀ x ∈ R, ¬ hasC c x) (hi : R[i].2 = 0) (hf : ∀ (j : Nat) (hj : j < i), (R[j]'(by omega)).2 ≠ 0) : WantR c R (R.set i (c, 1)) i
  | more (hn : ∀ x ∈ R, ¬ hasC c x) (hi : ∀ x ∈ R, x.2 ≠ 0) : WantR c R (R ++ [(c, 1)]) R.length

theorem cRWant {a : Option Addr} {n cp : Nat} {R : List (Cond × Int)} {L : List Asn} {μ : Mem} (hO : Ow (Vec 45 8 (.raw (.slice a n cp)) (R.map rrow) :: L) μ) (c : Cond) (hR : R.length ≤ 1000) (hl : ∀ x ∈ R, BareC x.1 ∧ 0 ≤ x.2 ∧ x.2 < 1000) {K : PV → Mem → Prop}
    (hk : ∀ a' n' cp' R' k μ', WantR c R R' k → Ow (Vec 45 8 (.raw (.slice a' n' cp')) (R'.map rrow) :: L) μ' → K (.tup [.raw (.slice a' n' cp'), pI (k : Nat)]) μ') : CallP Tryz.prog 8 [.raw (.slice a n cp), .agg (cc c)] μ K := by
  have hn : n = R.length := by have := Vec.len 0 hO rfl; simpa using this
  subst hn
  refine G_ponderlaw12_want.c ?_
  refine LoopI.each (n := R.length) (by omega) (fun k u => (∀ (j : Nat) (hj : j < R.length), j < k → ¬ hasC c R[j]) ∧ Ow (Vec 45 8 (.raw (.slice a R.length cp)) (R.map rrow) :: L) u) ⟨fun j _ h => by omega, hO⟩ ?_ ?_
  · rintro k u next hk' ⟨hno, hO⟩ hnext
    obtain ⟨b, rfl, hrd, hst⟩ := Vec.at_ 0 hO rfl (rrow_len R) (j := k) (by simpa using hk')
    rw [List.getElem_map] at hrd hst
    obtain ⟨hbc, hu0, hu1⟩ := hl _ (List.getElem_mem hk')
    have next1 : ¬ hasC c R[k] → ∀ u, Ow (Vec 45 8 (.raw (.slice (some ⟨b, 0, none⟩) R.length cp)) (R.map rrow) :: L) u → next (IntKind.wrap .i64 ((k : Int) + 1)) u := fun hne u hO => hnext u ⟨fun j hj hjk => by
      by_cases e : j = k
      · subst e; exact hne
      · exact hno j hj (by omega), hO⟩
    refine CIf.t (by simpa using hk') ⟨by omega, by omega, _, hrd 7 1 (by omega), CIf.mk (fun g => ?_) (fun g => next1 (fun h => ?_) u hO)⟩
    · have hg : 0 < R[k].2 := by simpa using g
      refine ⟨by omega, by omega, _, _, _, _, _, _, _, _, _, _, hrd 0 7 (by omega), ?_⟩
      refine (qCond R[k].1 c (by rw [hbc.conds]; simp [sizeL]) hbc.light).call (fun e => ⟨_, rfl, CIf.t rfl ⟨by omega, by omega, _, hrd 7 1 (by omega), by omega, by omega, ?_⟩⟩) (fun hne => ⟨_, rfl, CIf.f rfl (next1 (fun h => hne h.2) u hO)⟩)
      have hw : IntKind.wrap .i64 (R[k].2 + 1) = R[k].2 + 1 := wrap_id (by omega) (by omega)
      rw [hw]
      refine hst 7 _ _ (by simp) fun u2 h2 => hk _ _ _ _ _ _ (.there k hk' ⟨hg, e⟩ fun j hj => hno j (by omega) hj) ?_
      have e2 : (R.map rrow).set k (wrL (rrow R[k]) 7 [pI (R[k].2 + 1)]) = (R.set k (R[k].1, R[k].2 + 1)).map rrow := by rw [List.map_set]; rfl
      have h2' : Ow (Vec 45 8 (.raw (.slice (some ⟨b, 0, none⟩) R.length cp)) ((R.map rrow).set k (wrL (rrow R[k]) 7 [pI (R[k].2 + 1)])) :: L) u2 := h2
      rw [e2] at h2'
      exact h2'
    · have hg : ¬ 0 < R[k].2 := by simpa using g
      exact hg h.1
  · rintro u next ⟨hno, hO⟩
    have hno' : ∀ x ∈ R, ¬ hasC c x := fun x hx => by
      obtain ⟨j, hj, rfl⟩ := List.mem_iff_getElem.1 hx
      exact hno j hj hj
    refine CIf.f (by simp) ?_
    refine LoopI.each (n := R.length) (by omega) (fun k u => (∀ (j : Nat) (hj : j < R.length), j < k → R[j].2 ≠ 0) ∧ Ow (Vec 45 8 (.raw (.slice a R.length cp)) (R.map rrow) :: L) u) ⟨fun j _ h => by omega, hO⟩ ?_ ?_
    · rintro k u next1 hk' ⟨hnz, hO⟩ hnext1
      obtain ⟨b, rfl, hrd, hst⟩ := Vec.at_ 0 hO rfl (rrow_len R) (j := k) (by simpa using hk')
      rw [List.getElem_map] at hrd hst
      refine CIf.t (by simpa using hk') ⟨by omega, by omega, _, hrd 7 1 (by omega), CIf.mk (fun g => ⟨by omega, by omega, ?_⟩) (fun g => hnext1 _ ⟨fun j hj hjk => ?_, hO⟩)⟩
      · have hg : R[k].2 = 0 := by simpa using g
        have := hst 0 (cc c ++ [pI 1]) (fun u' => K (.tup [.raw (.slice (some ⟨b, 0, none⟩) R.length cp), pI (k : Nat)]) u') (by simp) fun u2 h2 => hk _ _ _ _ _ _ (.hole k hk' hno' hg fun j hj => hnz j (by omega) hj) (by
          have e2 : (R.map rrow).set k (wrL (rrow R[k]) 0 (cc c ++ [pI 1])) = (R.set k (c, 1)).map rrow := by rw [List.map_set]; rfl
          have h2' : Ow (Vec 45 8 (.raw (.slice (some ⟨b, 0, none⟩) R.length cp)) ((R.map rrow).set k (wrL (rrow R[k]) 0 (cc c ++ [pI 1]))) :: L) u2 := h2
          rw [e2] at h2'
          exact h2')
        exact this
      · have hg : R[k].2 ≠ 0 := by simpa using g
        by_cases e : j = k
        · subst e; exact hg
        · exact hnz j hj (by omega)
    · rintro u next1 ⟨hnz, hO⟩
      refine CIf.f (by simp) ?_
      obtain ⟨a', c', hp, happ⟩ := Vec.app hO (rrow_len R)
      simp only [PV.raw.injEq, Value.slice.injEq, List.length_map] at hp
      obtain ⟨rfl, _, rfl⟩ := hp
      simp only [List.length_map] at happ
      refine happ (rrow (c, 1)) _ _ rfl rfl (by omega) (by omega) fun b' c2 u2 h2 => hk _ _ _ _ _ _ (.more hno' fun x hx => ?_) ?_
      · obtain ⟨j, hj, rfl⟩ := List.mem_iff_getElem.1 hx
        exact hnz j hj hj
      · rw [List.map_append]; exact h2

end Go.Proofs.YtdiimonfmdbclaaGreat

/-
  The laws of chapter 12: plays. Small functions of the law.
-/
namespace Go.Proofs.YtdiimonfmdbclaaGreat
open Go.Eng Go.RowKit
set_option linter.unusedVariables false
set_option linter.unusedSimpArgs false
set_option linter.unnecessarySimpa false

theorem qInts (f g : Fl) (l m : List Int) (hl : l.length ≤ 1000000000) : Asks 14 [.list 1 f (l.map intRow), .list 1 g (m.map intRow)] (l = m) := by
  refine PureK.of (G_ponderkeep_Ints.c (CIf.mk (fun h => Asks.no (neLen h)) (fun h => ?_)))
  refine eqLoop (l := l) (m := m) (n := l.length) rfl (eqLen h) (by omega) (fun k hk hk' u next hy hno => ?_) (fun u next e => CIf.f (by simp) (Asks.yes e))
  exact CIf.t (by simpa using hk) ⟨by omega, _, atRow hk, _, rfl, by omega, _, atRow hk', _, rfl, CIf.mk (fun h => Asks.no (hno fun e => by rw [e] at h; simp at h)) (fun h => hy (by simpa using h) _)⟩

theorem cTag (f : Fl) (es : List Elem) (t : Int) (hl : es.length ≤ 1000000) : PureK Tryz.prog 13 [.list 12 f (es.map Elem.pv), pI t] fun p => (∃ (k : Nat) (h : k < es.length), p = pI (k : Nat) ∧ es[k].tag = t) ∨ (p = pI (-1) ∧ ∀ e ∈ es, e.tag ≠ t) := by
  refine PureK.of (G_ponderlaw12_tag.c ?_)
  refine LoopI.each (n := es.length) (by omega) (fun k u => ∀ e ∈ es.take k, e.tag ≠ t) (by simp) ?_ ?_
  · intro k u next hk hno hnext
    refine CIf.t (by simpa using hk) ⟨by omega, _, atRow hk, _, rfl, CIf.mk (fun h => .inl ⟨k, hk, rfl, by simpa using h⟩) (fun h => hnext _ fun e he => ?_)⟩
    rw [List.take_add_one, List.getElem?_eq_getElem hk, List.mem_append] at he
    rcases he with he | he
    · exact hno e he
    · simp at he; rw [he]; simpa using h
  · intro u next hno
    rw [List.take_length] at hno
    exact CIf.f (by simp) (.inr ⟨rfl, hno⟩)

/-- One more, by rising tags. -/
theorem cRise (f : Fl) (es : List Elem) (e : Elem) (hl : es.length ≤ 100000) (hu : UpK cmpI tagE es) (hn : ∀ x ∈ es, x.tag ≠ e.tag) : Pure Tryz.prog 16 [.list 12 f (es.map Elem.pv), .agg e.pv] (.list 12 .sh ((insK cmpI tagE e es).map Elem.pv)) := by
  refine PureK.of (G_ponderlaw12_rise.c ?_)
  refine ⟨fun s u => ∃ k : Nat, s = (k : Int) ∧ k ≤ es.length ∧ (∀ (i : Nat) (hi : i < es.length), k ≤ i → e.tag < es[i].tag) ∧ (∀ (i : Nat) (hi : i < es.length), i < k → es[i].tag < e.tag), ?_, ?_⟩
  · rw [List.length_map]
    refine ⟨fun m s u => ∃ k : Nat, s = (k : Int) ∧ k ≤ es.length ∧ m = k ∧ (∀ (i : Nat) (hi : i < es.length), k ≤ i → e.tag < es[i].tag), ⟨es.length, es.length, rfl, Nat.le_refl _, rfl, fun i hi h => by omega⟩, ?_⟩
    rintro m _ u ⟨k, rfl, hk, hm, hhi⟩
    refine CIf.mk (fun h0 => ?_) (fun h0 => ⟨k, rfl, hk, hhi, fun i hi hik => by simp at h0; omega⟩)
    have h0 : 0 < k := by simp at h0; omega
    have hw : IntKind.wrap .i64 ((k : Int) - 1) = ((k - 1 : Nat) : Int) := by rw [wrap_id (by omega) (by omega)]; omega
    rw [hw]
    have hk1 : k - 1 < es.length := by omega
    refine ⟨by omega, _, atRow hk1, _, rfl, CIf.mk (fun hg => ?_) (fun hg => ⟨k, rfl, hk, hhi, fun i hi hik => ?_⟩)⟩
    · have hg : es[k - 1].tag > e.tag := by simpa using hg
      refine ⟨k - 1, by omega, k - 1, rfl, by omega, rfl, fun i hi hik => ?_⟩
      by_cases hi' : i = k - 1
      · subst hi'; exact hg
      · exact hhi i hi (by omega)
    · have hg : ¬ es[k - 1].tag > e.tag := by simpa using hg
      have hne := hn _ (List.getElem_mem hk1)
      by_cases hi' : i = k - 1
      · subst hi'; omega
      · have := cmpI_lt.1 (List.pairwise_iff_getElem.1 hu i (k - 1) hi hk1 (by omega))
        have h2 : es[i].tag < es[k - 1].tag := this
        omega
  · rintro _ u ⟨k, rfl, hk, hhi, hlo⟩
    have e1 : List.drop (Int.toNat (0 : Int)) (List.take (Int.toNat (k : Int)) (es.map Elem.pv)) = (es.take k).map Elem.pv := by simp [List.map_take]
    have e2 : List.drop (Int.toNat (k : Int)) (List.take (Int.toNat (((es.map Elem.pv).length : Nat) : Int)) (es.map Elem.pv)) = (es.drop k).map Elem.pv := by
      rw [Int.toNat_natCast, Int.toNat_natCast, List.take_length, List.map_drop]
    rw [e1, e2]
    refine ⟨by omega, by omega, by simp; omega, ?_⟩
    have l1 : ((es.take k).map Elem.pv).length = k := by rw [List.length_map, List.length_take]; omega
    have l2 : ((es.drop k).map Elem.pv).length = es.length - k := by rw [List.length_map, List.length_drop]
    refine Ow.app (Ow.nil (n := 0) (L := []) trivial (.inl rfl)) rfl (by rw [l1]; omega) (by rw [l1]; omega) fun f1 u1 h1 => ?_
    refine Ow.app h1 (by simp) (by rw [l1]; simp; omega) (by rw [l1]; simp; omega) fun f2 u2 h2 => ⟨by omega, by simp; omega, by omega, ?_⟩
    refine Ow.app h2 (by simp) (by rw [l1, l2]; simp; omega) (by rw [l1, l2]; simp; omega) fun f3 u3 h3 => ?_
    have hins : insK cmpI tagE e es = es.take k ++ e :: es.drop k := by
      unfold insK
      rw [filter_take (k := k) hk (fun i hi hik => by simp only [ltK, decide_eq_true_eq]; exact cmpI_lt.2 (hlo i hi hik)) (fun i hi hik => by
        simp only [ltK, decide_eq_false_iff_not]; intro h; have h' : es[i].tag < e.tag := cmpI_lt.1 h; have := hhi i hi hik; omega), filter_drop (k := k) hk (fun i hi hik => by
        simp only [gtK, decide_eq_false_iff_not]; intro h; have h' := (cmpI_ok.flip _ _).2 h; have h'' : e.tag < es[i].tag := cmpI_lt.1 h'; have := hlo i hi hik; omega) (fun i hi hik => by
        simp only [gtK, decide_eq_true_eq]; exact (cmpI_ok.flip _ _).1 (cmpI_lt.2 (hhi i hi hik)))]
    rw [hins]
    simp [wk, wk1]

/-- The memories of the document that have an element. -/
def hitsR (e : Elem) (R : List (Cond × Int)) (n : Nat) : List Int := ((List.range n).filter fun i => decide (∃ h : i < R.length, 0 < R[i].2 ∧ meetsC R[i].1 e = true)).map Int.ofNat

theorem hitsR_succ (e : Elem) {R : List (Cond × Int)} {k : Nat} (hk : k < R.length) : hitsR e R (k + 1) = hitsR e R k ++ (if 0 < R[k].2 ∧ meetsC R[k].1 e = true then [(k : Int)] else []) := by
  unfold hitsR
  rw [List.range_succ, List.filter_append, List.map_append]
  congr 1
  by_cases h : 0 < R[k].2 ∧ meetsC R[k].1 e = true
  · rw [if_pos h, List.filter_cons, if_pos (by simpa using ⟨hk, h⟩)]; rfl
  · rw [if_neg h, List.filter_cons, if_neg (by simp only [decide_eq_true_eq]; rintro ⟨_, h'⟩; exact h h')]; rfl
theorem hitsR_len (e : Elem) (R : List (Cond × Int)) (n : Nat) : (hitsR e R n).length ≤ n := by
  unfold hitsR
  rw [List.length_map]
  exact Nat.le_trans (List.length_filter_le _ _) (by simp)

theorem cRIn {a : Option Addr} {n cp : Nat} {R : List (Cond × Int)} {L : List Asn} {μ : Mem} (hO : Ow (Vec 45 8 (.raw (.slice a n cp)) (R.map rrow) :: L) μ) (e : Elem) (hR : R.length ≤ 1000) (hl : ∀ x ∈ R, BareC x.1) {K : PV → Mem → Prop}
    (hk : ∀ fl μ', Ow (Vec 45 8 (.raw (.slice a n cp)) (R.map rrow) :: L) μ' → K (.list 1 fl ((hitsR e R R.length).map intRow)) μ') : CallP Tryz.prog 15 [.raw (.slice a n cp), .agg e.pv] μ K := by
  have hn : n = R.length := by have := Vec.len 0 hO rfl; simpa using this
  subst hn
  refine G_ponderlaw12_in.c ?_
  refine LoopI.each2 (n := R.length) (by omega) (fun k x u => x.2 = (hitsR e R k).map intRow ∧ Ow (Tip x.1 (hitsR e R k).length 1 :: Vec 45 8 (.raw (.slice a R.length cp)) (R.map rrow) :: L) u) ⟨rfl, Ow.nil hO (.inl rfl)⟩ ?_ ?_
  · rintro k ⟨f, _⟩ u next hk' ⟨rfl, hO⟩ hnext
    obtain ⟨b, rfl, hrd, hst⟩ := Vec.at_ 1 hO rfl (rrow_len R) (j := k) (by simpa using hk')
    rw [List.getElem_map] at hrd
    have hb := hl _ (List.getElem_mem hk')
    have hs := hitsR_succ e hk'
    have hlen := hitsR_len e R k
    refine CIf.t (by simpa using hk') ⟨by omega, by omega, _, hrd 7 1 (by omega), CIf.mk (fun g => ?_) (fun g => ?_)⟩
    · have hg : 0 < R[k].2 := by simpa using g
      refine ⟨by omega, by omega, _, _, _, _, _, _, _, _, _, _, hrd 0 7 (by omega), (cRMeets R[k].1 e .sh .sh .sh hb.light).call ⟨_, rfl, CIf.mk (fun hm => ?_) (fun hm => ?_)⟩⟩
      · rw [if_pos ⟨hg, hm⟩] at hs
        refine Ow.app hO (by simp) (by simp; omega) (by simp; omega) fun f2 u2 h2 => hnext _ _ ⟨?_, ?_⟩
        · rw [hs, List.map_append]; rfl
        · rw [hs, List.length_append]; exact h2
      · rw [if_neg (fun h => by rw [hm] at h; cases h.2), List.append_nil] at hs
        exact hnext _ _ ⟨by rw [hs], by rw [hs]; exact hO⟩
    · have hg : ¬ 0 < R[k].2 := by simpa using g
      rw [if_neg (fun h => hg h.1), List.append_nil] at hs
      exact hnext _ _ ⟨by rw [hs], by rw [hs]; exact hO⟩
  · rintro ⟨f, _⟩ u next ⟨rfl, hO⟩
    exact CIf.f (by simp) (hk f u hO.drop)

end Go.Proofs.YtdiimonfmdbclaaGreat

/-
  The laws of chapter 12: plays. The net beside the document's memories.
-/
namespace Go.Proofs.YtdiimonfmdbclaaGreat
open Go.Eng Go.RowKit
set_option linter.unusedVariables false
set_option linter.unusedSimpArgs false
set_option linter.unnecessarySimpa false

/-- The document's memories are the net's. -/
structure PR (R : List (Cond × Int)) (ms : AMs) : Prop where
  to : ∀ x ∈ ms, ∃ (k : Nat) (h : k < R.length), x.1 = (k : Int) ∧ R[k] = (x.2.c, x.2.users)
  of : ∀ (k : Nat) (h : k < R.length), 0 < R[k].2 → ∃ x ∈ ms, x.1 = (k : Int)
  nn : ∀ y ∈ R, BareC y.1 ∧ 0 ≤ y.2

theorem PR.nil : PR [] [] := ⟨by simp, by simp, by simp⟩

section
variable {R : List (Cond × Int)} {ms : AMs} {es : List Elem}

theorem PR.get (h : PR R ms) (hI : AInv es ms) {k : Nat} (hk : k < R.length) (hu : 0 < R[k].2) : ∃ x, getK cmpI numM (k : Int) ms = some x ∧ x ∈ ms ∧ x.2.c = R[k].1 ∧ x.2.users = R[k].2 := by
  obtain ⟨x, hx, hxk⟩ := h.of k hk hu
  obtain ⟨k', hk', e1, e2⟩ := h.to x hx
  have : k' = k := by omega
  subst this
  exact ⟨x, (getK_iff cmpI_ok hI.ums).2 ⟨hx, hxk⟩, hx, by rw [e2], by rw [e2]⟩
theorem PR.none_ (h : PR R ms) (hI : AInv es ms) {k : Int} (hk : ∀ (j : Nat) (hj : j < R.length), k = (j : Int) → R[j].2 = 0) : getK cmpI numM k ms = none := by
  refine (getK_none cmpI_ok).2 fun x hx e => ?_
  obtain ⟨k', hk', e1, e2⟩ := h.to x hx
  have h0 := hk k' hk' (by rw [← e]; exact e1)
  have hu := (hI.users x hx).1
  rw [e2] at h0
  have : x.2.users = 0 := h0
  omega

def actR (R : List (Cond × Int)) (n : Nat) : List Int := ((List.range n).filter fun i => decide (∃ h : i < R.length, 0 < R[i].2)).map Int.ofNat
theorem actR_succ {k : Nat} (hk : k < R.length) : (actR R (k + 1)).length = (actR R k).length + (if 0 < R[k].2 then 1 else 0) := by
  unfold actR
  rw [List.range_succ, List.filter_append, List.map_append, List.length_append]
  congr 1
  by_cases h : 0 < R[k].2
  · rw [if_pos h, List.filter_cons, if_pos (by simpa using ⟨hk, h⟩)]; rfl
  · rw [if_neg h, List.filter_cons, if_neg (by simp only [decide_eq_true_eq]; rintro ⟨_, h'⟩; exact h h')]; rfl

theorem up_range (p : Nat → Bool) (n : Nat) : UpK cmpI id (((List.range n).filter p).map Int.ofNat) := by
  refine UpK.map (f := Int.ofNat) (key := id) ?_
  refine List.Pairwise.filter _ ?_
  refine List.Pairwise.imp (fun {a b} h => cmpI_lt.2 (by show (a : Int) < (b : Int); omega)) (List.pairwise_lt_range)

theorem PR.act (h : PR R ms) (hI : AInv es ms) : ms.map numM = actR R R.length := by
  refine UpK.ext (ck := cmpI) (key := id) cmpI_ok (UpK.map (f := numM) (key := id) hI.ums) (up_range _ _) fun i => ?_
  unfold actR
  simp only [List.mem_map, List.mem_filter, List.mem_range, decide_eq_true_eq]
  constructor
  · rintro ⟨x, hx, rfl⟩
    obtain ⟨k, hk, e1, e2⟩ := h.to x hx
    refine ⟨k, ⟨hk, hk, ?_⟩, e1.symm⟩
    rw [e2]
    have := (hI.users x hx).1
    show 0 < x.2.users; omega
  · rintro ⟨k, ⟨hk, hk', hu⟩, rfl⟩
    obtain ⟨x, hx, e⟩ := h.of k hk hu
    exact ⟨x, hx, e⟩

theorem PR.hits (h : PR R ms) (hI : AInv es ms) (e : Elem) : hitsM e ms = hitsR e R R.length := by
  refine UpK.ext (ck := cmpI) (key := id) cmpI_ok (UpK.map (f := fun x : Int × AMemo => x.1) (key := id) (hI.ums.filter _)) (up_range _ _) fun i => ?_
  unfold hitsM hitsR
  simp only [List.mem_map, List.mem_filter, List.mem_range, decide_eq_true_eq]
  constructor
  · rintro ⟨x, ⟨hx, hm⟩, rfl⟩
    obtain ⟨k, hk, e1, e2⟩ := h.to x hx
    refine ⟨k, ⟨hk, hk, ?_, ?_⟩, e1.symm⟩
    · rw [e2]
      have := (hI.users x hx).1
      show 0 < x.2.users; omega
    · rw [e2]; exact hm
  · rintro ⟨k, ⟨hk, hk', hu, hm⟩, rfl⟩
    obtain ⟨x, hx, e⟩ := h.of k hk hu
    obtain ⟨k', hk2, e1, e2⟩ := h.to x hx
    have : k' = k := by omega
    subst this
    exact ⟨x, ⟨hx, by rw [e2] at hm; exact hm⟩, e⟩

theorem PR.inL (h : PR R ms) (hI : AInv es ms) {k : Nat} (hk : k < R.length) : Go.Proofs.YtdiimonfmdbclaaGreat.inL (k : Int) ms = if 0 < R[k].2 then es.filter (meetsC R[k].1) else [] := by
  unfold Go.Proofs.YtdiimonfmdbclaaGreat.inL
  split
  · rename_i hu
    obtain ⟨x, hg, hx, hc, _⟩ := h.get hI hk hu
    rw [hg]
    show x.2.l = _
    rw [hI.has x hx, hc]
  · rename_i hu
    rw [h.none_ hI (k := (k : Int)) fun j hj e => by
      have : j = k := by omega
      subst this
      have := (h.nn _ (List.getElem_mem hj)).2
      omega]
    rfl

theorem PR.users (h : PR R ms) (hI : AInv es ms) {k : Nat} (hk : k < R.length) : ((getK cmpI numM (k : Int) ms).map fun x => x.2.users).getD 0 = R[k].2 := by
  have hn := (h.nn _ (List.getElem_mem hk)).2
  by_cases hu : 0 < R[k].2
  · obtain ⟨x, hg, _, _, e⟩ := h.get hI hk hu
    rw [hg]; exact e
  · rw [h.none_ hI (k := (k : Int)) fun j hj e => by
      have : j = k := by omega
      subst this; omega]
    show (0 : Int) = _; omega
end

theorem cRight {a : Option Addr} {n0 cp n : Nat} {R : List (Cond × Int)} {es : List Elem} {ms : AMs} {L : List Asn} {μ : Mem} (f : Fl) (hO : Ow (Vec 45 8 (.raw (.slice a n0 cp)) (R.map rrow) :: NetAt n es ms :: L) μ) (hI : AInv es ms) (hP : PR R ms) (hR : R.length ≤ 1000) (hE : es.length ≤ 1000) {K : PV → Mem → Prop}
    (hk : ∀ μ', Ow (Vec 45 8 (.raw (.slice a n0 cp)) (R.map rrow) :: NetAt n es ms :: L) μ' → K (pB true) μ') : CallP Tryz.prog 18 [pP n 0, .raw (.slice a n0 cp), .list 12 f (es.map Elem.pv)] μ K := by
  have hn : n0 = R.length := by have := Vec.len 0 hO rfl; simpa using this
  subst hn
  refine G_ponderlaw12_right.c ?_
  refine LoopI.each2 (n := R.length) (by omega) (fun k x u => x = (((actR R k).length : Nat) : Int) ∧ (actR R k).length ≤ k ∧ Ow (Vec 45 8 (.raw (.slice a R.length cp)) (R.map rrow) :: NetAt n es ms :: L) u) ⟨rfl, Nat.le_refl _, hO⟩ ?_ ?_
  · rintro k _ u next hk' ⟨rfl, hac, hO⟩ hnext
    have has := actR_succ hk'
    have hu0 := (hP.nn _ (List.getElem_mem hk')).2
    have hb := (hP.nn _ (List.getElem_mem hk')).1
    refine CIf.t (by simpa using hk') ⟨fun s u => s.2 = (if 0 < R[k].2 then es.filter (meetsC R[k].1) else []).map Elem.pv ∧ Ow (Vec 45 8 (.raw (.slice a R.length cp)) (R.map rrow) :: NetAt n es ms :: L) u, ?_, ?_⟩
    · refine LoopI.each2 (n := es.length) (by omega) (fun i x u => x.2 = (if 0 < R[k].2 then (es.take i).filter (meetsC R[k].1) else []).map Elem.pv ∧ Ow (Tip x.1 (if 0 < R[k].2 then (es.take i).filter (meetsC R[k].1) else []).length 12 :: Vec 45 8 (.raw (.slice a R.length cp)) (R.map rrow) :: NetAt n es ms :: L) u) ⟨by simp, by simpa using Ow.nil hO (.inl rfl)⟩ ?_ ?_
      · rintro i ⟨fl, _⟩ u2 next2 hi ⟨rfl, hO2⟩ hnext2
        obtain ⟨b, rfl, hrd, _⟩ := Vec.at_ 1 hO2 rfl (rrow_len R) (j := k) (by simpa using hk')
        rw [List.getElem_map] at hrd
        refine CIf.t (by simpa using hi) ⟨by omega, by omega, _, hrd 7 1 (by omega), CIf.mk (fun g => ?_) (fun g => ⟨?_, hO2.drop⟩)⟩
        · have hg : 0 < R[k].2 := by simpa using g
          have htk : (es.take (i + 1)).filter (meetsC R[k].1) = (es.take i).filter (meetsC R[k].1) ++ (if meetsC R[k].1 es[i] = true then [es[i]] else []) := by
            rw [List.take_add_one, List.getElem?_eq_getElem hi, List.filter_append]
            congr 1
            simp only [Option.toList_some, List.filter_cons, List.filter_nil]
          simp only [if_pos hg] at hO2 ⊢
          have hln : ((es.take i).filter (meetsC R[k].1)).length ≤ es.length := Nat.le_trans (List.length_filter_le _ _) (by rw [List.length_take]; omega)
          refine ⟨by omega, by omega, _, _, _, _, _, _, _, _, _, _, hrd 0 7 (by omega), by omega, _, atRow hi, _, _, _, _, _, _, _, _, _, _, _, _, rfl, (cRMeets R[k].1 es[i] .sh .sh .sh hb.light).call ⟨_, rfl, CIf.mk (fun hm => ?_) (fun hm => ?_)⟩⟩
          · rw [if_pos hm] at htk
            refine ⟨by omega, _, atRow hi, _, _, _, _, _, _, _, _, _, _, _, _, rfl, Ow.app hO2 (by simp) (by simp only [List.length_singleton]; omega) (by simp only [List.length_singleton]; omega) fun f2 u3 h3 => hnext2 _ _ ⟨?_, ?_⟩⟩
            · simp only [if_pos hg]; rw [htk, List.map_append]; rfl
            · simp only [if_pos hg]; rw [htk, List.length_append]; exact h3
          · rw [if_neg (by simp [hm]), List.append_nil] at htk
            refine hnext2 _ _ ⟨?_, ?_⟩
            · simp only [if_pos hg]; rw [htk]
            · simp only [if_pos hg]; rw [htk]; exact hO2
        · have hg : ¬ 0 < R[k].2 := by simpa using g
          simp only [if_neg hg]
      · rintro ⟨fl, _⟩ u2 next2 ⟨rfl, hO2⟩
        rw [List.take_length] at *
        exact CIf.f (by simp) ⟨rfl, hO2.drop⟩
    · rintro ⟨sf, _⟩ u2 ⟨rfl, hO2⟩
      obtain ⟨b, rfl, hrd, _⟩ := Vec.at_ 0 hO2 rfl (rrow_len R) (j := k) (by simpa using hk')
      rw [List.getElem_map] at hrd
      refine ⟨fun s u => s = (((actR R (k + 1)).length : Nat) : Int) ∧ u = u2, ⟨by omega, by omega, _, hrd 7 1 (by omega), CIf.mk (fun g => ?_) (fun g => ?_)⟩, ?_⟩
      · have hg : 0 < R[k].2 := by simpa using g
        rw [if_pos hg] at has
        refine ⟨?_, rfl⟩
        rw [has, wrap_id (by omega) (by omega)]; omega
      · have hg : ¬ 0 < R[k].2 := by simpa using g
        rw [if_neg hg] at has
        exact ⟨by rw [has]; rfl, rfl⟩
      · rintro _ _ ⟨rfl, rfl⟩
        refine ⟨by omega, by omega, _, hrd 7 1 (by omega), cAUsersQ hO2.swap hI (k : Int) ⟨_, rfl, ?_⟩⟩
        rw [Mem.or_M0, hP.users hI hk']
        have hsq := seqIn n (k : Int) hI
        rw [hP.inL hI hk'] at hsq
        have hlf : (if 0 < R[k].2 then es.filter (meetsC R[k].1) else []).length ≤ 1000000 := by
          split
          · exact Nat.le_trans (List.length_filter_le _ _) (by omega)
          · simp
        refine CIf.f (by simp) ((cIn n _).call ⟨_, _, _, rfl, cListE hsq hlf hO2.swap fun u3 f3 h3 => ⟨_, _, rfl, ?_⟩⟩)
        refine (qElems _ _ _ _ (by omega)).call (fun _ => ⟨_, rfl, CIf.f rfl (hnext _ _ ⟨rfl, ?_, h3.swap⟩)⟩) (fun h => absurd rfl h)
        rw [has]; split <;> omega
  · rintro _ u next ⟨rfl, hac, hO⟩
    have hlen : (actR R R.length).length = ms.length := by rw [← hP.act hI, List.length_map]
    refine CIf.f (by simp) (cALen hO.swap ⟨_, rfl, CIf.t (by rw [hlen]; simp) ?_⟩)
    refine cAUsers hO.swap hI (-1) fun u2 h2 => ⟨_, rfl, CIf.t ?_ (cAUsers h2 hI (R.length : Int) fun u3 h3 => ⟨_, rfl, ?_⟩)⟩
    · rw [hP.none_ hI (k := -1) fun j hj e => by omega]; rfl
    · rw [hP.none_ hI (k := (R.length : Int)) fun j hj e => by omega]
      exact hk u3 h3.swap

end Go.Proofs.YtdiimonfmdbclaaGreat

/-
  The laws of chapter 12: plays. The net and the document's memories turn alike.
-/
namespace Go.Proofs.YtdiimonfmdbclaaGreat
open Go.Eng Go.RowKit
set_option linter.unusedVariables false
set_option linter.unusedSimpArgs false
set_option linter.unnecessarySimpa false

section
variable {R R' : List (Cond × Int)} {ms : AMs} {es : List Elem}

theorem PR.ins (h : PR R ms) {x : Int × AMemo} {k : Nat} (hk : k < R.length) (hx : x.1 = (k : Int)) (hb : BareC x.2.c) (hu : 1 ≤ x.2.users) : PR (R.set k (x.2.c, x.2.users)) (insK cmpI numM x ms) := by
  refine ⟨fun y hy => ?_, fun j hj hu => ?_, fun y hy => ?_⟩
  · rcases (mem_insK cmpI_ok).1 hy with rfl | ⟨hy, hne⟩
    · exact ⟨k, by simpa using hk, hx, by simp⟩
    · obtain ⟨j, hj, e1, e2⟩ := h.to y hy
      have hjk : k ≠ j := fun e => hne (by show y.1 = x.1; omega)
      exact ⟨j, by simpa using hj, e1, by rw [List.getElem_set_ne hjk]; exact e2⟩
  · by_cases e : k = j
    · exact ⟨x, (mem_insK cmpI_ok).2 (.inl rfl), by omega⟩
    · rw [List.getElem_set_ne e] at hu
      obtain ⟨y, hy, e1⟩ := h.of j (by simpa using hj) hu
      exact ⟨y, (mem_insK cmpI_ok).2 (.inr ⟨hy, fun e2 => e (by have : y.1 = x.1 := e2; omega)⟩), e1⟩
  · rcases List.mem_or_eq_of_mem_set hy with hy | rfl
    · exact h.nn y hy
    · exact ⟨hb, by show 0 ≤ x.2.users; omega⟩

theorem PR.pad (h : PR R ms) {c : Cond} (hb : BareC c) : PR (R ++ [(c, 0)]) ms := by
  refine ⟨fun y hy => ?_, fun j hj hu => ?_, fun y hy => ?_⟩
  · obtain ⟨j, hj, e1, e2⟩ := h.to y hy
    exact ⟨j, by simp; omega, e1, by rw [List.getElem_append_left hj]; exact e2⟩
  · by_cases e : j < R.length
    · rw [List.getElem_append_left e] at hu
      exact h.of j e hu
    · rw [List.getElem_append_right (by omega)] at hu
      simp at hu
  · rcases List.mem_append.1 hy with hy | hy
    · exact h.nn y hy
    · simp at hy; subst hy; exact ⟨hb, by show (0 : Int) ≤ 0; omega⟩

theorem PR.more (h : PR R ms) {x : Int × AMemo} (hx : x.1 = (R.length : Int)) (hb : BareC x.2.c) (hu : 1 ≤ x.2.users) : PR (R ++ [(x.2.c, x.2.users)]) (insK cmpI numM x ms) := by
  have := (h.pad hb).ins (x := x) (k := R.length) (by simp) hx hb hu
  rw [List.set_append_right _ _ (Nat.le_refl _)] at this
  simpa using this

theorem PR.del (h : PR R ms) {k : Nat} {c : Cond} (hk : k < R.length) (hb : BareC c) : PR (R.set k (c, 0)) (delK cmpI numM (k : Int) ms) := by
  refine ⟨fun y hy => ?_, fun j hj hu => ?_, fun y hy => ?_⟩
  · obtain ⟨hy, hne⟩ := (mem_delK cmpI_ok).1 hy
    obtain ⟨j, hj, e1, e2⟩ := h.to y hy
    have hjk : k ≠ j := fun e => hne (by show y.1 = (k : Int); omega)
    exact ⟨j, by simpa using hj, e1, by rw [List.getElem_set_ne hjk]; exact e2⟩
  · by_cases e : k = j
    · subst e; simp at hu
    · rw [List.getElem_set_ne e] at hu
      obtain ⟨y, hy, e1⟩ := h.of j (by simpa using hj) hu
      exact ⟨y, (mem_delK cmpI_ok).2 ⟨hy, fun e2 => e (by have : y.1 = (k : Int) := e2; omega)⟩, e1⟩
  · rcases List.mem_or_eq_of_mem_set hy with hy | rfl
    · exact h.nn y hy
    · exact ⟨hb, by show (0 : Int) ≤ 0; omega⟩

theorem PR.map (h : PR R ms) {f : Int × AMemo → Int × AMemo} (hf : ∀ x, (f x).1 = x.1 ∧ (f x).2.c = x.2.c ∧ (f x).2.users = x.2.users) : PR R (ms.map f) := by
  refine ⟨fun y hy => ?_, fun j hj hu => ?_, h.nn⟩
  · obtain ⟨x, hx, rfl⟩ := List.mem_map.1 hy
    obtain ⟨j, hj, e1, e2⟩ := h.to x hx
    obtain ⟨a, b, c⟩ := hf x
    exact ⟨j, hj, by rw [a]; exact e1, by rw [b, c]; exact e2⟩
  · obtain ⟨y, hy, e1⟩ := h.of j hj hu
    exact ⟨f y, List.mem_map.2 ⟨y, hy, rfl⟩, by rw [(hf y).1]; exact e1⟩

theorem PR.len (h : PR R ms) (hI : AInv es ms) : ms.length ≤ R.length := by
  have : (ms.map numM).length = (actR R R.length).length := by rw [h.act hI]
  rw [List.length_map] at this
  rw [this]
  unfold actR
  rw [List.length_map]
  exact Nat.le_trans (List.length_filter_le _ _) (by simp)

theorem PR.leave (h : PR R ms) (hI : AInv es ms) {k : Nat} (hk : k < R.length) (hu : 0 < R[k].2) : PR (R.set k (R[k].1, R[k].2 - 1)) (leaveM (k : Int) ms) := by
  obtain ⟨x, hg, hx, hc, hus⟩ := h.get hI hk hu
  unfold leaveM
  rw [hg]
  show PR _ (if x.2.users = 1 then _ else _)
  have hb := (h.nn _ (List.getElem_mem hk)).1
  split
  · rename_i e
    have : R[k].2 - 1 = 0 := by omega
    rw [this]
    exact h.del hk hb
  · rename_i e
    have := h.ins (x := ((k : Int), { x.2 with users := x.2.users - 1 })) hk rfl (by show BareC x.2.c; rw [hc]; exact hb) (by show 1 ≤ x.2.users - 1; omega)
    rw [← hc, ← hus]
    exact this

theorem PR.has (h : PR R ms) {x : Int × AMemo} (hx : x ∈ ms) (hI : AInv es ms) : ∃ (k : Nat) (hk : k < R.length), x.1 = (k : Int) ∧ hasC x.2.c R[k] := by
  obtain ⟨k, hk, e1, e2⟩ := h.to x hx
  have := (hI.users x hx).1
  exact ⟨k, hk, e1, by rw [e2]; exact ⟨by show 0 < x.2.users; omega, rfl⟩⟩

theorem PR.want1 (h : PR R ms) (hI : AInv es ms) {c : Cond} {k : Nat} (hw : WantR c R R' k) {x : Int × AMemo} (hx : x ∈ ms) (hc : x.2.c = c) : x.1 = (k : Int) ∧ PR R' (insK cmpI numM (x.1, { x.2 with users := x.2.users + 1 }) ms) := by
  obtain ⟨j, hj, e1, hj2⟩ := h.has hx hI
  rw [hc] at hj2
  cases hw with
  | there i hi hh hf =>
    obtain ⟨y, hg, hy, hyc, hyu⟩ := h.get hI hi hh.1
    have hyk : y.1 = (k : Int) := ((getK_iff cmpI_ok hI.ums).1 hg).2
    have : y = x := hI.inj y hy x hx (by rw [hyc, hh.2, hc])
    subst this
    refine ⟨hyk, ?_⟩
    have := h.ins (x := (y.1, { y.2 with users := y.2.users + 1 })) hi hyk (hI.bare y hy) (by show 1 ≤ y.2.users + 1; have := (hI.users y hy).1; omega)
    rw [← hyc, ← hyu]
    exact this
  | hole i hi hn _ _ => exact absurd hj2 (hn _ (List.getElem_mem hj))
  | more hn _ => exact absurd hj2 (hn _ (List.getElem_mem hj))

theorem PR.want0 (h : PR R ms) (hI : AInv es ms) {c : Cond} (hb : BareC c) {k : Nat} (hw : WantR c R R' k) (hno : ∀ x ∈ ms, x.2.c ≠ c) (b : Nat) (l : List Elem) : least ms = (k : Int) ∧ PR R' (insK cmpI numM (least ms, ⟨c, 1, b, l⟩) ms) := by
  obtain ⟨l0, l1, l2, l3⟩ := least_spec ms hI.ums fun x hx => (hI.num x hx).1
  have key : ∀ j : Nat, (∀ (i : Nat) (hi : i < R.length), i < j → R[i].2 ≠ 0) → (∀ hj : j < R.length, R[j].2 = 0) → j ≤ R.length → least ms = (j : Int) := fun j a b hj => by
    rcases Int.lt_trichotomy (least ms) (j : Int) with hlt | he | hgt
    · have hi : (least ms).toNat < R.length := by omega
      have h1 := a _ hi (by omega)
      have h2 := (h.nn _ (List.getElem_mem hi)).2
      obtain ⟨x, hx, e⟩ := h.of _ hi (by omega)
      exact absurd (by omega) (l3 x hx)
    · exact he
    · obtain ⟨x, hx, e⟩ := l2 (j : Int) (by omega) hgt
      obtain ⟨i, hi, e1, e2⟩ := h.to x hx
      have : i = j := by omega
      subst this
      have h0 := b hi
      rw [e2] at h0
      have h0 : x.2.users = 0 := h0
      have := (hI.users x hx).1
      omega
  cases hw with
  | there i hi hh hf =>
    obtain ⟨y, hg, hy, hyc, hyu⟩ := h.get hI hi hh.1
    exact absurd (hyc.trans hh.2) (hno y hy)
  | hole i hi hn h0 hf =>
    have e := key k (fun i _ hik => hf i hik) (fun _ => h0) (by omega)
    exact ⟨e, h.ins (x := (least ms, ⟨c, 1, b, l⟩)) hi e hb (by show (1 : Int) ≤ 1; omega)⟩
  | more hn h0 =>
    have e := key R.length (fun i hi hik => h0 _ (List.getElem_mem hi)) (fun h => by omega) (Nat.le_refl _)
    exact ⟨e, h.more (x := (least ms, ⟨c, 1, b, l⟩)) e hb (by show (1 : Int) ≤ 1; omega)⟩

theorem WantR.le {c : Cond} {k n : Nat} (hw : WantR c R R' k) (h1 : R.length ≤ n) (h2 : ∀ y ∈ R, y.2 ≤ n) : R'.length ≤ n + 1 ∧ ∀ y ∈ R', y.2 ≤ ((n + 1 : Nat) : Int) := by
  cases hw with
  | there i hi hh hf =>
    refine ⟨by rw [List.length_set]; omega, fun y hy => ?_⟩
    rcases List.mem_or_eq_of_mem_set hy with hy | rfl
    · have := h2 y hy; omega
    · have := h2 _ (List.getElem_mem hi)
      show R[k].2 + 1 ≤ _; omega
  | hole i hi hn h0 hf =>
    refine ⟨by rw [List.length_set]; omega, fun y hy => ?_⟩
    rcases List.mem_or_eq_of_mem_set hy with hy | rfl
    · have := h2 y hy; omega
    · show (1 : Int) ≤ _; omega
  | more hn h0 =>
    refine ⟨by simp; omega, fun y hy => ?_⟩
    rcases List.mem_append.1 hy with hy | hy
    · have := h2 y hy; omega
    · simp at hy; subst hy; show (1 : Int) ≤ _; omega
end

end Go.Proofs.YtdiimonfmdbclaaGreat

/-
  The laws of chapter 12: plays.
-/
namespace Go.Proofs.YtdiimonfmdbclaaGreat
open Go.Eng Go.RowKit
set_option linter.unusedVariables false
set_option linter.unusedSimpArgs false
set_option linter.unnecessarySimpa false

structure Act where
  d : Int
  n : Int
  c : Cond
  e : Elem
@[reducible] def Act.pv (a : Act) : List PV := [pI a.d, pI a.n, pI a.c.kind, pB a.c.goal, pS a.c.id, .list 6 .sh (a.c.attr.map Test.pv), .list 6 .sh (a.c.value.map Test.pv), pB a.c.acc, .list 7 .sh (a.c.conds.map Cond.pv), pI a.e.id.k, pS a.e.id.t, pI a.e.id.n, pI a.e.attr.k, pS a.e.attr.t, pI a.e.attr.n, pI a.e.value.k, pS a.e.value.t, pI a.e.value.n, pB a.e.acc, pB a.e.goal, pI a.e.tag]

theorem LoopI.each3 {β δ γ : Type} {body : (β × δ × Int → γ → Prop) → β × δ × Int → γ → Prop} {x : β} {y : δ} {u : γ} {n : Nat} (hn : n < 9223372036854775808) (I : Nat → β → δ → γ → Prop) (h0 : I 0 x y u)
    (hin : ∀ (k : Nat) (x : β) (y : δ) (u : γ) (next : β × δ × Int → γ → Prop), k < n → I k x y u → (∀ x' y' u', I (k + 1) x' y' u' → next (x', y', IntKind.wrap .i64 ((k : Int) + 1)) u') → body next (x, y, (k : Int)) u) (hout : ∀ (x : β) (y : δ) (u : γ) (next : β × δ × Int → γ → Prop), I n x y u → body next (x, y, (n : Int)) u) : LoopI body (x, y, 0) u := by
  refine ⟨fun m s u => ∃ k : Nat, s.2.2 = (k : Int) ∧ k ≤ n ∧ I k s.1 s.2.1 u ∧ m = n - k, ⟨n, 0, rfl, Nat.zero_le _, h0, rfl⟩, ?_⟩
  rintro _ ⟨x, y, _⟩ u ⟨k, rfl, hk, hI, rfl⟩
  by_cases hlt : k < n
  · refine hin k x y u _ hlt hI fun x' y' u' hI' => ?_
    refine ⟨n - (k + 1), by omega, k + 1, ?_, by omega, hI', rfl⟩
    show IntKind.wrap .i64 ((k : Int) + 1) = _
    rw [wrap_id (by omega) (by omega)]; omega
  · have : k = n := by omega
    subst this
    exact hout x y u _ hI

theorem cHeavy12 (f : Fl) (l : List Act) : PureK Tryz.prog 5 [.list 21 f (l.map Act.pv), pI 60] fun p => ∃ q : Bool, p = pB q ∧ (q = false → l.length ≤ 60 ∧ ∀ a ∈ l, lightC a.c) := by
  refine PureK.of (G_ponderlaw12_heavy.c (CIf.mk (fun _ => ⟨true, rfl, fun h => by cases h⟩) (fun h60 => ?_)))
  have h60 : l.length ≤ 60 := by have := of_decide_eq_false h60; simp at this; omega
  refine LoopI.each (n := l.length) (by omega) (fun k u => ∀ a ∈ l.take k, lightC a.c) (by simp) ?_ ?_
  · intro k u next hk hno hnext
    refine CIf.t (by simpa using hk) ⟨by omega, _, atRow hk, _, _, _, _, _, _, _, _, _, _, rfl, PureK.call (cSizeCC .nr [l[k].c] 20 (by omega)) ?_⟩
    rintro _ ⟨r, rfl, _, hr⟩
    refine ⟨_, rfl, CIf.mk (fun _ => ⟨true, rfl, fun h => by cases h⟩) (fun h1 => ⟨by omega, _, atRow hk, _, _, _, _, _, _, _, _, _, _, rfl, ?_⟩)⟩
    have h1 := of_decide_eq_false h1
    have hr := hr (by omega)
    refine PureK.call (cHeavyCC .nr [l[k].c] (by rw [hr]; omega)) ?_
    rintro _ ⟨q, rfl, hq⟩
    refine ⟨_, rfl, CIf.mk (fun _ => ⟨true, rfl, fun h => by cases h⟩) (fun h2 => ⟨by omega, _, atRow hk, _, _, _, _, _, _, _, _, _, _, _, _, rfl, PureK.call (cLightT .nr [l[k].e] 1 (by omega)) ?_⟩)⟩
    rintro _ ⟨q2, rfl, _⟩
    refine ⟨_, rfl, CIf.mk (fun _ => ⟨true, rfl, fun h => by cases h⟩) (fun h3 => hnext _ fun a ha => ?_)⟩
    rw [List.take_add_one, List.getElem?_eq_getElem hk, List.mem_append] at ha
    rcases ha with ha | ha
    · exact hno a ha
    · simp at ha; subst ha; exact (hq h2).1
  · intro u next hno
    rw [List.take_length] at hno
    exact CIf.f (by simp) ⟨false, rfl, fun _ => ⟨h60, hno⟩⟩

theorem filter_at {α : Type} {l : List α} {k : Nat} (hk : k < l.length) {p : α → Bool} (h0 : p l[k] = false) (h1 : ∀ (i : Nat) (hi : i < l.length), i ≠ k → p l[i] = true) : l.filter p = l.take k ++ l.drop (k + 1) := by
  have e : l.filter p = (l.take k ++ l[k] :: l.drop (k + 1)).filter p := by rw [← List.drop_eq_getElem_cons hk, List.take_append_drop]
  rw [e, List.filter_append, List.filter_cons, if_neg (by simp [h0])]
  congr 1
  · refine List.filter_eq_self.2 fun x hx => ?_
    obtain ⟨i, hi, rfl⟩ := List.mem_iff_getElem.1 hx
    rw [List.length_take] at hi
    rw [List.getElem_take]
    exact h1 i (by omega) (by omega)
  · refine List.filter_eq_self.2 fun x hx => ?_
    obtain ⟨i, hi, rfl⟩ := List.mem_iff_getElem.1 hx
    rw [List.length_drop] at hi
    rw [List.getElem_drop]
    exact h1 _ (by omega) (by omega)

theorem delK_at {es : List Elem} (hu : UpK cmpI tagE es) {k : Nat} (hk : k < es.length) : delK cmpI tagE es[k].tag es = es.take k ++ es.drop (k + 1) := by
  refine filter_at hk ?_ fun i hi hik => ?_
  · have : eqK cmpI tagE es[k].tag es[k] = true := by unfold eqK; simp [cmpI_ok.zero, tagE]
    rw [this]; rfl
  · have : ¬ eqK cmpI tagE es[k].tag es[i] = true := by
      unfold eqK
      simp only [decide_eq_true_eq, cmpI_ok.zero]
      intro e
      have e : es[i].tag = es[k].tag := e
      rcases Nat.lt_or_gt_of_ne hik with h | h
      · have h2 : es[i].tag < es[k].tag := cmpI_lt.1 (List.pairwise_iff_getElem.1 hu i k hi hk h)
        omega
      · have h2 : es[k].tag < es[i].tag := cmpI_lt.1 (List.pairwise_iff_getElem.1 hu k i hk hi h)
        omega
    simpa using this

abbrev RVec (s : Option Addr × Nat × Nat) (R : List (Cond × Int)) : Asn := Vec 45 8 (.raw (.slice s.1 s.2.1 s.2.2)) (R.map rrow)

def PlayI (n i : Nat) (s : Option Addr × Nat × Nat) (t : Fl × List (List PV)) (u : Mem) : Prop :=
  ∃ R ms es, AInv es ms ∧ PR R ms ∧ R.length ≤ i ∧ (∀ y ∈ R, y.2 ≤ (i : Int)) ∧ es.length ≤ i ∧ t.2 = es.map Elem.pv ∧ Ow [RVec s R, NetAt n es ms] u

theorem PlayI.more {n i : Nat} {s : Option Addr × Nat × Nat} {t : Fl × List (List PV)} {u : Mem} : PlayI n i s t u → PlayI n (i + 1) s t u := by
  rintro ⟨R, ms, es, hI, hP, h1, h2, h3, h4, h5⟩
  exact ⟨R, ms, es, hI, hP, by omega, fun y hy => by have := h2 y hy; omega, by omega, h4, h5⟩

theorem cAlphaPlays (l : List Act) (_ : (∀ s ∈ l, True) ∧ l.length ≤ maxLen) : Pure Tryz.prog 3 [.list 21 .sh (l.map Act.pv)] (pB true) := by
  refine PureK.of (G_ponderlaw12_AlphaPlays.c (cANew (L := []) trivial fun u n h => ⟨_, rfl, CIf.f rfl (PureK.call (cHeavy12 .sh l) ?_)⟩))
  rintro _ ⟨q, rfl, hq⟩
  refine ⟨_, rfl, CIf.mk (fun _ => cWakes12.call ⟨_, rfl, rfl⟩) (fun h0 => ?_)⟩
  obtain ⟨h60, hl⟩ := hq h0
  refine LoopI.each3 (n := l.length) (by omega) (fun i s t u => PlayI n i s t u) ⟨[], [], [], AInv.nil, PR.nil, Nat.le_refl _, by simp, Nat.le_refl _, rfl, Vec.nil _ _ h⟩ ?_ ?_
  · rintro i ⟨a, n0, cp⟩ ⟨fl, _⟩ u next hi ⟨R, ms, es, hI, hP, hR, hRu, hE, rfl, hO⟩ hnext
    have hn0 : n0 = R.length := by have := Vec.len 0 hO rfl; simpa using this
    subst hn0
    have hlc := hl _ (List.getElem_mem hi)
    have hml := hP.len hI
    have stay : ∀ u', Ow [RVec (a, R.length, cp) R, NetAt n es ms] u' → PlayI n (i + 1) (a, R.length, cp) (fl, es.map Elem.pv) u' := fun u' h' => ⟨R, ms, es, hI, hP, by omega, fun y hy => by have := hRu y hy; omega, by omega, rfl, h'⟩
    refine CIf.t (by simpa using hi) ⟨by show (0 : Int) ≤ (i : Int); omega, _, atRow hi, _, _, _, _, _, _, _, _, _, _, _, _, _, _, _, _, _, _, _, _, _, _, _, _, rfl, ⟨fun s u => PlayI n (i + 1) s.1 s.2 u, ?_, ?_⟩⟩
    · refine (cWithinV l[i].d 7 (by omega) (by omega)).call ⟨_, rfl, ⟨fun _ u' => u = u', CIf.mk (fun _ => rfl) (fun _ => rfl), ?_⟩⟩
      rintro s2 _ rfl
      refine CIf.mk (fun _ => ?_) (fun _ => CIf.mk (fun _ => ?_) (fun _ => ⟨fun _ u' => u = u', CIf.mk (fun _ => rfl) (fun _ => CIf.mk (fun _ => rfl) (fun _ => rfl)), ?_⟩))
      · refine (cRBare l[i].c .sh .sh .sh hlc).call ⟨_, _, _, _, _, _, _, _, _, _, rfl, ?_⟩
        refine cRWant hO (bareC l[i].c) (by omega) (fun x hx => ⟨(hP.nn x hx).1, (hP.nn x hx).2, by have := hRu x hx; omega⟩) fun a' n' cp' R' k u2 hw h2 => ⟨_, _, _, _, rfl, ?_⟩
        obtain ⟨hle1, hle2⟩ := hw.le hR hRu
        refine cAWant h2.swap hI (by omega) (fun x hx => ?_) l[i].c hlc (fun x hx ec u3 h3 => ⟨_, rfl, ?_⟩) (fun hno u3 b h3 => ⟨_, rfl, ?_⟩)
        · obtain ⟨j, hj, e1, e2⟩ := hP.to x hx
          have := hRu _ (List.getElem_mem hj)
          rw [e2] at this
          have this : x.2.users ≤ (i : Int) := this
          omega
        · obtain ⟨ek, hP'⟩ := hP.want1 hI hw hx ec
          have hus : x.2.users ≤ (i : Int) := by
            obtain ⟨j, hj, e1, e2⟩ := hP.to x hx
            have := hRu _ (List.getElem_mem hj)
            rw [e2] at this; exact this
          refine CIf.f (by rw [ek]; simp) ⟨R', _, es, hI.upd (x' := (x.1, { x.2 with users := x.2.users + 1 })) hx rfl rfl rfl ⟨by show 1 ≤ x.2.users + 1; have := (hI.users x hx).1; omega, by show x.2.users + 1 < 1000000; omega⟩, hP', hle1, hle2, by omega, rfl, h3.swap⟩
        · obtain ⟨ek, hP'⟩ := hP.want0 hI (bare_bare hlc) hw hno b (es.filter (meetsC (bareC l[i].c)))
          exact CIf.f (by rw [ek]; simp) ⟨R', _, es, (hI.new (bare_bare hlc) hno b (by omega)).2, hP', hle1, hle2, by omega, rfl, h3.swap⟩
      · have hw2 : IntKind.wrap .i64 (((R.length : Nat) : Int) + 2) = ((R.length + 2 : Nat) : Int) := by rw [wrap_id (by omega) (by omega)]; omega
        rw [hw2]
        refine (cWithinV l[i].n (R.length + 2) (by omega) (by omega)).call ⟨_, rfl, ?_⟩
        have hlt := withinV_lt l[i].n (n := R.length + 2) (by omega)
        generalize withinV l[i].n (R.length + 2) = w at hlt
        have hz : IntKind.wrap .i64 ((w : Int) - 1) = (w : Int) - 1 := wrap_id (by omega) (by omega)
        rw [hz]
        generalize hzz : (w : Int) - 1 = z
        have hz1 : -1 ≤ z := by omega
        have hz2 : z ≤ R.length := by omega
        refine ⟨fun b u' => u = u' ∧ (b = true → ∃ (k : Nat) (hk : k < R.length), z = (k : Int) ∧ 0 < R[k].2) ∧ (b = false → ∀ (j : Nat) (hj : j < R.length), z = (j : Int) → R[j].2 = 0), ?_, ?_⟩
        · refine CIf.mk (fun g1 => ?_) (fun g1 => ⟨rfl, (fun h => by cases h), (fun _ j hj e => by have := of_decide_eq_false g1; omega)⟩)
          have g1 := of_decide_eq_true g1
          obtain ⟨k, rfl⟩ := Int.eq_ofNat_of_zero_le g1
          refine CIf.mk (fun g2 => ?_) (fun g2 => ⟨rfl, (fun h => by cases h), (fun _ j hj e => by have : ¬ ((k : Int) < ((R.length : Nat) : Int)) := of_decide_eq_false g2; omega)⟩)
          have g3 : (k : Int) < ((R.length : Nat) : Int) := of_decide_eq_true g2
          have hk : k < R.length := by omega
          obtain ⟨b, rfl, hrd, _⟩ := Vec.at_ 0 hO rfl (rrow_len R) (j := k) (by simpa using hk)
          rw [List.getElem_map] at hrd
          have hnn := (hP.nn _ (List.getElem_mem hk)).2
          refine ⟨by omega, g3, _, hrd 7 1 (by omega), rfl, fun g => ⟨k, hk, rfl, by simpa using g⟩, fun g j hj e => ?_⟩
          have : j = k := by omega
          subst this
          have := of_decide_eq_false g
          omega
        · rintro sb _ ⟨rfl, hs1, hs0⟩
          refine cALeave hO.swap hI z fun u2 h2 => ⟨_, rfl, CIf.f ?_ (CIf.mk (fun g => ?_) (fun g => ?_))⟩
          · cases sb with
            | true =>
              obtain ⟨k, hk, rfl, hu⟩ := hs1 rfl
              obtain ⟨x, hg, _⟩ := hP.get hI hk hu
              rw [hg]; rfl
            | false =>
              rw [hP.none_ hI (hs0 rfl)]; rfl
          · obtain ⟨k, hk, rfl, hu⟩ := hs1 g
            have h3 := h2.swap
            obtain ⟨b, rfl, hrd, hst⟩ := Vec.at_ 0 h3 rfl (rrow_len R) (j := k) (by simpa using hk)
            rw [List.getElem_map] at hrd hst
            have hb := hRu _ (List.getElem_mem hk)
            have hw3 : IntKind.wrap .i64 (R[k].2 - 1) = R[k].2 - 1 := wrap_id (by omega) (by omega)
            have hki : (k : Int) < ((R.length : Nat) : Int) := by omega
            refine ⟨by omega, hki, _, hrd 7 1 (by omega), by omega, hki, ?_⟩
            rw [hw3]
            refine hst 7 _ _ (by simp) fun u3 h4 => ⟨R.set k (R[k].1, R[k].2 - 1), _, es, hI.leave _, hP.leave hI hk hu, by rw [List.length_set]; omega, fun y hy => ?_, by omega, rfl, ?_⟩
            · rcases List.mem_or_eq_of_mem_set hy with hy | rfl
              · have := hRu y hy; omega
              · show R[k].2 - 1 ≤ _; omega
            · have e2 : (R.map rrow).set k (wrL (rrow R[k]) 7 [pI (R[k].2 - 1)]) = (R.set k (R[k].1, R[k].2 - 1)).map rrow := by rw [List.map_set]; rfl
              have h4' : Ow [Vec 45 8 (.raw (.slice (some ⟨b, 0, none⟩) R.length cp)) ((R.map rrow).set k (wrL (rrow R[k]) 7 [pI (R[k].2 - 1)])), NetAt n es (leaveM (k : Int) ms)] u3 := h4
              rw [e2] at h4'
              exact h4'
          · have hno := hP.none_ hI (hs0 g)
            have e : leaveM z ms = ms := by unfold leaveM; rw [hno]
            rw [e] at h2
            exact stay _ h2.swap
      · rintro s4 _ rfl
        refine CIf.mk (fun _ => ?_) (fun _ => ?_)
        · refine cAPut hO.swap hI l[i].e (fun hs u2 h2 => ⟨_, _, _, rfl, PureK.call (cTag fl es l[i].e.tag (by omega)) ?_⟩) (fun hs u2 f2 h2 => ⟨_, _, _, rfl, PureK.call (cTag fl es l[i].e.tag (by omega)) ?_⟩)
          · rintro _ (⟨k, hk, rfl, _⟩ | ⟨_, hno⟩)
            · exact ⟨_, rfl, CIf.t (by simp) (CIf.f rfl (CIf.f rfl (hnext _ _ _ (stay _ h2.swap))))⟩
            · rw [(getK_none (key := tagE) cmpI_ok).2 hno] at hs; cases hs
          · rintro _ (⟨k, hk, rfl, e⟩ | ⟨rfl, hno⟩)
            · exact absurd e ((getK_none cmpI_ok).1 hs _ (List.getElem_mem hk))
            · refine ⟨_, rfl, CIf.f (by simp) (CIf.f rfl (cRIn h2.swap l[i].e (by omega) (fun x hx => (hP.nn x hx).1) fun f3 u3 h3 => ⟨_, _, rfl, ?_⟩))⟩
              have hhl := hitsM_len l[i].e ms
              refine (qInts _ _ _ _ (by omega)).call (fun _ => ⟨_, rfl, CIf.f rfl ?_⟩) (fun h => absurd (hP.hits hI l[i].e) h)
              have hil := insK_len (ck := cmpI) (key := tagE) (x := l[i].e) (L := es)
              exact (cRise fl es l[i].e (by omega) hI.ues hno).call ⟨_, _, rfl, R, _, _, hI.putE hs (by omega), hP.map fun x => ⟨rfl, rfl, rfl⟩, by omega, fun y hy => by have := hRu y hy; omega, by omega, rfl, h3⟩
        · refine PureK.call (cTag fl es l[i].n (by omega)) ?_
          rintro _ hcase
          have hx : ∃ z : Int, wk (pI z) = pI z := ⟨0, rfl⟩
          rcases hcase with ⟨k, hk, rfl, ek⟩ | ⟨rfl, hno⟩
          · refine ⟨_, rfl, cADrop hO.swap hI l[i].n (fun hs => absurd ek ((getK_none cmpI_ok).1 hs _ (List.getElem_mem hk))) (fun e hs u2 f2 h2 => ⟨_, _, _, rfl, CIf.f (by simp) (CIf.f rfl ⟨by omega, _, atRow hk, _, _, _, _, _, _, _, _, _, _, _, _, rfl, ?_⟩)⟩)⟩
            have hek : e = es[k] := by
              have : getK cmpI tagE l[i].n es = some es[k] := (getK_iff cmpI_ok hI.ues).2 ⟨List.getElem_mem hk, ek⟩
              rw [this] at hs; exact (Option.some.inj hs).symm
            subst hek
            refine cRIn h2.swap es[k] (by omega) (fun x hx => (hP.nn x hx).1) fun f3 u3 h3 => ⟨_, _, rfl, ?_⟩
            have hhl := hitsM_len es[k] ms
            refine (qInts _ _ _ _ (by omega)).call (fun _ => ⟨_, rfl, CIf.f rfl ?_⟩) (fun h => absurd (hP.hits hI es[k]) h)
            have hw1 : IntKind.wrap .i64 ((k : Int) + 1) = ((k + 1 : Nat) : Int) := by rw [wrap_id (by omega) (by omega)]; omega
            rw [hw1]
            have e1 : List.drop (Int.toNat (0 : Int)) (List.take (Int.toNat (k : Int)) (es.map Elem.pv)) = (es.take k).map Elem.pv := by simp [List.map_take]
            have e2 : List.drop (Int.toNat ((k + 1 : Nat) : Int)) (List.take (Int.toNat (((es.map Elem.pv).length : Nat) : Int)) (es.map Elem.pv)) = (es.drop (k + 1)).map Elem.pv := by
              rw [Int.toNat_natCast, Int.toNat_natCast, List.take_length, List.map_drop]
            rw [e1, e2]
            have l1 : ((es.take k).map Elem.pv).length = k := by rw [List.length_map, List.length_take]; omega
            have l2 : ((es.drop (k + 1)).map Elem.pv).length = es.length - (k + 1) := by rw [List.length_map, List.length_drop]
            refine ⟨by omega, by omega, by simp; omega, by omega, by simp; omega, by omega, ?_⟩
            refine Ow.app (Ow.nil (n := 0) h3 (.inl rfl)) rfl (by rw [l1]; omega) (by rw [l1]; omega) fun f4 u4 h4 => ?_
            refine Ow.app h4 (by simp) (by rw [l1, l2]; omega) (by rw [l1, l2]; omega) fun f5 u5 h5 => ?_
            have hd := delK_at hI.ues hk
            rw [ek] at hd
            refine ⟨R, _, _, hI.dropE l[i].n, hP.map fun x => ⟨rfl, rfl, rfl⟩, by omega, fun y hy => by have := hRu y hy; omega, Nat.le_trans delK_len (by omega), ?_, h5.drop⟩
            rw [hd, List.map_append]; rfl
          · refine ⟨_, rfl, cADrop hO.swap hI l[i].n (fun hs u2 h2 => ⟨_, _, _, rfl, CIf.t (by simp) (CIf.f rfl (CIf.f rfl (hnext _ _ _ (stay _ h2.swap))))⟩) (fun e hs => ?_)⟩
            rw [(getK_none (key := tagE) cmpI_ok).2 hno] at hs; cases hs
    · rintro ⟨⟨a1, n1, c1⟩, ⟨f1, _⟩⟩ u1 ⟨R1, ms1, es1, hI1, hP1, hR1, hRu1, hE1, rfl, hO1⟩
      exact cRight f1 hO1 hI1 hP1 (by omega) (by omega) fun u2 h2 => ⟨_, rfl, CIf.f rfl (hnext _ _ _ ⟨R1, ms1, es1, hI1, hP1, hR1, hRu1, hE1, rfl, h2⟩)⟩
  · rintro ⟨a, n0, cp⟩ ⟨fl, _⟩ u next _
    exact CIf.f (by simp) (cWakes12.call ⟨_, rfl, rfl⟩)

end Go.Proofs.YtdiimonfmdbclaaGreat

/-
  The program's types, opened: symbols, bindings, tests, elements, conditions.
-/
namespace Go.Proofs.YtdiimonfmdbclaaGreat
open Go.Eng
set_option linter.unusedVariables false
set_option linter.unusedSimpArgs false
set_option linter.unnecessarySimpa false
set_option maxRecDepth 100000

theorem progOwn : ownKnob Tryz.prog.godebug = none := by kernel_rfl
theorem progLaid : laidOutB Tryz.prog = true := by kernel_rfl

section
variable {w : World}

theorem szInt : Tryz.prog.cellsOf 3 = 1 := by kernel_rfl
theorem szBool : Tryz.prog.cellsOf 4 = 1 := by kernel_rfl
theorem szString : Tryz.prog.cellsOf 9 = 1 := by kernel_rfl
theorem szSym : Tryz.prog.cellsOf 34 = 3 := by kernel_rfl
theorem szSyms : Tryz.prog.cellsOf 72 = 1 := by kernel_rfl
theorem szTest : Tryz.prog.cellsOf 74 = 6 := by kernel_rfl
theorem szTests : Tryz.prog.cellsOf 29 = 1 := by kernel_rfl
theorem szCond : Tryz.prog.cellsOf 32 = 7 := by kernel_rfl
theorem szConds : Tryz.prog.cellsOf 30 = 1 := by kernel_rfl

theorem rdSym (n : Nat) (cs : List Value) (h : Reads Tryz.prog w n 34 cs) : ∃ s : Sym, RepC (Zall w) s.pv cs ∧ True := by
  obtain ⟨m, rfl, hl, hf⟩ := h.struct Tryz.underlying34
  rw [szSym] at hl
  obtain ⟨i0, e0, _⟩ := (fldR hf 0 0 szInt rfl rfl rfl).pint Tryz.underlying3
  obtain ⟨i1, e1, _⟩ := (fldR hf 1 1 szString rfl rfl rfl).pstr Tryz.underlying9
  obtain ⟨i2, e2, _⟩ := (fldR hf 2 2 szInt rfl rfl rfl).pint Tryz.underlying3
  match cs, hl with
  | [x0, x1, x2], _ => exact ⟨⟨_, _, _⟩, (e0.append e1).append e2, trivial⟩

theorem rdSyms (n : Nat) (cs : List Value) (h : Reads Tryz.prog w n 72 cs) : ∃ l : List Sym, RepC (Zall w) [.list 3 .sh (l.map Sym.pv)] cs ∧ (∀ s ∈ l, True) ∧ l.length ≤ maxLen :=
  h.plist Tryz.underlying72 szSym (by omega) fun m cs _ hr => rdSym m cs hr

theorem rdTest (n : Nat) (cs : List Value) (h : Reads Tryz.prog w n 74 cs) : ∃ t : Test, RepC (Zall w) t.pv cs ∧ True := by
  obtain ⟨m, rfl, hl, hf⟩ := h.struct Tryz.underlying74
  rw [szTest] at hl
  obtain ⟨i0, e0, _⟩ := (fldR hf 0 0 szInt rfl rfl rfl).pint Tryz.underlying3
  obtain ⟨i1, e1, _⟩ := (fldR hf 1 1 szString rfl rfl rfl).pstr Tryz.underlying9
  obtain ⟨s, e2, _⟩ := rdSym _ _ (fldR hf 2 2 szSym rfl rfl rfl)
  obtain ⟨l, e3, _⟩ := rdSyms _ _ (fldR hf 3 5 szSyms rfl rfl rfl)
  match cs, hl with
  | [x0, x1, x2, x3, x4, x5], _ => exact ⟨⟨_, _, s, l⟩, ((e0.append e1).append e2).append e3, trivial⟩

theorem rdTests (n : Nat) (cs : List Value) (h : Reads Tryz.prog w n 29 cs) : ∃ l : List Test, RepC (Zall w) [.list 6 .sh (l.map Test.pv)] cs ∧ (∀ s ∈ l, True) ∧ l.length ≤ maxLen :=
  h.plist Tryz.underlying29 szTest (by omega) fun m cs _ hr => rdTest m cs hr

theorem rdCond : ∀ (n : Nat) (cs : List Value), Reads Tryz.prog w n 32 cs → ∃ c : Cond, RepC (Zall w) c.pv cs ∧ True := by
  intro n
  induction n using Nat.strongRecOn with
  | ind n ih =>
    intro cs h
    obtain ⟨m, rfl, hl, hf⟩ := h.struct Tryz.underlying32
    rw [szCond] at hl
    obtain ⟨i0, e0, _⟩ := (fldR hf 0 0 szInt rfl rfl rfl).pint Tryz.underlying3
    obtain ⟨i1, e1⟩ := (fldR hf 1 1 szBool rfl rfl rfl).pbool Tryz.underlying4
    obtain ⟨i2, e2, _⟩ := (fldR hf 2 2 szString rfl rfl rfl).pstr Tryz.underlying9
    obtain ⟨a3, e3, _⟩ := rdTests _ _ (fldR hf 3 3 szTests rfl rfl rfl)
    obtain ⟨a4, e4, _⟩ := rdTests _ _ (fldR hf 4 4 szTests rfl rfl rfl)
    obtain ⟨i5, e5⟩ := (fldR hf 5 5 szBool rfl rfl rfl).pbool Tryz.underlying4
    obtain ⟨l, e6, _⟩ := (fldR hf 6 6 szConds rfl rfl rfl).plist (pv := Cond.pv) (Q := fun _ => True) Tryz.underlying30 szCond (by omega) fun m' cs' hm hr => ih m' (by omega) cs' hr
    match cs, hl with
    | [x0, x1, x2, x3, x4, x5, x6], _ =>
      refine ⟨.mk i0 i1 i2 a3 a4 i5 l, ?_, trivial⟩
      rw [Cond.pv_eq]
      exact (((((e0.append e1).append e2).append e3).append e4).append e5).append e6

theorem rdConds (n : Nat) (cs : List Value) (h : Reads Tryz.prog w n 30 cs) : ∃ l : List Cond, RepC (Zall w) [.list 7 .sh (l.map Cond.pv)] cs ∧ (∀ s ∈ l, True) ∧ l.length ≤ maxLen :=
  h.plist Tryz.underlying30 szCond (by omega) fun m cs _ hr => rdCond m cs hr

end
end Go.Proofs.YtdiimonfmdbclaaGreat

/-
  The program's types, opened: elements.
-/
namespace Go.Proofs.YtdiimonfmdbclaaGreat
open Go.Eng
set_option linter.unusedVariables false
set_option linter.unusedSimpArgs false
set_option linter.unnecessarySimpa false
set_option maxRecDepth 100000

section
variable {w : World}

theorem szElem : Tryz.prog.cellsOf 36 = 12 := by kernel_rfl

theorem rdElem (n : Nat) (cs : List Value) (h : Reads Tryz.prog w n 36 cs) : ∃ s : Elem, RepC (Zall w) s.pv cs ∧ True := by
  obtain ⟨m, rfl, hl, hf⟩ := h.struct Tryz.underlying36
  rw [szElem] at hl
  obtain ⟨a, e0, _⟩ := rdSym _ _ (fldR hf 0 0 szSym rfl rfl rfl)
  obtain ⟨b, e1, _⟩ := rdSym _ _ (fldR hf 1 3 szSym rfl rfl rfl)
  obtain ⟨c, e2, _⟩ := rdSym _ _ (fldR hf 2 6 szSym rfl rfl rfl)
  obtain ⟨i3, e3⟩ := (fldR hf 3 9 szBool rfl rfl rfl).pbool Tryz.underlying4
  obtain ⟨i4, e4⟩ := (fldR hf 4 10 szBool rfl rfl rfl).pbool Tryz.underlying4
  obtain ⟨i5, e5, _⟩ := (fldR hf 5 11 szInt rfl rfl rfl).pint Tryz.underlying3
  match cs, hl with
  | [x0, x1, x2, x3, x4, x5, x6, x7, x8, x9, x10, x11], _ => exact ⟨⟨a, b, c, _, _, _⟩, ((((e0.append e1).append e2).append e3).append e4).append e5, trivial⟩

end
end Go.Proofs.YtdiimonfmdbclaaGreat

/-
  The program's types, opened: steps of a play.
-/
namespace Go.Proofs.YtdiimonfmdbclaaGreat
open Go.Eng
set_option linter.unusedVariables false
set_option linter.unusedSimpArgs false
set_option linter.unnecessarySimpa false
set_option maxRecDepth 100000

section
variable {w : World}

theorem szAct : Tryz.prog.cellsOf 38 = 21 := by kernel_rfl

theorem rdAct (n : Nat) (cs : List Value) (h : Reads Tryz.prog w n 38 cs) : ∃ s : Act, RepC (Zall w) s.pv cs ∧ True := by
  obtain ⟨m, rfl, hl, hf⟩ := h.struct Tryz.underlying38
  rw [szAct] at hl
  obtain ⟨i0, e0, _⟩ := (fldR hf 0 0 szInt rfl rfl rfl).pint Tryz.underlying3
  obtain ⟨i1, e1, _⟩ := (fldR hf 1 1 szInt rfl rfl rfl).pint Tryz.underlying3
  obtain ⟨c, e2, _⟩ := rdCond _ _ (fldR hf 2 2 szCond rfl rfl rfl)
  obtain ⟨e, e3, _⟩ := rdElem _ _ (fldR hf 3 9 szElem rfl rfl rfl)
  rw [Cond.pv_eq] at e2
  match cs, hl with
  | [x0, x1, x2, x3, x4, x5, x6, x7, x8, x9, x10, x11, x12, x13, x14, x15, x16, x17, x18, x19, x20], _ => exact ⟨⟨i0, i1, c, e⟩, ((e0.append e1).append e2).append e3, trivial⟩

end
end Go.Proofs.YtdiimonfmdbclaaGreat

namespace Go.Proofs.YtdiimonfmdbclaaGreat
open Go.ChangeShapes Go.WideShapes Go.ChangeAt Go.RowKit Go.Eng
set_option linter.unusedVariables false

set_option maxRecDepth 100000 in
theorem AlphaPlays.lifted (os : Os) (started : os.Started) (H : Type) (enc : TypeId × Value → H) :
    ReturnsInHanded {} Tryz.checked os 3 .any (Rows.alphaPlaysSpec.pre6 enc Tryz.prog Tryz.f3 Rows.alphaPlaysRow.domain false) (Rows.alphaPlaysSpec.post enc Tryz.prog Tryz.f3 false true false false) := by
  refine returnsInHanded_of_change (C := Tryz.checked) progOwn started (by kernel_rfl) Tryz.func3
    (ChangeSpec.witness6 (enc := enc) (C := Tryz.checked) false ⟨#[], #[.slice none 0 0], []⟩ 12 (by kernel_rfl) (by kernel_rfl) (by kernel_rfl) (by kernel_rfl)) ?_
  intro W base args ds gs before hval0 hW hcnd _
  have hval : ∀ (j : Nat) t v, Tryz.f3.params[j]? = some t → args[j]? = some v → Value.okWide Tryz.prog W .any base t v := hval0
  have hW' := hW
  obtain ⟨p, q, hA0, hV, rfl, hfz, hnd⟩ := hW
  have hA : DataW.TrodAll enc Tryz.prog W 0 (fun _ => true) true Tryz.f3.params.toList args.toList ds p := hA0
  rw [Tryz.params3] at hA hval
  obtain ⟨v0, vs0, d0, ds0, p0, q0, hargs, rfl, rfl, h0, r0⟩ := trodAll_cons hA
  obtain ⟨rfl, rfl, rfl⟩ := trodAll_nil r0
  obtain rfl : args = #[v0] := by cases args; simp_all
  obtain ⟨rfl, rfl⟩ := trodVars_none hV
  have lt0 : ∀ x ∈ p0, x.block < W.heap.size := by obtain ⟨m, hm⟩ := h0; exact DataW.trod_lt m _ _ _ hm
  obtain ⟨a0, e0, w0⟩ := pargList Tryz.underlying22 szAct (by omega) rdAct (hval 0 22 v0 rfl rfl) h0
  clear hA0 hval0
  refine (PureK.calls (vs := [v0]) (cAlphaPlays a0 w0) (Reps.cons rfl e0 (Reps.nil _))).mono fun e W' ⟨⟨v, x, Z, he, hr, hx⟩, bel⟩ => ?_
  subst hx; subst he; rw [hr.ofRaw.1]
  exact ⟨_, rfl, _, _, _, [], _, [], hW', trodAll_mk1 (shut_bool Tryz.underlying4 _), (trodAll_cons_mk (Below.trod progLaid (by kernel_rfl) (of_decide_eq_true (by kernel_rfl)) h0 bel lt0) trodAll_mk0), rfl, bel.frame _, fun h => by cases h⟩

theorem AlphaPlays.proved : Rows.AlphaPlaysSaid :=
  OpenClaim.holds_of_wide 3 Tryz.f3 rfl rfl rfl rfl rfl rfl rfl ⟨rfl, rfl, rfl, rfl, rfl⟩ rfl rfl rfl rfl rfl (by kernel_rfl) Tryz.func3 (by kernel_rfl)
    (of_decide_eq_true (by kernel_rfl)) (by unfold Func.isWrapper; first | (rw [if_pos (by decide +kernel)]; kernel_rfl) | (rw [if_neg (by decide +kernel)]; exact ⟨rfl, rfl⟩))
    (fun os started H enc _ => AlphaPlays.lifted os started H enc)

end Go.Proofs.YtdiimonfmdbclaaGreat
