import Derived.Test.YtdiimonfmdbclaaStAT
/-
  Elements by their tags, in a map (package alpha).
-/
namespace Go.Proofs.Ytdiimonfmdbclaa
open Go.Eng Go.RowKit
set_option linter.unusedVariables false
set_option linter.unusedSimpArgs false
set_option linter.unnecessarySimpa false

namespace AE
abbrev KY := Int
abbrev VL := Elem
abbrev El := Int × Elem
@[reducible] def pv (x : El) : List PV := [pI x.1, pI x.2.id.k, pS x.2.id.t, pI x.2.id.n, pI x.2.attr.k, pS x.2.attr.t, pI x.2.attr.n, pI x.2.value.k, pS x.2.value.t, pI x.2.value.n, pB x.2.acc, pB x.2.goal, pI x.2.tag]
@[reducible] def arg (x : El) : PV := .agg (pv x)
@[reducible] def argK (k : Int) : PV := pI k
@[reducible] def argV (e : Elem) : PV := .agg e.pv
def z : Elem := ⟨⟨0, ⟨#[]⟩, 0⟩, ⟨0, ⟨#[]⟩, 0⟩, ⟨0, ⟨#[]⟩, 0⟩, false, false, 0⟩
@[reducible] def zc : List PV := [pI 0, pI 0, pS ⟨#[]⟩, pI 0, pI 0, pS ⟨#[]⟩, pI 0, pI 0, pS ⟨#[]⟩, pI 0, pB false, pB false, pI 0]
@[reducible] def zero : PV := .agg zc
@[reducible] def zeroV : PV := .agg [pI 0, pS ⟨#[]⟩, pI 0, pI 0, pS ⟨#[]⟩, pI 0, pI 0, pS ⟨#[]⟩, pI 0, pB false, pB false, pI 0]
def key (x : El) : Int := x.1
theorem keyInj {y : El} {k : Int} (h : key y = key (k, z)) : y.1 = k := h
theorem keyFst (a : Int) (v : Elem) (y : El) (h : a = y.1) : key (a, v) = key y := h
abbrev ck : Int → Int → Int := cmpI
theorem hc : Cmp ck := cmpI_ok
theorem cCmp (a b : El) : Pure Try.prog 117 [arg a, arg b] (pI (ck (key a) (key b))) := by
  refine PureK.of (G_book_page_alpha_number_api_Elem_Compare.c ?_)
  first
    | exact (cNumCmp _ _).call ⟨_, rfl, rfl⟩
    | exact ⟨fun v => by kernel_rfl, (cNumCmp _ _).call ⟨_, rfl, rfl⟩⟩

abbrev tySet : TypeId := 139
abbrev tyEl : TypeId := 105
abbrev At (b : Nat) (l : List El) : Asn := SetAt tySet tyEl 13 b (l.map pv)
theorem each (l : List El) : ∀ r ∈ l.map pv, r.length = 13 := rowsLenK (pv := pv) (fun _ => rfl) l
theorem cell (l : List El) : allCell (l.map pv).flatten = true := rowsCellK (pv := pv) (fun _ => rfl) l
theorem row {l : List El} {i : Nat} (h : i < l.length) : (l.map pv)[Int.toNat (i : Int)]? = some (pv l[i]) := atRow h

theorem cFindL (b : Nat) (s : Bool) (l : List El) (hu : UpK ck key l) (hl : l.length ≤ 4000000000000000000) (x : El) : CallP Try.prog 86 [pP b 0, arg x] (M0.set b (some (.ro tySet [.list 13 .sh (l.map pv), pB s]))) fun p _ => ∃ (k : Nat) (t : Bool), p = .tup [pI k, pB t] ∧ FoundAt ck (l.map key) (key x) k t := by
  refine G_order_Set_book_page_alpha_number_api_Elem_find.c ?_
  refine ⟨_, _, rdM_ro (Mem.set_same _ _ _) (by simp), ?_⟩
  have hrd : ∀ u, u = M0.set b (some (.ro tySet [.list 13 .sh (l.map pv), pB s])) → rdM u b 0 1 = some [.list 13 .sh (l.map pv)] := fun u h => by rw [h]; exact rdM_ro (Mem.set_same _ _ _) (by simp)
  rw [List.length_map]
  have huu := hu.up
  have hll : (l.map key).length = l.length := by simp
  refine LoopI.bin (n := l.length) (by omega) (fun i => if h : i < l.length then ck (key l[i]) (key x) else 1) (fun u => u = M0.set b (some (.ro tySet [.list 13 .sh (l.map pv), pB s]))) rfl ?_ ?_ ?_ ?_
  · intro i j hij hj h
    rw [dif_pos hj] at h
    rw [dif_pos (Nat.lt_trans hij hj)]
    have := huu.mono1 hc (x := key x) hij (by simpa using hj) (by simpa using h)
    simpa using this
  · intro i j hij hj h
    rw [dif_pos (Nat.lt_trans hij hj)] at h
    rw [dif_pos hj]
    have := huu.mono2 hc (x := key x) hij (by simpa using hj) (by simpa using h)
    simpa using this
  · intro lo hi mid u next hlt hhi hmid hmn hA h1 h2 h3
    subst hA
    rw [dif_pos hmn] at h1 h2 h3
    refine CIf.t (by simpa using hlt) ⟨by decide, ?_⟩
    refine ⟨_, _, hrd _ rfl, ?_⟩
    dsimp only
    rw [midE hlt (by omega), ← hmid]
    refine ⟨by omega, _, row hmn, _, _, _, _, _, _, _, _, _, _, _, _, _, rfl, fun v => by kernel_rfl, (cCmp l[mid] x).call ⟨_, rfl, CIf.mk (fun h => ?_) (fun h => CIf.mk (fun h' => ?_) (fun h' => ?_))⟩⟩
    · have h0 : ck (key l[mid]) (key x) = 0 := by simpa using h
      refine ⟨mid, true, rfl, by rw [hll]; omega, fun i hi hik => ?_, fun _ => ⟨by rw [hll]; exact hmn, by rw [List.getElem_map]; exact (hc.zero _ _).1 h0⟩, fun h => by cases h⟩
      have := h3 h0 i hik
      rw [dif_pos (by rw [hll] at hi; exact hi)] at this
      rw [List.getElem_map]; exact this
    · have h0 : ck (key l[mid]) (key x) < 0 := by simpa using h'
      have := h1 h0 _ rfl
      rw [wrap_id (by omega) (by omega)]
      exact this
    · have h0 : 0 < ck (key l[mid]) (key x) := by
        have a1 : ck (key l[mid]) (key x) ≠ 0 := by simpa using h
        have a2 : ¬ ck (key l[mid]) (key x) < 0 := by simpa using h'
        omega
      exact h2 h0 _ rfl
  · intro k u next hA hk h1 h2
    refine CIf.f (by simp) ?_
    refine ⟨k, false, rfl, by rw [hll]; exact hk, fun i hi hik => ?_, fun h => (by cases h), fun _ i hi hik => ?_⟩
    · have := h1 i hik; rw [hll] at hi; rw [dif_pos hi] at this; rw [List.getElem_map]; exact this
    · rw [hll] at hi; have := h2 i hik hi; rw [dif_pos hi] at this; rw [List.getElem_map]; exact this

theorem cFindIn {μ : Mem} {b : Nat} {l : List El} {F : List Nat} (h : SetIn tySet tyEl 13 μ b (l.map pv) F) (hu : UpK ck key l) (hl : l.length ≤ 4000000000000000000) (x : El) {K : PV → Mem → Prop} (hk : ∀ (k : Nat) (t : Bool), FoundAt ck (l.map key) (key x) k t → K (.tup [pI k, pB t]) μ) : CallP Try.prog 86 [pP b 0, arg x] μ K :=
  SetIn.query h (fun s => cFindL b s l hu hl x) (fun p ⟨k, t, e, _⟩ => by rw [e]; rfl) fun p ⟨k, t, e, hf⟩ => by rw [e]; exact hk k t hf

theorem cFind {L : List Asn} {μ : Mem} {b : Nat} {l : List El} (hO : Ow (At b l :: L) μ) (hu : UpK ck key l) (hl : l.length ≤ 4000000000000000000) (x : El) {K : PV → Mem → Prop} (hk : ∀ (k : Nat) (t : Bool), FoundAt ck (l.map key) (key x) k t → K (.tup [pI k, pB t]) μ) : CallP Try.prog 86 [pP b 0, arg x] μ K := by
  obtain ⟨F, h, _⟩ := SetAt.split hO
  exact cFindIn h hu hl x hk


theorem cGet {L : List Asn} {μ : Mem} {b : Nat} {l : List El} (hO : Ow (At b l :: L) μ) (hu : UpK ck key l) (hl : l.length ≤ 4000000000000000000) (x : El) {K : PV → Mem → Prop} (h1 : ∀ y, getK ck key (key x) l = some y → K (.tup [arg y, pB true]) μ) (h0 : getK ck key (key x) l = none → K (.tup [zero, pB false]) μ) : CallP Try.prog 71 [pP b 0, arg x] μ K := by
  obtain ⟨F, h, _⟩ := SetAt.split hO
  have key1 : ∀ k, FoundAt ck (l.map key) (key x) k true → ∃ hk : k < l.length, K (.tup [arg l[k], pB true]) μ := fun k hf => by
    obtain ⟨hk, e⟩ := hf.some hc hu
    exact ⟨hk, h1 _ e⟩
  rcases h.lies with ⟨_, hm⟩ | ⟨_, hn, hm⟩ | hr
  · refine G_order_Set_book_page_alpha_number_api_Elem_Get.c (CIf.f rfl (cFindIn h hu hl x fun k t hf => ⟨_, _, rfl, CIf.mk (fun ht => ?_) (fun ht => ?_)⟩))
    · have ht : t = false := by simpa using ht
      subst ht; exact h0 (hf.none hc)
    · have ht : t = true := by simpa using ht
      subst ht
      obtain ⟨hk, hK⟩ := key1 k hf
      exact ⟨_, _, rdM_at hm (by simp), by omega, _, row hk, _, _, _, _, _, _, _, _, _, _, _, _, _, rfl, hK⟩
  · refine G_order_Set_book_page_alpha_number_api_Elem_Get.c (CIf.f rfl (cFindIn h hu hl x fun k t hf => ⟨_, _, rfl, CIf.mk (fun ht => ?_) (fun ht => ?_)⟩))
    · have ht : t = false := by simpa using ht
      subst ht; exact h0 (hf.none hc)
    · have ht : t = true := by simpa using ht
      subst ht
      obtain ⟨hk, hK⟩ := key1 k hf
      have : (l.map pv).length = 0 := by rw [hn]; rfl
      simp at this; subst this; simp at hk
  · refine G_order_Set_book_page_alpha_number_api_Elem_Get_r.c (CIf.f rfl (cFindIn h hu hl x fun k t hf => ⟨_, _, rfl, CIf.mk (fun ht => ?_) (fun ht => ?_)⟩))
    · have ht : t = false := by simpa using ht
      subst ht; exact h0 (hf.none hc)
    · have ht : t = true := by simpa using ht
      subst ht
      obtain ⟨hk, hK⟩ := key1 k hf
      rcases hr with ⟨_, hn, _⟩ | ⟨b', c, rest, _, _, hm, hm', _⟩
      · have : (l.map pv).length = 0 := by rw [hn]; rfl
        simp at this; subst this; simp at hk
      · refine ⟨_, _, _, rdM_at hm (by simp), by omega, by simpa using hk, _, _, _, _, _, _, _, _, _, _, _, _, _, ?_, hK⟩
        rw [Int.toNat_natCast, Nat.zero_add]
        exact rdRow (each l) hm' (by rw [List.getElem?_map, List.getElem?_eq_getElem hk]; rfl)


theorem cOwn {μ : Mem} {b : Nat} {l : List El} {F : List Nat} (h : SetIn tySet tyEl 13 μ b (l.map pv) F) (hl : l.length ≤ 1000000000) {K : PV → Mem → Prop} (hk : ∀ μ' F', RawIn tySet tyEl 13 μ' b (l.map pv) F' → Mv μ μ' F F' → K (.tup []) μ') : CallP Try.prog 87 [pP b 0] μ K := by
  obtain ⟨μ0, hG, hmv, hlies⟩ := h.raw
  refine CallP.pre hG (G_order_Set_book_page_alpha_number_api_Elem_own.c ?_)
  rcases hlies with ⟨rfl, hm⟩ | hr
  · refine ⟨true, rdM_at hm (by simp), CIf.t rfl ?_⟩
    refine ⟨_, _, rdM_at hm (by simp), ?_⟩
    refine ⟨_, _, rdM_at hm (by simp), ?_⟩
    rw [List.length_map, wrap_id (by omega) (by omega)]
    refine ⟨by omega, by omega, by omega, by omega, fun b13 hb13 => ?_⟩
    have hne : b13 ≠ b := by rintro rfl; rw [hm] at hb13; cases hb13
    have hn : Int.toNat ((l.length : Int) + 1) = l.length + 1 := by omega
    rw [hn]
    refine appR_new (Mem.set_same _ _ _) (by simp) (by simp) (each l) (cell l) (by simp; omega) (by simp; omega) ?_
    rw [Mem.set_set]
    refine ⟨_, _, by rw [Mem.set_ne _ _ (Ne.symm hne)]; exact hm, by simp, ?_⟩
    refine ⟨_, _, Mem.set_same _ _ _, by simp [wrL], ?_⟩
    rw [Mem.set_set]
    refine hk _ [b, b13] (.inr ⟨b13, l.length + 1, _, rfl, hne, by rw [Mem.set_same]; rfl, by rw [Mem.set_ne _ _ hne, Mem.set_same], by simp; omega, by simp⟩) (hmv.trans ?_)
    exact ((Mv.set (F := [b]) (.inr hb13)).trans (Mv.set (.inl (by simp)))).sub (by simp)
  · obtain ⟨a, c, hm, _⟩ := hr.app (each l)
    exact ⟨false, rdM_at hm (by simp), CIf.f rfl (hk μ0 F hr hmv)⟩

theorem cPut {L : List Asn} {μ : Mem} {b : Nat} {l : List El} (hO : Ow (At b l :: L) μ) (hu : UpK ck key l) (hl : l.length ≤ 999999999) (x : El) {K : PV → Mem → Prop} (hk : ∀ μ', Ow (At b (putK ck key x l) :: L) μ' → K (pB (getK ck key (key x) l).isNone) μ') : CallP Try.prog 73 [pP b 0, arg x] μ K := by
  obtain ⟨F, h, hback⟩ := SetAt.split hO
  refine G_order_Set_book_page_alpha_number_api_Elem_Put.c ?_
  refine CIf.f rfl (cFindIn h hu (by omega) x fun k t hf => ⟨_, _, rfl, CIf.mk (fun ht => ?_) (fun ht => ?_)⟩)
  · subst ht
    obtain ⟨_, e⟩ := hf.some hc hu
    have := hk μ (by rw [putK, e]; exact hO)
    rw [e] at this; exact this
  · subst ht
    have en := hf.none hc
    have e1 : putK ck key x l = l.take k ++ x :: l.drop k := by rw [putK, en, hf.ins hc]; rfl
    rw [e1, en] at hk
    refine cOwn h (by omega) fun μ1 F1 hr hm1 => ⟨rfl, ?_⟩
    obtain ⟨a, c, hb, happ⟩ := hr.app (each l)
    refine ⟨_, _, _, rdM_at hb (by simp), ?_⟩
    simp only [List.length_map] at happ
    rw [List.length_map]
    refine happ (pv x) _ _ rfl rfl (by omega) (by omega) fun b' c' rest μ2 hne e2 hb' hrest hc' hm2 => ?_
    refine ⟨_, _, e2.trans hb, by simp, ?_⟩
    refine ⟨_, _, _, rdM_at (Mem.set_same _ _ _) (by simp [wrL]), ?_⟩
    have hn1 : IntKind.wrap .i64 (((l.length + 1 : Nat) : Int) - 1) = (l.length : Int) := by rw [wrap_id (by omega) (by omega)]; omega
    rw [hn1]
    have hle := hf.leK
    refine LoopI.down hle (by omega) (fun j u => ∃ y, u b = some (.cells tySet [.raw (.slice (some ⟨b', 0, none⟩) (l.length + 1) c'), pB false]) ∧ u b' = some (.cells tyEl (((l.take j ++ y :: l.drop j).map pv).flatten ++ rest)) ∧ Mv μ2 u [b, b'] [b, b']) ⟨x, ?_, ?_, ?_⟩ ?_ ?_
    · rw [Mem.set_same]; rfl
    · rw [Mem.set_ne _ _ hne, hb', List.take_length, List.drop_length]
      simp
    · exact (Mv.set (.inl (by simp))).sub (by simp)
    · rintro j u next hkj hjn ⟨y, i1, i2, i3⟩ hnext
      refine CIf.t (by simpa using hkj) ?_
      refine ⟨_, _, _, rdM_at i1 (by simp), ?_⟩
      refine ⟨_, _, _, rdM_at i1 (by simp), ?_⟩
      have hj1 : IntKind.wrap .i64 ((j : Int) - 1) = ((j - 1 : Nat) : Int) := by rw [wrap_id (by omega) (by omega)]; omega
      have hrd : rdM u b' (0 + Int.toNat (IntKind.wrap .i64 ((j : Int) - 1)) * 13) 13 = some (pv (l[j - 1]'(by omega))) := by
        rw [hj1, Int.toNat_natCast, Nat.zero_add]
        exact rdRow (each _) i2 (insAtK l j y (by omega) hjn)
      refine ⟨by rw [hj1]; omega, by rw [hj1]; omega, _, _, _, _, _, _, _, _, _, _, _, _, _, hrd, ?_⟩
      refine ⟨by omega, by omega, _, _, i2, ?_, hnext _ ⟨l[j - 1]'(by omega), ?_, ?_, ?_⟩⟩
      · have hfl := flatLen (each (l.take j ++ y :: l.drop j))
        rw [List.length_map, insLenK] at hfl
        rw [List.length_append, hfl, Int.toNat_natCast]; simp only [List.length_cons, List.length_nil]; omega
      · rw [Mem.set_ne _ _ (Ne.symm hne)]; exact i1
      · rw [Mem.set_same, Int.toNat_natCast, Nat.zero_add, wrRow (r := pv (l[j - 1]'(by omega))) (each _) (by rw [List.length_map, insLenK]; omega) rfl, insStepK l j y (by omega) hjn]
      · exact (i3.trans (Mv.set (.inl (by simp)))).sub (by simp)
    · rintro u next ⟨y, i1, i2, i3⟩
      refine CIf.f (by simp) ?_
      refine ⟨_, _, _, rdM_at i1 (by simp), ?_⟩
      refine ⟨by omega, by omega, _, _, i2, ?_, ?_⟩
      · have hfl := flatLen (each (l.take k ++ y :: l.drop k))
        rw [List.length_map, insLenK] at hfl
        rw [List.length_append, hfl, Int.toNat_natCast]; simp only [List.length_cons, List.length_nil]; omega
      · rw [Int.toNat_natCast, Nat.zero_add, wrRow (r := pv x) (each _) (by rw [List.length_map, insLenK]; omega) rfl, insEndK l k x y hle]
        refine hk (u.set b' (some (.cells tyEl (((l.take k ++ x :: l.drop k).map pv).flatten ++ rest)))) (hback (F' := [b, b']) (hm1.trans (hm2.trans ((i3.trans (Mv.set (.inl (by simp)))).sub (by simp)))) ⟨each _, cell _, .inr (.inr (.inr ⟨b', c', rest, rfl, hne, ?_, Mem.set_same _ _ _, ?_, ?_⟩))⟩)
        · rw [Mem.set_ne _ _ (Ne.symm hne), i1, List.length_map, insLenK]
        · rw [List.length_map, insLenK]; exact hrest
        · rw [List.length_map, insLenK]; exact hc'

theorem cDrop {L : List Asn} {μ : Mem} {b : Nat} {l : List El} (hO : Ow (At b l :: L) μ) (hu : UpK ck key l) (hl : l.length ≤ 999999999) (x : El) {K : PV → Mem → Prop} (hk : ∀ μ', Ow (At b (delK ck key (key x) l) :: L) μ' → K (pB (getK ck key (key x) l).isSome) μ') : CallP Try.prog 74 [pP b 0, arg x] μ K := by
  obtain ⟨F, h, hback⟩ := SetAt.split hO
  refine G_order_Set_book_page_alpha_number_api_Elem_Drop.c ?_
  refine CIf.f rfl (cFindIn h hu (by omega) x fun k t hf => ⟨_, _, rfl, CIf.mk (fun ht => ?_) (fun ht => ?_)⟩)
  · have ht : t = false := by simpa using ht
    subst ht
    have en := hf.none hc
    have e1 : delK ck key (key x) l = l := by
      unfold delK
      refine List.filter_eq_self.2 fun y hy => ?_
      have := (getK_none hc).1 en y hy
      simp only [eqK, Bool.not_eq_true', decide_eq_false_iff_not, hc.zero]; exact this
    rw [e1, en] at hk
    exact hk μ hO
  · have ht : t = true := by simpa using ht
    subst ht
    obtain ⟨hkl, es⟩ := hf.some hc hu
    rw [← hf.del hc hu, es] at hk
    refine cOwn h (by omega) fun μ1 F1 hr hm1 => ⟨rfl, ?_⟩
    rcases hr with ⟨_, hn, _⟩ | ⟨b', c, rest, rfl, hne, hb, hb', hrest, hcc⟩
    · have : (l.map pv).length = 0 := by rw [hn]; rfl
      simp at this; subst this; simp at hkl
    · rw [List.length_map] at hb hrest hcc
      refine LoopI.from (s := k) (n := l.length - 1) (by omega) (by omega) (fun j u => u b = some (.cells tySet [.raw (.slice (some ⟨b', 0, none⟩) l.length c), pB false]) ∧ u b' = some (.cells tyEl (((movK l k j).map pv).flatten ++ rest)) ∧ Mv μ1 u [b, b'] [b, b']) ⟨hb, by rw [movK0]; exact hb', Mv.refl _ _⟩ ?_ ?_
      · rintro j u next hkj hjn ⟨i1, i2, i3⟩ hnext
        have hj1 : IntKind.wrap .i64 ((j : Int) + 1) = ((j + 1 : Nat) : Int) := by rw [wrap_id (by omega) (by omega)]; omega
        have hml : ((movK l k j).map pv).length = l.length := by rw [List.length_map, movK_len hkj (by omega)]
        have hrd : rdM u b' (0 + Int.toNat (IntKind.wrap .i64 ((j : Int) + 1)) * 13) 13 = some (pv (l[j + 1]'(by omega))) := by
          rw [hj1, Int.toNat_natCast, Nat.zero_add]
          exact rdRow (each _) i2 (by rw [List.getElem?_map, movK_at hkj (by omega)]; rfl)
        refine ⟨_, _, _, rdM_at i1 (by simp), CIf.t (by rw [hj1]; simp; omega) ?_⟩
        refine ⟨_, _, _, rdM_at i1 (by simp), ?_⟩
        refine ⟨_, _, _, rdM_at i1 (by simp), ?_⟩
        refine ⟨by rw [hj1]; omega, by rw [hj1]; omega, _, _, _, _, _, _, _, _, _, _, _, _, _, hrd, ?_⟩
        refine ⟨by omega, by omega, _, _, i2, ?_, hnext _ ⟨?_, ?_, ?_⟩⟩
        · have hfl := flatLen (each (movK l k j))
          rw [hml] at hfl
          rw [List.length_append, hfl, Int.toNat_natCast]; simp only [List.length_cons, List.length_nil]; omega
        · rw [Mem.set_ne _ _ (Ne.symm hne)]; exact i1
        · rw [Mem.set_same, Int.toNat_natCast, Nat.zero_add, wrRow (r := pv (l[j + 1]'(by omega))) (each _) (by rw [hml]; omega) rfl, ← List.map_set, movK_step hkj (by omega)]
        · exact (i3.trans (Mv.set (.inl (by simp)))).sub (by simp)
      · rintro u next ⟨i1, i2, i3⟩
        have hj1 : IntKind.wrap .i64 (((l.length - 1 : Nat) : Int) + 1) = ((l.length : Nat) : Int) := by rw [wrap_id (by omega) (by omega)]; omega
        have hj2 : IntKind.wrap .i64 (((l.length : Nat) : Int) - 1) = ((l.length - 1 : Nat) : Int) := by rw [wrap_id (by omega) (by omega)]; omega
        refine ⟨_, _, _, rdM_at i1 (by simp), CIf.f (by rw [hj1]; simp) ?_⟩
        refine ⟨_, _, _, rdM_at i1 (by simp), ?_⟩
        refine ⟨_, _, _, rdM_at i1 (by simp), ?_⟩
        refine ⟨fun a ha => by cases ha; rfl, by omega, by rw [hj2]; omega, by rw [hj2]; omega, by omega, _, _, i1, by simp, ?_⟩
        rw [hj2]
        have hel : (l.eraseIdx k).length = l.length - 1 := by rw [List.length_eraseIdx, if_pos hkl]
        refine hk _ (hback (F' := [b, b']) (hm1.trans ((i3.trans (Mv.set (.inl (by simp)))).sub (by simp))) ⟨each _, cell _, .inr (.inr (.inr ⟨b', c, pv (l[l.length - 1]'(by omega)) ++ rest, rfl, hne, ?_, ?_, ?_, ?_⟩))⟩)
        · rw [Mem.set_same, List.length_map, hel]
          have e0 : slA (some ⟨b', 0, none⟩) (Int.toNat 0) (Int.toNat ((c : Nat) : Int)) 13 = some ⟨b', 0, none⟩ := by
            unfold slA
            rw [if_neg (by simp; omega)]; simp
          rw [e0]
          simp [wrL]
        · rw [Mem.set_ne _ _ hne, i2, movK_end hkl, List.map_append, List.flatten_append]
          simp
        · rw [List.length_map, hel, List.length_append]
          have : (pv (l[l.length - 1]'(by omega))).length = 13 := rfl
          rw [this]
          omega
        · rw [List.length_map, hel]; omega


theorem atNew {L : List Asn} {μ : Mem} {b : Nat} (hO : Ow L μ) (hb : μ b = none) : Ow (At b [] :: L) (μ.set b (some (.cells tySet [.list 13 .nil [], pB false]))) :=
  (hO.new tySet [.list 13 .nil [], pB false] hb).imp fun ν hν => ⟨[b], each [], cell [], .inr (.inl ⟨rfl, rfl, hν⟩)⟩

theorem cNew {L : List Asn} {μ : Mem} (hO : Ow L μ) (fl : Fl) (xs : List El) (hx : xs.length ≤ 1000000) {K : PV → Mem → Prop} (hk : ∀ μ' b, Ow (At b (xs.foldl (fun l x => putK ck key x l) []) :: L) μ' → K (pP b 0) μ') : CallP Try.prog 57 [.list 13 fl (xs.map pv)] μ K := by
  refine G_order_New_book_page_alpha_number_api_Elem.c fun b hb => ?_
  have h0 := atNew hO hb
  have hup : ∀ (ys : List El), UpK ck key (ys.foldl (fun l x => putK ck key x l) []) ∧ (ys.foldl (fun l x => putK ck key x l) []).length ≤ ys.length := fun ys => by
    have key2 : ∀ (ys acc : List El), UpK ck key acc → UpK ck key (ys.foldl (fun l x => putK ck key x l) acc) ∧ (ys.foldl (fun l x => putK ck key x l) acc).length ≤ acc.length + ys.length := by
      intro ys
      induction ys with
      | nil => intro acc h; exact ⟨h, by simp⟩
      | cons y ys ih =>
        intro acc h
        obtain ⟨a1, a2⟩ := ih (putK ck key y acc) (h.put hc y)
        refine ⟨a1, ?_⟩
        have := putK_len (ck := ck) (key := key) (x := y) (L := acc)
        simp only [List.foldl_cons, List.length_cons] at a2 ⊢; omega
    have := key2 ys [] List.Pairwise.nil
    simpa using this
  refine LoopI.each (n := xs.length) (by omega) (fun i u => Ow (At b ((xs.take i).foldl (fun l x => putK ck key x l) []) :: L) u) h0 ?_ ?_
  · intro i u next hi hI hnext
    obtain ⟨a1, a2⟩ := hup (xs.take i)
    refine CIf.t (by simpa using hi) ⟨by omega, _, row hi, _, _, _, _, _, _, _, _, _, _, _, _, _, rfl, cPut hI a1 (by simp at a2; omega) xs[i] fun u' hI' => ⟨_, rfl, hnext _ ?_⟩⟩
    rw [List.take_add_one, List.getElem?_eq_getElem hi, List.foldl_append]
    exact hI'
  · intro u next hI
    refine CIf.f (by simp) (hk _ b ?_)
    rw [List.take_length] at hI; exact hI

theorem cFrom {fy : Fn} {ya yb : List PV} {I : Nat → Asn} {S C : Asn} {μ : Mem} {b k : Nat} {l : List El} (hO : Ow [At b l, C] μ) (hk : k ≤ l.length) (hl : l.length ≤ 4000000000000000000) (h0 : ∀ μ', Ow [At b l, C] μ' → Ow [I 0] μ')
    (hstep : ∀ (i : Nat) (h : i < ((l.drop k).map fun x => [arg x]).length) (μ : Mem), I i μ → CallVP Try.prog (.fn fy ya yb) ((l.drop k).map fun x => [arg x])[i] μ fun v μ' => (v = pB true ∧ Ow [I (i + 1)] μ') ∨ (v = pB false ∧ Ow [S] μ')) : CallP Try.prog 82 [pP b 0, pI (k : Nat), .fn fy ya yb] μ fun v μ' => v = .tup [] ∧ (Ow [I ((l.drop k).map fun x => [arg x]).length] μ' ∨ Ow [S] μ') := by
  obtain ⟨F, h, hback⟩ := SetAt.split hO
  obtain ⟨μ0, s, hG, hm, hmv⟩ := h.list
  refine CallP.pre hG (G_order_Set_book_page_alpha_number_api_Elem_from.c ?_)
  refine ⟨_, _, hm, by simp, ?_⟩
  have h1 : Ow [At b l, C] (μ0.set b (some (.cells tySet (wrL [.list 13 .sh (l.map pv), pB s] (0 + 1) [pB true])))) := hback (F' := [b]) ((hmv.trans (Mv.set (.inl (by simp)))).sub (by simp)) ⟨each l, cell l, .inl ⟨rfl, by rw [Mem.set_same]; rfl⟩⟩
  refine ⟨_, _, rdM_at (Mem.set_same _ _ _) (by simp [wrL]), ?_⟩
  rw [List.length_map]
  refine LoopI.from (s := k) (n := l.length) hk (by omega) (fun i u => Ow [I (i - k)] u) (by rw [Nat.sub_self]; exact h0 _ h1) ?_ ?_
  · intro i u next hki hi hI hnext
    have hid : i - k < ((l.drop k).map fun x => [arg x]).length := by simp; omega
    have hst := hstep (i - k) hid
    have hel : ((l.drop k).map fun x => [arg x])[i - k] = [arg l[i]] := by
      rw [List.getElem_map, List.getElem_drop]
      congr 3; omega
    rw [hel] at hst
    refine CIf.t (by simpa using hi) ⟨by omega, _, row hi, _, _, _, _, _, _, _, _, _, _, _, _, _, rfl, Ow.callV hI (fun ν hν => hst ν hν) fun v μ' hO' => ?_⟩
    rcases hO'.split2 with ⟨rfl, h⟩ | ⟨rfl, h⟩
    · refine ⟨true, rfl, CIf.f rfl (hnext _ ?_)⟩
      rw [show i + 1 - k = i - k + 1 by omega]; exact h
    · exact ⟨false, rfl, CIf.t rfl ⟨rfl, .inr h⟩⟩
  · intro u next hI
    refine CIf.f (by simp) ⟨rfl, .inl ?_⟩
    simp only [List.length_map, List.length_drop]; exact hI

@[reducible] def allF (b : Nat) : PV := .fn (.func 81) [] [.fptr [pP b 0] 0]
theorem cAll (b : Nat) : Pure Try.prog 66 [pP b 0] (allF b) := PureK.of (G_order_Set_book_page_alpha_number_api_Elem_All.c rfl)
theorem seqAll (b : Nat) (l : List El) (hl : l.length ≤ 4000000000000000000) : SeqO Try.prog (allF b) (l.map fun x => [arg x]) (At b l) (At b l) := by
  refine SeqO.mk fun fy ya yb I S C μ hy hO h0 hstep => ?_
  show CallP _ _ [.fn fy ya yb, .fptr [pP b 0] 0] _ _
  refine G_order_Set_book_page_alpha_number_api_Elem_All_1.c ⟨_, rfl, CIf.t rfl ⟨_, rfl, ?_⟩⟩
  refine CallP.mono (cFrom (k := 0) hO (by omega) hl h0 hstep) ?_
  rintro v μ' ⟨rfl, h⟩
  exact ⟨rfl, h⟩

/-- A map, and what it holds. -/
def MAt (m : Nat) (l : List El) : Asn := fun μ => ∃ s, Ow [Pt m 107 [pP s 0], At s l] μ
theorem MAt.open_ {m : Nat} {l : List El} {L : List Asn} {μ : Mem} (h : Ow (MAt m l :: L) μ) : ∃ s, Ow (Pt m 107 [pP s 0] :: At s l :: L) μ := by
  obtain ⟨s, h⟩ := Ow.ex h
  exact ⟨s, h.nest⟩
theorem MAt.shut {m s : Nat} {l : List El} {L : List Asn} {μ : Mem} (h : Ow (Pt m 107 [pP s 0] :: At s l :: L) μ) : Ow (MAt m l :: L) μ :=
  (Ow.pack (L1 := [Pt m 107 [pP s 0], At s l]) h).imp fun _ hν => ⟨s, hν⟩

theorem cAt (k : KY) : Pure Try.prog 72 [argK k] (arg (k, z)) := PureK.of (G_book_at_alpha_number_api_Elem.c rfl)

/-- A page that was looked for, in a cell of its own. -/
def PgIn (m s b7 : Nat) (l : List El) (L : List Asn) (k : KY) (t : Bool) : Asn := fun u =>
  (∃ y, getK ck key (key (k, z)) l = some y ∧ t = true ∧ Ow (Pt b7 105 (pv y) :: Pt m 107 [pP s 0] :: At s l :: L) u) ∨
  (getK ck key (key (k, z)) l = none ∧ t = false ∧ Ow (Pt b7 105 zc :: Pt m 107 [pP s 0] :: At s l :: L) u)

theorem cMGet {L : List Asn} {μ : Mem} {m : Nat} {l : List El} (hO : Ow (MAt m l :: L) μ) (hu : UpK ck key l) (hl : l.length ≤ 4000000000000000000) (k : KY) {K : PV → Mem → Prop} (h1 : ∀ y μ', getK ck key (key (k, z)) l = some y → Ow (MAt m l :: L) μ' → K (.tup [argV y.2, pB true]) μ') (h0 : ∀ μ', getK ck key (key (k, z)) l = none → Ow (MAt m l :: L) μ' → K (.tup [zeroV, pB false]) μ') : CallP Try.prog 49 [pP m 0, argK k] μ K := by
  obtain ⟨s, hO⟩ := MAt.open_ hO
  refine G_book_Map_alpha_number_api_Elem_Get.c (CIf.f rfl ⟨fun r u => ∃ b7, r.1 = some ⟨b7, 0, none⟩ ∧ PgIn m s b7 l L k r.2 u, ?_, ?_⟩)
  · refine ⟨_, hO.rd 0 rfl (by simp), (cAt k).q ⟨_, _, _, _, _, _, _, _, _, _, _, _, _, rfl, ?_⟩, fun b7 hb7 => (cAt k).q ⟨_, _, _, _, _, _, _, _, _, _, _, _, _, rfl, ?_⟩⟩
    · rw [Mem.or_M0]
      refine ⟨cGet hO.swap hu hl (k, z) (fun y hy => ⟨_, _, _, _, _, _, _, _, _, _, _, _, _, _, rfl, fun b7 hb7 => ?_⟩) (fun hy => ⟨_, _, _, _, _, _, _, _, _, _, _, _, _, _, rfl, fun b7 hb7 => ?_⟩), fun b7 hb7 => ?_⟩
      · exact (hO.new _ _ hb7).st 0 rfl (by simp) fun u hu => ⟨b7, rfl, .inl ⟨y, hy, rfl, hu⟩⟩
      · exact (hO.new _ _ hb7).st 0 rfl (by simp) fun u hu => ⟨b7, rfl, .inr ⟨hy, rfl, hu⟩⟩
      · have hO' := hO.new 105 zc hb7
        exact cGet (Ow.at 2 rfl hO') hu hl (k, z) (fun y hy => ⟨_, _, _, _, _, _, _, _, _, _, _, _, _, _, rfl, hO'.st 0 rfl (by simp) fun u hu => ⟨b7, rfl, .inl ⟨y, hy, rfl, hu⟩⟩⟩) (fun hy => ⟨_, _, _, _, _, _, _, _, _, _, _, _, _, _, rfl, hO'.st 0 rfl (by simp) fun u hu => ⟨b7, rfl, .inr ⟨hy, rfl, hu⟩⟩⟩)
    · rw [Mem.or_M0]
      have hO' := hO.new 105 zc hb7
      exact cGet (Ow.at 2 rfl hO') hu hl (k, z) (fun y hy => ⟨_, _, _, _, _, _, _, _, _, _, _, _, _, _, rfl, hO'.st 0 rfl (by simp) fun u hu => ⟨b7, rfl, .inl ⟨y, hy, rfl, hu⟩⟩⟩) (fun hy => ⟨_, _, _, _, _, _, _, _, _, _, _, _, _, _, rfl, hO'.st 0 rfl (by simp) fun u hu => ⟨b7, rfl, .inr ⟨hy, rfl, hu⟩⟩⟩)
  · rintro ⟨_, t⟩ u ⟨b7, rfl, ⟨y, hy, rfl, hu'⟩ | ⟨hy, rfl, hu'⟩⟩
    · exact ⟨_, _, _, _, _, _, _, _, _, _, _, _, hu'.rd 0 rfl (by simp), h1 y _ hy (MAt.shut hu'.drop)⟩
    · exact ⟨_, _, _, _, _, _, _, _, _, _, _, _, hu'.rd 0 rfl (by simp), h0 _ hy (MAt.shut hu'.drop)⟩

theorem putK_new (hc : Cmp ck) {x : El} {l : List El} (h : getK ck key (key x) l = none) : putK ck key x l = insK ck key x l := by rw [putK, h]; rfl
theorem ins_del (hc : Cmp ck) {x y : El} {l : List El} (hu : UpK ck key l) (e : key x = key y) : putK ck key x (delK ck key (key y) l) = insK ck key x l := by
  have hn : getK ck key (key x) (delK ck key (key y) l) = none := (getK_none hc).2 fun a ha => by
    have := ((mem_delK hc).1 ha).2
    rw [e]; exact this
  rw [putK, hn]
  refine UpK.ext hc ((hu.del _).ins hc x) (hu.ins hc x) fun a => ?_
  show a ∈ insK ck key x _ ↔ _
  rw [mem_insK hc, mem_insK hc, mem_delK hc, e]
  constructor
  · rintro (h | ⟨⟨h, _⟩, h2⟩)
    · exact .inl h
    · exact .inr ⟨h, h2⟩
  · rintro (h | ⟨h, h2⟩)
    · exact .inl h
    · exact .inr ⟨⟨h, h2⟩, h2⟩

theorem cMPut {L : List Asn} {μ : Mem} {m : Nat} {l : List El} (hO : Ow (MAt m l :: L) μ) (hu : UpK ck key l) (hl : l.length ≤ 999999998) (k : KY) (v : VL) {K : PV → Mem → Prop} (hk : ∀ μ', Ow (MAt m (insK ck key (k, v) l) :: L) μ' → K (pB (getK ck key (key (k, z)) l).isNone) μ') : CallP Try.prog 50 [pP m 0, argK k, argV v] μ K := by
  obtain ⟨s, hO⟩ := MAt.open_ hO
  have ekz : key (k, v) = key (k, z) := rfl
  refine G_book_Map_alpha_number_api_Elem_Put.c (CIf.f rfl ⟨fun r u => ∃ b7, r.1 = some ⟨b7, 0, none⟩ ∧ PgIn m s b7 l L k r.2 u, ?_, ?_⟩)
  · refine ⟨_, hO.rd 0 rfl (by simp), (cAt k).q ⟨_, _, _, _, _, _, _, _, _, _, _, _, _, rfl, ?_⟩, fun b7 hb7 => (cAt k).q ⟨_, _, _, _, _, _, _, _, _, _, _, _, _, rfl, ?_⟩⟩
    · rw [Mem.or_M0]
      refine ⟨cGet hO.swap hu (by omega) (k, z) (fun y hy => ⟨_, _, _, _, _, _, _, _, _, _, _, _, _, _, rfl, fun b7 hb7 => ?_⟩) (fun hy => ⟨_, _, _, _, _, _, _, _, _, _, _, _, _, _, rfl, fun b7 hb7 => ?_⟩), fun b7 hb7 => ?_⟩
      · exact (hO.new _ _ hb7).st 0 rfl (by simp) fun u hu => ⟨b7, rfl, .inl ⟨y, hy, rfl, hu⟩⟩
      · exact (hO.new _ _ hb7).st 0 rfl (by simp) fun u hu => ⟨b7, rfl, .inr ⟨hy, rfl, hu⟩⟩
      · have hO' := hO.new 105 zc hb7
        exact cGet (Ow.at 2 rfl hO') hu (by omega) (k, z) (fun y hy => ⟨_, _, _, _, _, _, _, _, _, _, _, _, _, _, rfl, hO'.st 0 rfl (by simp) fun u hu => ⟨b7, rfl, .inl ⟨y, hy, rfl, hu⟩⟩⟩) (fun hy => ⟨_, _, _, _, _, _, _, _, _, _, _, _, _, _, rfl, hO'.st 0 rfl (by simp) fun u hu => ⟨b7, rfl, .inr ⟨hy, rfl, hu⟩⟩⟩)
    · rw [Mem.or_M0]
      have hO' := hO.new 105 zc hb7
      exact cGet (Ow.at 2 rfl hO') hu (by omega) (k, z) (fun y hy => ⟨_, _, _, _, _, _, _, _, _, _, _, _, _, _, rfl, hO'.st 0 rfl (by simp) fun u hu => ⟨b7, rfl, .inl ⟨y, hy, rfl, hu⟩⟩⟩) (fun hy => ⟨_, _, _, _, _, _, _, _, _, _, _, _, _, _, rfl, hO'.st 0 rfl (by simp) fun u hu => ⟨b7, rfl, .inr ⟨hy, rfl, hu⟩⟩⟩)
  · rintro ⟨_, t⟩ u ⟨b7, rfl, ⟨y, hy, rfl, hu'⟩ | ⟨hy, rfl, hu'⟩⟩
    · obtain ⟨hym, hyk⟩ := (getK_iff hc hu).1 hy
      have hyk1 : y.1 = k := keyInj hyk
      refine CIf.f rfl ⟨_, hu'.rd 1 rfl (by simp), _, _, _, _, _, _, _, _, _, _, _, _, _, hu'.rd 0 rfl (by simp), ?_⟩
      refine cDrop (Ow.at 2 rfl hu') hu (by omega) y fun u2 hu2 => ⟨_, rfl, ?_⟩
      have hu3 := hu2.swap.tail fun _ h => h.swap
      have hlen := delK_len (ck := ck) (key := key) (k := key y) (L := l)
      refine ⟨_, hu2.rd 2 rfl (by simp), _, hu2.rd 1 rfl (by simp), ?_⟩
      have e1 : y = (k, y.2) := by rw [← hyk1]
      refine cPut (x := (y.1, v)) hu2 (hu.del _) (by omega) fun u4 hu4 => ⟨_, rfl, ?_⟩
      rw [ins_del hc hu (x := (y.1, v)) (y := y) (keyFst _ _ _ rfl), hyk1] at hu4
      have := hk u4 (MAt.shut ((Ow.at 2 rfl hu4).tail fun _ h => h.tail fun _ h => h.drop))
      rw [hy] at this
      exact this
    · refine CIf.t rfl ⟨_, hu'.rd 1 rfl (by simp), ?_⟩
      refine cPut (Ow.at 2 rfl hu') hu (by omega) (k, v) fun u2 hu2 => ⟨_, rfl, ?_⟩
      rw [ekz, hy]
      rw [putK_new hc (by rw [ekz]; exact hy)] at hu2
      have := hk u2 (MAt.shut ((Ow.at 2 rfl hu2).tail fun _ h => h.tail fun _ h => h.drop))
      rw [hy] at this
      exact this

theorem cMDrop {L : List Asn} {μ : Mem} {m : Nat} {l : List El} (hO : Ow (MAt m l :: L) μ) (hu : UpK ck key l) (hl : l.length ≤ 999999998) (k : KY) {K : PV → Mem → Prop} (h1 : ∀ y μ', getK ck key (key (k, z)) l = some y → Ow (MAt m (delK ck key (key (k, z)) l) :: L) μ' → K (.tup [argV y.2, pB true]) μ') (h0 : ∀ μ', getK ck key (key (k, z)) l = none → Ow (MAt m l :: L) μ' → K (.tup [zeroV, pB false]) μ') : CallP Try.prog 53 [pP m 0, argK k] μ K := by
  obtain ⟨s, hO⟩ := MAt.open_ hO
  refine G_book_Map_alpha_number_api_Elem_Drop.c (CIf.f rfl ⟨fun r u => ∃ b7, r.1 = some ⟨b7, 0, none⟩ ∧ PgIn m s b7 l L k r.2 u, ?_, ?_⟩)
  · refine ⟨_, hO.rd 0 rfl (by simp), (cAt k).q ⟨_, _, _, _, _, _, _, _, _, _, _, _, _, rfl, ?_⟩, fun b7 hb7 => (cAt k).q ⟨_, _, _, _, _, _, _, _, _, _, _, _, _, rfl, ?_⟩⟩
    · rw [Mem.or_M0]
      refine ⟨cGet hO.swap hu (by omega) (k, z) (fun y hy => ⟨_, _, _, _, _, _, _, _, _, _, _, _, _, _, rfl, fun b7 hb7 => ?_⟩) (fun hy => ⟨_, _, _, _, _, _, _, _, _, _, _, _, _, _, rfl, fun b7 hb7 => ?_⟩), fun b7 hb7 => ?_⟩
      · exact (hO.new _ _ hb7).st 0 rfl (by simp) fun u hu => ⟨b7, rfl, .inl ⟨y, hy, rfl, hu⟩⟩
      · exact (hO.new _ _ hb7).st 0 rfl (by simp) fun u hu => ⟨b7, rfl, .inr ⟨hy, rfl, hu⟩⟩
      · have hO' := hO.new 105 zc hb7
        exact cGet (Ow.at 2 rfl hO') hu (by omega) (k, z) (fun y hy => ⟨_, _, _, _, _, _, _, _, _, _, _, _, _, _, rfl, hO'.st 0 rfl (by simp) fun u hu => ⟨b7, rfl, .inl ⟨y, hy, rfl, hu⟩⟩⟩) (fun hy => ⟨_, _, _, _, _, _, _, _, _, _, _, _, _, _, rfl, hO'.st 0 rfl (by simp) fun u hu => ⟨b7, rfl, .inr ⟨hy, rfl, hu⟩⟩⟩)
    · rw [Mem.or_M0]
      have hO' := hO.new 105 zc hb7
      exact cGet (Ow.at 2 rfl hO') hu (by omega) (k, z) (fun y hy => ⟨_, _, _, _, _, _, _, _, _, _, _, _, _, _, rfl, hO'.st 0 rfl (by simp) fun u hu => ⟨b7, rfl, .inl ⟨y, hy, rfl, hu⟩⟩⟩) (fun hy => ⟨_, _, _, _, _, _, _, _, _, _, _, _, _, _, rfl, hO'.st 0 rfl (by simp) fun u hu => ⟨b7, rfl, .inr ⟨hy, rfl, hu⟩⟩⟩)
  · rintro ⟨_, t⟩ u ⟨b7, rfl, ⟨y, hy, rfl, hu'⟩ | ⟨hy, rfl, hu'⟩⟩
    · obtain ⟨hym, hyk⟩ := (getK_iff hc hu).1 hy
      refine ⟨fun _ u2 => Ow (Pt b7 105 (pv y) :: Pt m 107 [pP s 0] :: At s (delK ck key (key (k, z)) l) :: L) u2, CIf.t rfl ⟨_, hu'.rd 1 rfl (by simp), _, _, _, _, _, _, _, _, _, _, _, _, _, hu'.rd 0 rfl (by simp), ?_⟩, ?_⟩
      · refine cDrop (Ow.at 2 rfl hu') hu (by omega) y fun u2 hu2 => ⟨_, rfl, ?_⟩
        rw [hyk] at hu2
        exact hu2.swap.tail fun _ h => h.swap
      · intro _ u2 hu2
        exact ⟨_, _, _, _, _, _, _, _, _, _, _, _, hu2.rd 0 rfl (by simp), h1 y _ hy (MAt.shut hu2.drop)⟩
    · refine ⟨fun _ u2 => u2 = u, CIf.f rfl rfl, ?_⟩
      rintro _ _ rfl
      exact ⟨_, _, _, _, _, _, _, _, _, _, _, _, hu'.rd 0 rfl (by simp), h0 _ hy (MAt.shut hu'.drop)⟩


theorem cMNew {L : List Asn} {μ : Mem} (hO : Ow L μ) {K : PV → Mem → Prop} (hk : ∀ μ' m, Ow (MAt m [] :: L) μ' → K (pP m 0) μ') : CallP Try.prog 36 [] μ K := by
  refine G_book_New_alpha_number_api_Elem.c (cNew hO .nil [] (by simp) fun μ1 b h1 => ⟨_, rfl, fun m hm => hk _ m (MAt.shut (h1.new 107 [pP b 0] hm))⟩)

@[reducible] def mAllF (m : Nat) : PV := .fn (.func 65) [] [.fptr [pP m 0] 0]
theorem cMAll (m : Nat) : Pure Try.prog 42 [pP m 0] (mAllF m) := PureK.of (G_book_Map_alpha_number_api_Elem_All.c rfl)
theorem seqMAll (m : Nat) (l : List El) (hl : l.length ≤ 4000000000000000000) : SeqO Try.prog (mAllF m) (l.map fun x => [argK x.1, argV x.2]) (MAt m l) (MAt m l) := by
  refine SeqO.mk fun fy ya yb I S C μ hy hO h0 hstep => ?_
  show CallP _ _ [.fn fy ya yb, .fptr [pP m 0] 0] _ _
  obtain ⟨s, hO⟩ := MAt.open_ hO
  refine G_book_Map_alpha_number_api_Elem_All_1.c fun b2 hb2 => ⟨_, rfl, CIf.f rfl ⟨_, rfl, ?_⟩⟩
  have hO2 := hO.new 95 [.fn fy ya yb] hb2
  refine ⟨_, hO2.rd 1 rfl (by simp), (cAll s).call ⟨_, _, _, rfl, ?_⟩⟩
  have hl2 : (l.map fun x : El => [argK x.1, argV x.2]).length = l.length := by simp
  refine RangeP.own (seqAll s l hl) (Ow.at 2 rfl hO2) (fun k => Ow [Pt b2 95 [.fn fy ya yb], I k]) (fun c => fun u => c = .ret ∧ Ow [S] u) (fun k => UpC.own _) (fun c => UpC.and (UpC.own _)) (fun μ' h => ?_) ?_ ?_ ?_
  · have h3 : Ow (Pt b2 95 [.fn fy ya yb] :: (Pt m 107 [pP s 0] :: At s l :: [C])) μ' := h.swap.tail fun _ h => h.swap
    exact h3.tail fun ν hν => h0 ν (MAt.shut hν)
  · intro k hk u R hI hnone hsome
    have hk' : k < l.length := by simpa using hk
    have hst := hstep k (by rw [hl2]; exact hk')
    rw [List.getElem_map] at hst ⊢
    refine ⟨_, _, _, _, _, _, _, _, _, _, _, _, _, rfl, _, _, _, hI.rd 0 rfl (by simp), Ow.callV hI.swap (fun ν hν => hst ν hν) fun v μ' hO' => ?_⟩
    rcases hO'.split2 with ⟨rfl, h⟩ | ⟨rfl, h⟩
    · exact ⟨true, rfl, CIf.f rfl (hnone _ h.swap)⟩
    · exact ⟨false, rfl, CIf.t rfl (hsome _ _ ⟨rfl, h.swap.drop⟩)⟩
  · intro u hI
    rw [List.length_map] at hI
    exact .inl (by rw [hl2]; exact hI.drop)
  · rintro c u ⟨rfl, h⟩
    exact .inr h

end AE

end Go.Proofs.Ytdiimonfmdbclaa
