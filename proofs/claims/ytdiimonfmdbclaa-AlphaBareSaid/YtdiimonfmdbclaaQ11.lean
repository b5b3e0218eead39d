import Derived.Test.YtdiimonfmdbclaaQ10
/-
  Memories by their numbers, in a map (package alpha).
-/
namespace Go.Proofs.Ytdiimonfmdbclaa
open Go.Eng Go.RowKit
set_option linter.unusedVariables false
set_option linter.unusedSimpArgs false
set_option linter.unnecessarySimpa false

structure Memo where
  c : Cond
  users : Int
  has : Option Addr

namespace AM
abbrev KY := Int
abbrev VL := Memo
abbrev El := Int × Memo
@[reducible] def pv (x : El) : List PV := [pI x.1, pI x.2.c.kind, pB x.2.c.goal, pS x.2.c.id, .list 6 .sh (x.2.c.attr.map Test.pv), .list 6 .sh (x.2.c.value.map Test.pv), pB x.2.c.acc, .list 7 .sh (x.2.c.conds.map Cond.pv), pI x.2.users, .raw (.pointer x.2.has)]
@[reducible] def arg (x : El) : PV := .agg (pv x)
@[reducible] def argK (k : Int) : PV := pI k
@[reducible] def argV (m : Memo) : PV := .agg [pI m.c.kind, pB m.c.goal, pS m.c.id, .list 6 .sh (m.c.attr.map Test.pv), .list 6 .sh (m.c.value.map Test.pv), pB m.c.acc, .list 7 .sh (m.c.conds.map Cond.pv), pI m.users, .raw (.pointer m.has)]
def z : Memo := ⟨.mk 0 false ⟨#[]⟩ [] [] false [], 0, none⟩
@[reducible] def zc : List PV := [pI 0, pI 0, pB false, pS ⟨#[]⟩, .list 6 .nil [], .list 6 .nil [], pB false, .list 7 .nil [], pI 0, .raw (.pointer none)]
@[reducible] def zero : PV := .agg zc
@[reducible] def zeroV : PV := .agg [pI 0, pB false, pS ⟨#[]⟩, .list 6 .nil [], .list 6 .nil [], pB false, .list 7 .nil [], pI 0, .raw (.pointer none)]
def key (x : El) : Int := x.1
theorem keyInj {y : El} {k : Int} (h : key y = key (k, z)) : y.1 = k := h
theorem keyFst (a : Int) (v : Memo) (y : El) (h : a = y.1) : key (a, v) = key y := h
abbrev ck : Int → Int → Int := cmpI
theorem hc : Cmp ck := cmpI_ok
theorem cCmp (a b : El) : Pure Try.prog 118 [arg a, arg b] (pI (ck (key a) (key b))) := by
  refine PureK.of (G_book_page_alpha_number_alpha_memory_Compare.c ?_)
  first
    | exact (cNumCmp _ _).call ⟨_, rfl, rfl⟩
    | exact ⟨fun v => by kernel_rfl, (cNumCmp _ _).call ⟨_, rfl, rfl⟩⟩

abbrev tySet : TypeId := 142
abbrev tyEl : TypeId := 111
abbrev At (b : Nat) (l : List El) : Asn := SetAt tySet tyEl 10 b (l.map pv)
theorem each (l : List El) : ∀ r ∈ l.map pv, r.length = 10 := rowsLenK (pv := pv) (fun _ => rfl) l
theorem cell (l : List El) : allCell (l.map pv).flatten = true := rowsCellK (pv := pv) (fun _ => rfl) l
theorem row {l : List El} {i : Nat} (h : i < l.length) : (l.map pv)[Int.toNat (i : Int)]? = some (pv l[i]) := atRow h

theorem cFindL (b : Nat) (s : Bool) (l : List El) (hu : UpK ck key l) (hl : l.length ≤ 4000000000000000000) (x : El) : CallP Try.prog 79 [pP b 0, arg x] (M0.set b (some (.ro tySet [.list 10 .sh (l.map pv), pB s]))) fun p _ => ∃ (k : Nat) (t : Bool), p = .tup [pI k, pB t] ∧ FoundAt ck (l.map key) (key x) k t := by
  refine G_order_Set_book_page_alpha_number_alpha_memory_find.c ?_
  refine ⟨_, _, rdM_ro (Mem.set_same _ _ _) (by simp), ?_⟩
  have hrd : ∀ u, u = M0.set b (some (.ro tySet [.list 10 .sh (l.map pv), pB s])) → rdM u b 0 1 = some [.list 10 .sh (l.map pv)] := fun u h => by rw [h]; exact rdM_ro (Mem.set_same _ _ _) (by simp)
  rw [List.length_map]
  have huu := hu.up
  have hll : (l.map key).length = l.length := by simp
  refine LoopI.bin (n := l.length) (by omega) (fun i => if h : i < l.length then ck (key l[i]) (key x) else 1) (fun u => u = M0.set b (some (.ro tySet [.list 10 .sh (l.map pv), pB s]))) rfl ?_ ?_ ?_ ?_
  · intro i j hij hj h
    rw [dif_pos hj] at h
    rw [dif_pos (Nat.lt_trans hij hj)]
    have := huu.mono1 hc (x := key x) hij (by simpa using hj) (by simpa using h)
    simpa using this
  · intro i j hij hj h
    rw [dif_pos (Nat.lt_trans hij hj)] at h
    rw [dif_pos hj]
    have := huu.mono2 hc (x := key x) hij (by simpa using hj) (by simpa using h)
    simpa using this
  · intro lo hi mid u next hlt hhi hmid hmn hA h1 h2 h3
    subst hA
    rw [dif_pos hmn] at h1 h2 h3
    refine CIf.t (by simpa using hlt) ⟨by decide, ?_⟩
    refine ⟨_, _, hrd _ rfl, ?_⟩
    dsimp only
    rw [midE hlt (by omega), ← hmid]
    refine ⟨by omega, _, row hmn, _, _, _, _, _, _, _, _, _, _, _, _, _, rfl, fun v => by kernel_rfl, (cCmp l[mid] x).call ⟨_, rfl, CIf.mk (fun h => ?_) (fun h => CIf.mk (fun h' => ?_) (fun h' => ?_))⟩⟩
    · have h0 : ck (key l[mid]) (key x) = 0 := by simpa using h
      refine ⟨mid, true, rfl, by rw [hll]; omega, fun i hi hik => ?_, fun _ => ⟨by rw [hll]; exact hmn, by rw [List.getElem_map]; exact (hc.zero _ _).1 h0⟩, fun h => by cases h⟩
      have := h3 h0 i hik
      rw [dif_pos (by rw [hll] at hi; exact hi)] at this
      rw [List.getElem_map]; exact this
    · have h0 : ck (key l[mid]) (key x) < 0 := by simpa using h'
      have := h1 h0 _ rfl
      rw [wrap_id (by omega) (by omega)]
      exact this
    · have h0 : 0 < ck (key l[mid]) (key x) := by
        have a1 : ck (key l[mid]) (key x) ≠ 0 := by simpa using h
        have a2 : ¬ ck (key l[mid]) (key x) < 0 := by simpa using h'
        omega
      exact h2 h0 _ rfl
  · intro k u next hA hk h1 h2
    refine CIf.f (by simp) ?_
    refine ⟨k, false, rfl, by rw [hll]; exact hk, fun i hi hik => ?_, fun h => (by cases h), fun _ i hi hik => ?_⟩
    · have := h1 i hik; rw [hll] at hi; rw [dif_pos hi] at this; rw [List.getElem_map]; exact this
    · rw [hll] at hi; have := h2 i hik hi; rw [dif_pos hi] at this; rw [List.getElem_map]; exact this

theorem cFindIn {μ : Mem} {b : Nat} {l : List El} {F : List Nat} (h : SetIn tySet tyEl 10 μ b (l.map pv) F) (hu : UpK ck key l) (hl : l.length ≤ 4000000000000000000) (x : El) {K : PV → Mem → Prop} (hk : ∀ (k : Nat) (t : Bool), FoundAt ck (l.map key) (key x) k t → K (.tup [pI k, pB t]) μ) : CallP Try.prog 79 [pP b 0, arg x] μ K :=
  SetIn.query h (fun s => cFindL b s l hu hl x) (fun p ⟨k, t, e, _⟩ => by rw [e]; rfl) fun p ⟨k, t, e, hf⟩ => by rw [e]; exact hk k t hf

theorem cFind {L : List Asn} {μ : Mem} {b : Nat} {l : List El} (hO : Ow (At b l :: L) μ) (hu : UpK ck key l) (hl : l.length ≤ 4000000000000000000) (x : El) {K : PV → Mem → Prop} (hk : ∀ (k : Nat) (t : Bool), FoundAt ck (l.map key) (key x) k t → K (.tup [pI k, pB t]) μ) : CallP Try.prog 79 [pP b 0, arg x] μ K := by
  obtain ⟨F, h, _⟩ := SetAt.split hO
  exact cFindIn h hu hl x hk


theorem cGet {L : List Asn} {μ : Mem} {b : Nat} {l : List El} (hO : Ow (At b l :: L) μ) (hu : UpK ck key l) (hl : l.length ≤ 4000000000000000000) (x : El) {K : PV → Mem → Prop} (h1 : ∀ y, getK ck key (key x) l = some y → K (.tup [arg y, pB true]) μ) (h0 : getK ck key (key x) l = none → K (.tup [zero, pB false]) μ) : CallP Try.prog 61 [pP b 0, arg x] μ K := by
  obtain ⟨F, h, _⟩ := SetAt.split hO
  have key1 : ∀ k, FoundAt ck (l.map key) (key x) k true → ∃ hk : k < l.length, K (.tup [arg l[k], pB true]) μ := fun k hf => by
    obtain ⟨hk, e⟩ := hf.some hc hu
    exact ⟨hk, h1 _ e⟩
  rcases h.lies with ⟨_, hm⟩ | ⟨_, hn, hm⟩ | hr
  · refine G_order_Set_book_page_alpha_number_alpha_memory_Get.c (CIf.f rfl (cFindIn h hu hl x fun k t hf => ⟨_, _, rfl, CIf.mk (fun ht => ?_) (fun ht => ?_)⟩))
    · have ht : t = false := by simpa using ht
      subst ht; exact h0 (hf.none hc)
    · have ht : t = true := by simpa using ht
      subst ht
      obtain ⟨hk, hK⟩ := key1 k hf
      exact ⟨_, _, rdM_at hm (by simp), by omega, _, row hk, _, _, _, _, _, _, _, _, _, _, _, _, _, rfl, hK⟩
  · refine G_order_Set_book_page_alpha_number_alpha_memory_Get.c (CIf.f rfl (cFindIn h hu hl x fun k t hf => ⟨_, _, rfl, CIf.mk (fun ht => ?_) (fun ht => ?_)⟩))
    · have ht : t = false := by simpa using ht
      subst ht; exact h0 (hf.none hc)
    · have ht : t = true := by simpa using ht
      subst ht
      obtain ⟨hk, hK⟩ := key1 k hf
      have : (l.map pv).length = 0 := by rw [hn]; rfl
      simp at this; subst this; simp at hk
  · refine G_order_Set_book_page_alpha_number_alpha_memory_Get_r.c (CIf.f rfl (cFindIn h hu hl x fun k t hf => ⟨_, _, rfl, CIf.mk (fun ht => ?_) (fun ht => ?_)⟩))
    · have ht : t = false := by simpa using ht
      subst ht; exact h0 (hf.none hc)
    · have ht : t = true := by simpa using ht
      subst ht
      obtain ⟨hk, hK⟩ := key1 k hf
      rcases hr with ⟨_, hn, _⟩ | ⟨b', c, rest, _, _, hm, hm', _⟩
      · have : (l.map pv).length = 0 := by rw [hn]; rfl
        simp at this; subst this; simp at hk
      · refine ⟨_, _, _, rdM_at hm (by simp), by omega, by simpa using hk, _, _, _, _, _, _, _, _, _, _, _, _, _, ?_, hK⟩
        rw [Int.toNat_natCast, Nat.zero_add]
        exact rdRow (each l) hm' (by rw [List.getElem?_map, List.getElem?_eq_getElem hk]; rfl)

theorem cLen {L : List Asn} {μ : Mem} {b : Nat} {l : List El} (hO : Ow (At b l :: L) μ) {K : PV → Mem → Prop} (hk : K (pI (l.length : Nat)) μ) : CallP Try.prog 70 [pP b 0] μ K := by
  obtain ⟨F, h, _⟩ := SetAt.split hO
  refine SetIn.query h (Kq := fun p => p = pI (l.length : Nat)) (fun s => G_order_Set_book_page_alpha_number_alpha_memory_Len.c (CIf.f rfl ⟨_, _, rdM_ro (Mem.set_same _ _ _) (by simp), by simp⟩)) (fun p e => by rw [e]; rfl) fun p e => by rw [e]; exact hk

theorem cOwn {μ : Mem} {b : Nat} {l : List El} {F : List Nat} (h : SetIn tySet tyEl 10 μ b (l.map pv) F) (hl : l.length ≤ 1000000000) {K : PV → Mem → Prop} (hk : ∀ μ' F', RawIn tySet tyEl 10 μ' b (l.map pv) F' → Mv μ μ' F F' → K (.tup []) μ') : CallP Try.prog 80 [pP b 0] μ K := by
  obtain ⟨μ0, hG, hmv, hlies⟩ := h.raw
  refine CallP.pre hG (G_order_Set_book_page_alpha_number_alpha_memory_own.c ?_)
  rcases hlies with ⟨rfl, hm⟩ | hr
  · refine ⟨true, rdM_at hm (by simp), CIf.t rfl ?_⟩
    refine ⟨_, _, rdM_at hm (by simp), ?_⟩
    refine ⟨_, _, rdM_at hm (by simp), ?_⟩
    rw [List.length_map, wrap_id (by omega) (by omega)]
    refine ⟨by omega, by omega, by omega, by omega, fun b13 hb13 => ?_⟩
    have hne : b13 ≠ b := by rintro rfl; rw [hm] at hb13; cases hb13
    have hn : Int.toNat ((l.length : Int) + 1) = l.length + 1 := by omega
    rw [hn]
    refine appR_new (Mem.set_same _ _ _) (by simp) (by simp) (each l) (cell l) (by simp; omega) (by simp; omega) ?_
    rw [Mem.set_set]
    refine ⟨_, _, by rw [Mem.set_ne _ _ (Ne.symm hne)]; exact hm, by simp, ?_⟩
    refine ⟨_, _, Mem.set_same _ _ _, by simp [wrL], ?_⟩
    rw [Mem.set_set]
    refine hk _ [b, b13] (.inr ⟨b13, l.length + 1, _, rfl, hne, by rw [Mem.set_same]; rfl, by rw [Mem.set_ne _ _ hne, Mem.set_same], by simp; omega, by simp⟩) (hmv.trans ?_)
    exact ((Mv.set (F := [b]) (.inr hb13)).trans (Mv.set (.inl (by simp)))).sub (by simp)
  · obtain ⟨a, c, hm, _⟩ := hr.app (each l)
    exact ⟨false, rdM_at hm (by simp), CIf.f rfl (hk μ0 F hr hmv)⟩

theorem cPut {L : List Asn} {μ : Mem} {b : Nat} {l : List El} (hO : Ow (At b l :: L) μ) (hu : UpK ck key l) (hl : l.length ≤ 999999999) (x : El) {K : PV → Mem → Prop} (hk : ∀ μ', Ow (At b (putK ck key x l) :: L) μ' → K (pB (getK ck key (key x) l).isNone) μ') : CallP Try.prog 63 [pP b 0, arg x] μ K := by
  obtain ⟨F, h, hback⟩ := SetAt.split hO
  refine G_order_Set_book_page_alpha_number_alpha_memory_Put.c ?_
  refine CIf.f rfl (cFindIn h hu (by omega) x fun k t hf => ⟨_, _, rfl, CIf.mk (fun ht => ?_) (fun ht => ?_)⟩)
  · subst ht
    obtain ⟨_, e⟩ := hf.some hc hu
    have := hk μ (by rw [putK, e]; exact hO)
    rw [e] at this; exact this
  · subst ht
    have en := hf.none hc
    have e1 : putK ck key x l = l.take k ++ x :: l.drop k := by rw [putK, en, hf.ins hc]; rfl
    rw [e1, en] at hk
    refine cOwn h (by omega) fun μ1 F1 hr hm1 => ⟨rfl, ?_⟩
    obtain ⟨a, c, hb, happ⟩ := hr.app (each l)
    refine ⟨_, _, _, rdM_at hb (by simp), ?_⟩
    simp only [List.length_map] at happ
    rw [List.length_map]
    refine happ (pv x) _ _ rfl rfl (by omega) (by omega) fun b' c' rest μ2 hne e2 hb' hrest hc' hm2 => ?_
    refine ⟨_, _, e2.trans hb, by simp, ?_⟩
    refine ⟨_, _, _, rdM_at (Mem.set_same _ _ _) (by simp [wrL]), ?_⟩
    have hn1 : IntKind.wrap .i64 (((l.length + 1 : Nat) : Int) - 1) = (l.length : Int) := by rw [wrap_id (by omega) (by omega)]; omega
    rw [hn1]
    have hle := hf.leK
    refine LoopI.down hle (by omega) (fun j u => ∃ y, u b = some (.cells tySet [.raw (.slice (some ⟨b', 0, none⟩) (l.length + 1) c'), pB false]) ∧ u b' = some (.cells tyEl (((l.take j ++ y :: l.drop j).map pv).flatten ++ rest)) ∧ Mv μ2 u [b, b'] [b, b']) ⟨x, ?_, ?_, ?_⟩ ?_ ?_
    · rw [Mem.set_same]; rfl
    · rw [Mem.set_ne _ _ hne, hb', List.take_length, List.drop_length]
      simp
    · exact (Mv.set (.inl (by simp))).sub (by simp)
    · rintro j u next hkj hjn ⟨y, i1, i2, i3⟩ hnext
      refine CIf.t (by simpa using hkj) ?_
      refine ⟨_, _, _, rdM_at i1 (by simp), ?_⟩
      refine ⟨_, _, _, rdM_at i1 (by simp), ?_⟩
      have hj1 : IntKind.wrap .i64 ((j : Int) - 1) = ((j - 1 : Nat) : Int) := by rw [wrap_id (by omega) (by omega)]; omega
      have hrd : rdM u b' (0 + Int.toNat (IntKind.wrap .i64 ((j : Int) - 1)) * 10) 10 = some (pv (l[j - 1]'(by omega))) := by
        rw [hj1, Int.toNat_natCast, Nat.zero_add]
        exact rdRow (each _) i2 (insAtK l j y (by omega) hjn)
      refine ⟨by rw [hj1]; omega, by rw [hj1]; omega, _, _, _, _, _, _, _, _, _, _, _, _, _, hrd, ?_⟩
      refine ⟨by omega, by omega, _, _, i2, ?_, hnext _ ⟨l[j - 1]'(by omega), ?_, ?_, ?_⟩⟩
      · have hfl := flatLen (each (l.take j ++ y :: l.drop j))
        rw [List.length_map, insLenK] at hfl
        rw [List.length_append, hfl, Int.toNat_natCast]; simp only [List.length_cons, List.length_nil]; omega
      · rw [Mem.set_ne _ _ (Ne.symm hne)]; exact i1
      · rw [Mem.set_same, Int.toNat_natCast, Nat.zero_add, wrRow (r := pv (l[j - 1]'(by omega))) (each _) (by rw [List.length_map, insLenK]; omega) rfl, insStepK l j y (by omega) hjn]
      · exact (i3.trans (Mv.set (.inl (by simp)))).sub (by simp)
    · rintro u next ⟨y, i1, i2, i3⟩
      refine CIf.f (by simp) ?_
      refine ⟨_, _, _, rdM_at i1 (by simp), ?_⟩
      refine ⟨by omega, by omega, _, _, i2, ?_, ?_⟩
      · have hfl := flatLen (each (l.take k ++ y :: l.drop k))
        rw [List.length_map, insLenK] at hfl
        rw [List.length_append, hfl, Int.toNat_natCast]; simp only [List.length_cons, List.length_nil]; omega
      · rw [Int.toNat_natCast, Nat.zero_add, wrRow (r := pv x) (each _) (by rw [List.length_map, insLenK]; omega) rfl, insEndK l k x y hle]
        refine hk (u.set b' (some (.cells tyEl (((l.take k ++ x :: l.drop k).map pv).flatten ++ rest)))) (hback (F' := [b, b']) (hm1.trans (hm2.trans ((i3.trans (Mv.set (.inl (by simp)))).sub (by simp)))) ⟨each _, cell _, .inr (.inr (.inr ⟨b', c', rest, rfl, hne, ?_, Mem.set_same _ _ _, ?_, ?_⟩))⟩)
        · rw [Mem.set_ne _ _ (Ne.symm hne), i1, List.length_map, insLenK]
        · rw [List.length_map, insLenK]; exact hrest
        · rw [List.length_map, insLenK]; exact hc'

theorem cDrop {L : List Asn} {μ : Mem} {b : Nat} {l : List El} (hO : Ow (At b l :: L) μ) (hu : UpK ck key l) (hl : l.length ≤ 999999999) (x : El) {K : PV → Mem → Prop} (hk : ∀ μ', Ow (At b (delK ck key (key x) l) :: L) μ' → K (pB (getK ck key (key x) l).isSome) μ') : CallP Try.prog 64 [pP b 0, arg x] μ K := by
  obtain ⟨F, h, hback⟩ := SetAt.split hO
  refine G_order_Set_book_page_alpha_number_alpha_memory_Drop.c ?_
  refine CIf.f rfl (cFindIn h hu (by omega) x fun k t hf => ⟨_, _, rfl, CIf.mk (fun ht => ?_) (fun ht => ?_)⟩)
  · have ht : t = false := by simpa using ht
    subst ht
    have en := hf.none hc
    have e1 : delK ck key (key x) l = l := by
      unfold delK
      refine List.filter_eq_self.2 fun y hy => ?_
      have := (getK_none hc).1 en y hy
      simp only [eqK, Bool.not_eq_true', decide_eq_false_iff_not, hc.zero]; exact this
    rw [e1, en] at hk
    exact hk μ hO
  · have ht : t = true := by simpa using ht
    subst ht
    obtain ⟨hkl, es⟩ := hf.some hc hu
    rw [← hf.del hc hu, es] at hk
    refine cOwn h (by omega) fun μ1 F1 hr hm1 => ⟨rfl, ?_⟩
    rcases hr with ⟨_, hn, _⟩ | ⟨b', c, rest, rfl, hne, hb, hb', hrest, hcc⟩
    · have : (l.map pv).length = 0 := by rw [hn]; rfl
      simp at this; subst this; simp at hkl
    · rw [List.length_map] at hb hrest hcc
      refine LoopI.from (s := k) (n := l.length - 1) (by omega) (by omega) (fun j u => u b = some (.cells tySet [.raw (.slice (some ⟨b', 0, none⟩) l.length c), pB false]) ∧ u b' = some (.cells tyEl (((movK l k j).map pv).flatten ++ rest)) ∧ Mv μ1 u [b, b'] [b, b']) ⟨hb, by rw [movK0]; exact hb', Mv.refl _ _⟩ ?_ ?_
      · rintro j u next hkj hjn ⟨i1, i2, i3⟩ hnext
        have hj1 : IntKind.wrap .i64 ((j : Int) + 1) = ((j + 1 : Nat) : Int) := by rw [wrap_id (by omega) (by omega)]; omega
        have hml : ((movK l k j).map pv).length = l.length := by rw [List.length_map, movK_len hkj (by omega)]
        have hrd : rdM u b' (0 + Int.toNat (IntKind.wrap .i64 ((j : Int) + 1)) * 10) 10 = some (pv (l[j + 1]'(by omega))) := by
          rw [hj1, Int.toNat_natCast, Nat.zero_add]
          exact rdRow (each _) i2 (by rw [List.getElem?_map, movK_at hkj (by omega)]; rfl)
        refine ⟨_, _, _, rdM_at i1 (by simp), CIf.t (by rw [hj1]; simp; omega) ?_⟩
        refine ⟨_, _, _, rdM_at i1 (by simp), ?_⟩
        refine ⟨_, _, _, rdM_at i1 (by simp), ?_⟩
        refine ⟨by rw [hj1]; omega, by rw [hj1]; omega, _, _, _, _, _, _, _, _, _, _, _, _, _, hrd, ?_⟩
        refine ⟨by omega, by omega, _, _, i2, ?_, hnext _ ⟨?_, ?_, ?_⟩⟩
        · have hfl := flatLen (each (movK l k j))
          rw [hml] at hfl
          rw [List.length_append, hfl, Int.toNat_natCast]; simp only [List.length_cons, List.length_nil]; omega
        · rw [Mem.set_ne _ _ (Ne.symm hne)]; exact i1
        · rw [Mem.set_same, Int.toNat_natCast, Nat.zero_add, wrRow (r := pv (l[j + 1]'(by omega))) (each _) (by rw [hml]; omega) rfl, ← List.map_set, movK_step hkj (by omega)]
        · exact (i3.trans (Mv.set (.inl (by simp)))).sub (by simp)
      · rintro u next ⟨i1, i2, i3⟩
        have hj1 : IntKind.wrap .i64 (((l.length - 1 : Nat) : Int) + 1) = ((l.length : Nat) : Int) := by rw [wrap_id (by omega) (by omega)]; omega
        have hj2 : IntKind.wrap .i64 (((l.length : Nat) : Int) - 1) = ((l.length - 1 : Nat) : Int) := by rw [wrap_id (by omega) (by omega)]; omega
        refine ⟨_, _, _, rdM_at i1 (by simp), CIf.f (by rw [hj1]; simp) ?_⟩
        refine ⟨_, _, _, rdM_at i1 (by simp), ?_⟩
        refine ⟨_, _, _, rdM_at i1 (by simp), ?_⟩
        refine ⟨fun a ha => by cases ha; rfl, by omega, by rw [hj2]; omega, by rw [hj2]; omega, by omega, _, _, i1, by simp, ?_⟩
        rw [hj2]
        have hel : (l.eraseIdx k).length = l.length - 1 := by rw [List.length_eraseIdx, if_pos hkl]
        refine hk _ (hback (F' := [b, b']) (hm1.trans ((i3.trans (Mv.set (.inl (by simp)))).sub (by simp))) ⟨each _, cell _, .inr (.inr (.inr ⟨b', c, pv (l[l.length - 1]'(by omega)) ++ rest, rfl, hne, ?_, ?_, ?_, ?_⟩))⟩)
        · rw [Mem.set_same, List.length_map, hel]
          have e0 : slA (some ⟨b', 0, none⟩) (Int.toNat 0) (Int.toNat ((c : Nat) : Int)) 10 = some ⟨b', 0, none⟩ := by
            unfold slA
            rw [if_neg (by simp; omega)]; simp
          rw [e0]
          simp [wrL]
        · rw [Mem.set_ne _ _ hne, i2, movK_end hkl, List.map_append, List.flatten_append]
          simp
        · rw [List.length_map, hel, List.length_append]
          have : (pv (l[l.length - 1]'(by omega))).length = 10 := rfl
          rw [this]
          omega
        · rw [List.length_map, hel]; omega


theorem atNew {L : List Asn} {μ : Mem} {b : Nat} (hO : Ow L μ) (hb : μ b = none) : Ow (At b [] :: L) (μ.set b (some (.cells tySet [.list 10 .nil [], pB false]))) :=
  (hO.new tySet [.list 10 .nil [], pB false] hb).imp fun ν hν => ⟨[b], each [], cell [], .inr (.inl ⟨rfl, rfl, hν⟩)⟩

theorem cNew {L : List Asn} {μ : Mem} (hO : Ow L μ) (fl : Fl) (xs : List El) (hx : xs.length ≤ 1000000) {K : PV → Mem → Prop} (hk : ∀ μ' b, Ow (At b (xs.foldl (fun l x => putK ck key x l) []) :: L) μ' → K (pP b 0) μ') : CallP Try.prog 58 [.list 10 fl (xs.map pv)] μ K := by
  refine G_order_New_book_page_alpha_number_alpha_memory.c fun b hb => ?_
  have h0 := atNew hO hb
  have hup : ∀ (ys : List El), UpK ck key (ys.foldl (fun l x => putK ck key x l) []) ∧ (ys.foldl (fun l x => putK ck key x l) []).length ≤ ys.length := fun ys => by
    have key2 : ∀ (ys acc : List El), UpK ck key acc → UpK ck key (ys.foldl (fun l x => putK ck key x l) acc) ∧ (ys.foldl (fun l x => putK ck key x l) acc).length ≤ acc.length + ys.length := by
      intro ys
      induction ys with
      | nil => intro acc h; exact ⟨h, by simp⟩
      | cons y ys ih =>
        intro acc h
        obtain ⟨a1, a2⟩ := ih (putK ck key y acc) (h.put hc y)
        refine ⟨a1, ?_⟩
        have := putK_len (ck := ck) (key := key) (x := y) (L := acc)
        simp only [List.foldl_cons, List.length_cons] at a2 ⊢; omega
    have := key2 ys [] List.Pairwise.nil
    simpa using this
  refine LoopI.each (n := xs.length) (by omega) (fun i u => Ow (At b ((xs.take i).foldl (fun l x => putK ck key x l) []) :: L) u) h0 ?_ ?_
  · intro i u next hi hI hnext
    obtain ⟨a1, a2⟩ := hup (xs.take i)
    refine CIf.t (by simpa using hi) ⟨by omega, _, row hi, _, _, _, _, _, _, _, _, _, _, _, _, _, rfl, cPut hI a1 (by simp at a2; omega) xs[i] fun u' hI' => ⟨_, rfl, hnext _ ?_⟩⟩
    rw [List.take_add_one, List.getElem?_eq_getElem hi, List.foldl_append]
    exact hI'
  · intro u next hI
    refine CIf.f (by simp) (hk _ b ?_)
    rw [List.take_length] at hI; exact hI

theorem cFrom {fy : Fn} {ya yb : List PV} {I : Nat → Asn} {S C : Asn} {μ : Mem} {b k : Nat} {l : List El} (hO : Ow [At b l, C] μ) (hk : k ≤ l.length) (hl : l.length ≤ 4000000000000000000) (h0 : ∀ μ', Ow [At b l, C] μ' → Ow [I 0] μ')
    (hstep : ∀ (i : Nat) (h : i < ((l.drop k).map fun x => [arg x]).length) (μ : Mem), I i μ → CallVP Try.prog (.fn fy ya yb) ((l.drop k).map fun x => [arg x])[i] μ fun v μ' => (v = pB true ∧ Ow [I (i + 1)] μ') ∨ (v = pB false ∧ Ow [S] μ')) : CallP Try.prog 78 [pP b 0, pI (k : Nat), .fn fy ya yb] μ fun v μ' => v = .tup [] ∧ (Ow [I ((l.drop k).map fun x => [arg x]).length] μ' ∨ Ow [S] μ') := by
  obtain ⟨F, h, hback⟩ := SetAt.split hO
  obtain ⟨μ0, s, hG, hm, hmv⟩ := h.list
  refine CallP.pre hG (G_order_Set_book_page_alpha_number_alpha_memory_from.c ?_)
  refine ⟨_, _, hm, by simp, ?_⟩
  have h1 : Ow [At b l, C] (μ0.set b (some (.cells tySet (wrL [.list 10 .sh (l.map pv), pB s] (0 + 1) [pB true])))) := hback (F' := [b]) ((hmv.trans (Mv.set (.inl (by simp)))).sub (by simp)) ⟨each l, cell l, .inl ⟨rfl, by rw [Mem.set_same]; rfl⟩⟩
  refine ⟨_, _, rdM_at (Mem.set_same _ _ _) (by simp [wrL]), ?_⟩
  rw [List.length_map]
  refine LoopI.from (s := k) (n := l.length) hk (by omega) (fun i u => Ow [I (i - k)] u) (by rw [Nat.sub_self]; exact h0 _ h1) ?_ ?_
  · intro i u next hki hi hI hnext
    have hid : i - k < ((l.drop k).map fun x => [arg x]).length := by simp; omega
    have hst := hstep (i - k) hid
    have hel : ((l.drop k).map fun x => [arg x])[i - k] = [arg l[i]] := by
      rw [List.getElem_map, List.getElem_drop]
      congr 3; omega
    rw [hel] at hst
    refine CIf.t (by simpa using hi) ⟨by omega, _, row hi, _, _, _, _, _, _, _, _, _, _, _, _, _, rfl, Ow.callV hI (fun ν hν => hst ν hν) fun v μ' hO' => ?_⟩
    rcases hO'.split2 with ⟨rfl, h⟩ | ⟨rfl, h⟩
    · refine ⟨true, rfl, CIf.f rfl (hnext _ ?_)⟩
      rw [show i + 1 - k = i - k + 1 by omega]; exact h
    · exact ⟨false, rfl, CIf.t rfl ⟨rfl, .inr h⟩⟩
  · intro u next hI
    refine CIf.f (by simp) ⟨rfl, .inl ?_⟩
    simp only [List.length_map, List.length_drop]; exact hI

@[reducible] def allF (b : Nat) : PV := .fn (.func 77) [] [.fptr [pP b 0] 0]
theorem cAll (b : Nat) : Pure Try.prog 60 [pP b 0] (allF b) := PureK.of (G_order_Set_book_page_alpha_number_alpha_memory_All.c rfl)
theorem seqAll (b : Nat) (l : List El) (hl : l.length ≤ 4000000000000000000) : SeqO Try.prog (allF b) (l.map fun x => [arg x]) (At b l) (At b l) := by
  refine SeqO.mk fun fy ya yb I S C μ hy hO h0 hstep => ?_
  show CallP _ _ [.fn fy ya yb, .fptr [pP b 0] 0] _ _
  refine G_order_Set_book_page_alpha_number_alpha_memory_All_1.c ⟨_, rfl, CIf.t rfl ⟨_, rfl, ?_⟩⟩
  refine CallP.mono (cFrom (k := 0) hO (by omega) hl h0 hstep) ?_
  rintro v μ' ⟨rfl, h⟩
  exact ⟨rfl, h⟩

/-- A map, and what it holds. -/
def MAt (m : Nat) (l : List El) : Asn := fun μ => ∃ s, Ow [Pt m 113 [pP s 0], At s l] μ
theorem MAt.open_ {m : Nat} {l : List El} {L : List Asn} {μ : Mem} (h : Ow (MAt m l :: L) μ) : ∃ s, Ow (Pt m 113 [pP s 0] :: At s l :: L) μ := by
  obtain ⟨s, h⟩ := Ow.ex h
  exact ⟨s, h.nest⟩
theorem MAt.shut {m s : Nat} {l : List El} {L : List Asn} {μ : Mem} (h : Ow (Pt m 113 [pP s 0] :: At s l :: L) μ) : Ow (MAt m l :: L) μ :=
  (Ow.pack (L1 := [Pt m 113 [pP s 0], At s l]) h).imp fun _ hν => ⟨s, hν⟩

theorem cAt (k : KY) : Pure Try.prog 62 [argK k] (arg (k, z)) := PureK.of (G_book_at_alpha_number_alpha_memory.c rfl)

/-- A page that was looked for, in a cell of its own. -/
def PgIn (m s b7 : Nat) (l : List El) (L : List Asn) (k : KY) (t : Bool) : Asn := fun u =>
  (∃ y, getK ck key (key (k, z)) l = some y ∧ t = true ∧ Ow (Pt b7 111 (pv y) :: Pt m 113 [pP s 0] :: At s l :: L) u) ∨
  (getK ck key (key (k, z)) l = none ∧ t = false ∧ Ow (Pt b7 111 zc :: Pt m 113 [pP s 0] :: At s l :: L) u)

theorem cMGet {L : List Asn} {μ : Mem} {m : Nat} {l : List El} (hO : Ow (MAt m l :: L) μ) (hu : UpK ck key l) (hl : l.length ≤ 4000000000000000000) (k : KY) {K : PV → Mem → Prop} (h1 : ∀ y μ', getK ck key (key (k, z)) l = some y → Ow (MAt m l :: L) μ' → K (.tup [argV y.2, pB true]) μ') (h0 : ∀ μ', getK ck key (key (k, z)) l = none → Ow (MAt m l :: L) μ' → K (.tup [zeroV, pB false]) μ') : CallP Try.prog 45 [pP m 0, argK k] μ K := by
  obtain ⟨s, hO⟩ := MAt.open_ hO
  refine G_book_Map_alpha_number_alpha_memory_Get.c (CIf.f rfl ⟨fun r u => ∃ b7, r.1 = some ⟨b7, 0, none⟩ ∧ PgIn m s b7 l L k r.2 u, ?_, ?_⟩)
  · refine ⟨_, hO.rd 0 rfl (by simp), (cAt k).q ⟨_, _, _, _, _, _, _, _, _, _, _, _, _, rfl, ?_⟩, fun b7 hb7 => (cAt k).q ⟨_, _, _, _, _, _, _, _, _, _, _, _, _, rfl, ?_⟩⟩
    · rw [Mem.or_M0]
      refine ⟨cGet hO.swap hu hl (k, z) (fun y hy => ⟨_, _, _, _, _, _, _, _, _, _, _, _, _, _, rfl, fun b7 hb7 => ?_⟩) (fun hy => ⟨_, _, _, _, _, _, _, _, _, _, _, _, _, _, rfl, fun b7 hb7 => ?_⟩), fun b7 hb7 => ?_⟩
      · exact (hO.new _ _ hb7).st 0 rfl (by simp) fun u hu => ⟨b7, rfl, .inl ⟨y, hy, rfl, hu⟩⟩
      · exact (hO.new _ _ hb7).st 0 rfl (by simp) fun u hu => ⟨b7, rfl, .inr ⟨hy, rfl, hu⟩⟩
      · have hO' := hO.new 111 zc hb7
        exact cGet (Ow.at 2 rfl hO') hu hl (k, z) (fun y hy => ⟨_, _, _, _, _, _, _, _, _, _, _, _, _, _, rfl, hO'.st 0 rfl (by simp) fun u hu => ⟨b7, rfl, .inl ⟨y, hy, rfl, hu⟩⟩⟩) (fun hy => ⟨_, _, _, _, _, _, _, _, _, _, _, _, _, _, rfl, hO'.st 0 rfl (by simp) fun u hu => ⟨b7, rfl, .inr ⟨hy, rfl, hu⟩⟩⟩)
    · rw [Mem.or_M0]
      have hO' := hO.new 111 zc hb7
      exact cGet (Ow.at 2 rfl hO') hu hl (k, z) (fun y hy => ⟨_, _, _, _, _, _, _, _, _, _, _, _, _, _, rfl, hO'.st 0 rfl (by simp) fun u hu => ⟨b7, rfl, .inl ⟨y, hy, rfl, hu⟩⟩⟩) (fun hy => ⟨_, _, _, _, _, _, _, _, _, _, _, _, _, _, rfl, hO'.st 0 rfl (by simp) fun u hu => ⟨b7, rfl, .inr ⟨hy, rfl, hu⟩⟩⟩)
  · rintro ⟨_, t⟩ u ⟨b7, rfl, ⟨y, hy, rfl, hu'⟩ | ⟨hy, rfl, hu'⟩⟩
    · exact ⟨_, _, _, _, _, _, _, _, _, _, _, _, hu'.rd 0 rfl (by simp), h1 y _ hy (MAt.shut hu'.drop)⟩
    · exact ⟨_, _, _, _, _, _, _, _, _, _, _, _, hu'.rd 0 rfl (by simp), h0 _ hy (MAt.shut hu'.drop)⟩

theorem putK_new (hc : Cmp ck) {x : El} {l : List El} (h : getK ck key (key x) l = none) : putK ck key x l = insK ck key x l := by rw [putK, h]; rfl
theorem ins_del (hc : Cmp ck) {x y : El} {l : List El} (hu : UpK ck key l) (e : key x = key y) : putK ck key x (delK ck key (key y) l) = insK ck key x l := by
  have hn : getK ck key (key x) (delK ck key (key y) l) = none := (getK_none hc).2 fun a ha => by
    have := ((mem_delK hc).1 ha).2
    rw [e]; exact this
  rw [putK, hn]
  refine UpK.ext hc ((hu.del _).ins hc x) (hu.ins hc x) fun a => ?_
  show a ∈ insK ck key x _ ↔ _
  rw [mem_insK hc, mem_insK hc, mem_delK hc, e]
  constructor
  · rintro (h | ⟨⟨h, _⟩, h2⟩)
    · exact .inl h
    · exact .inr ⟨h, h2⟩
  · rintro (h | ⟨h, h2⟩)
    · exact .inl h
    · exact .inr ⟨⟨h, h2⟩, h2⟩

theorem cMPut {L : List Asn} {μ : Mem} {m : Nat} {l : List El} (hO : Ow (MAt m l :: L) μ) (hu : UpK ck key l) (hl : l.length ≤ 999999998) (k : KY) (v : VL) {K : PV → Mem → Prop} (hk : ∀ μ', Ow (MAt m (insK ck key (k, v) l) :: L) μ' → K (pB (getK ck key (key (k, z)) l).isNone) μ') : CallP Try.prog 40 [pP m 0, argK k, argV v] μ K := by
  obtain ⟨s, hO⟩ := MAt.open_ hO
  have ekz : key (k, v) = key (k, z) := rfl
  refine G_book_Map_alpha_number_alpha_memory_Put.c (CIf.f rfl ⟨fun r u => ∃ b7, r.1 = some ⟨b7, 0, none⟩ ∧ PgIn m s b7 l L k r.2 u, ?_, ?_⟩)
  · refine ⟨_, hO.rd 0 rfl (by simp), (cAt k).q ⟨_, _, _, _, _, _, _, _, _, _, _, _, _, rfl, ?_⟩, fun b7 hb7 => (cAt k).q ⟨_, _, _, _, _, _, _, _, _, _, _, _, _, rfl, ?_⟩⟩
    · rw [Mem.or_M0]
      refine ⟨cGet hO.swap hu (by omega) (k, z) (fun y hy => ⟨_, _, _, _, _, _, _, _, _, _, _, _, _, _, rfl, fun b7 hb7 => ?_⟩) (fun hy => ⟨_, _, _, _, _, _, _, _, _, _, _, _, _, _, rfl, fun b7 hb7 => ?_⟩), fun b7 hb7 => ?_⟩
      · exact (hO.new _ _ hb7).st 0 rfl (by simp) fun u hu => ⟨b7, rfl, .inl ⟨y, hy, rfl, hu⟩⟩
      · exact (hO.new _ _ hb7).st 0 rfl (by simp) fun u hu => ⟨b7, rfl, .inr ⟨hy, rfl, hu⟩⟩
      · have hO' := hO.new 111 zc hb7
        exact cGet (Ow.at 2 rfl hO') hu (by omega) (k, z) (fun y hy => ⟨_, _, _, _, _, _, _, _, _, _, _, _, _, _, rfl, hO'.st 0 rfl (by simp) fun u hu => ⟨b7, rfl, .inl ⟨y, hy, rfl, hu⟩⟩⟩) (fun hy => ⟨_, _, _, _, _, _, _, _, _, _, _, _, _, _, rfl, hO'.st 0 rfl (by simp) fun u hu => ⟨b7, rfl, .inr ⟨hy, rfl, hu⟩⟩⟩)
    · rw [Mem.or_M0]
      have hO' := hO.new 111 zc hb7
      exact cGet (Ow.at 2 rfl hO') hu (by omega) (k, z) (fun y hy => ⟨_, _, _, _, _, _, _, _, _, _, _, _, _, _, rfl, hO'.st 0 rfl (by simp) fun u hu => ⟨b7, rfl, .inl ⟨y, hy, rfl, hu⟩⟩⟩) (fun hy => ⟨_, _, _, _, _, _, _, _, _, _, _, _, _, _, rfl, hO'.st 0 rfl (by simp) fun u hu => ⟨b7, rfl, .inr ⟨hy, rfl, hu⟩⟩⟩)
  · rintro ⟨_, t⟩ u ⟨b7, rfl, ⟨y, hy, rfl, hu'⟩ | ⟨hy, rfl, hu'⟩⟩
    · obtain ⟨hym, hyk⟩ := (getK_iff hc hu).1 hy
      have hyk1 : y.1 = k := keyInj hyk
      refine CIf.f rfl ⟨_, hu'.rd 1 rfl (by simp), _, _, _, _, _, _, _, _, _, _, _, _, _, hu'.rd 0 rfl (by simp), ?_⟩
      refine cDrop (Ow.at 2 rfl hu') hu (by omega) y fun u2 hu2 => ⟨_, rfl, ?_⟩
      have hu3 := hu2.swap.tail fun _ h => h.swap
      have hlen := delK_len (ck := ck) (key := key) (k := key y) (L := l)
      refine ⟨_, hu2.rd 2 rfl (by simp), _, hu2.rd 1 rfl (by simp), ?_⟩
      have e1 : y = (k, y.2) := by rw [← hyk1]
      refine cPut (x := (y.1, v)) hu2 (hu.del _) (by omega) fun u4 hu4 => ⟨_, rfl, ?_⟩
      rw [ins_del hc hu (x := (y.1, v)) (y := y) (keyFst _ _ _ rfl), hyk1] at hu4
      have := hk u4 (MAt.shut ((Ow.at 2 rfl hu4).tail fun _ h => h.tail fun _ h => h.drop))
      rw [hy] at this
      exact this
    · refine CIf.t rfl ⟨_, hu'.rd 1 rfl (by simp), ?_⟩
      refine cPut (Ow.at 2 rfl hu') hu (by omega) (k, v) fun u2 hu2 => ⟨_, rfl, ?_⟩
      rw [ekz, hy]
      rw [putK_new hc (by rw [ekz]; exact hy)] at hu2
      have := hk u2 (MAt.shut ((Ow.at 2 rfl hu2).tail fun _ h => h.tail fun _ h => h.drop))
      rw [hy] at this
      exact this

theorem cMDrop {L : List Asn} {μ : Mem} {m : Nat} {l : List El} (hO : Ow (MAt m l :: L) μ) (hu : UpK ck key l) (hl : l.length ≤ 999999998) (k : KY) {K : PV → Mem → Prop} (h1 : ∀ y μ', getK ck key (key (k, z)) l = some y → Ow (MAt m (delK ck key (key (k, z)) l) :: L) μ' → K (.tup [argV y.2, pB true]) μ') (h0 : ∀ μ', getK ck key (key (k, z)) l = none → Ow (MAt m l :: L) μ' → K (.tup [zeroV, pB false]) μ') : CallP Try.prog 46 [pP m 0, argK k] μ K := by
  obtain ⟨s, hO⟩ := MAt.open_ hO
  refine G_book_Map_alpha_number_alpha_memory_Drop.c (CIf.f rfl ⟨fun r u => ∃ b7, r.1 = some ⟨b7, 0, none⟩ ∧ PgIn m s b7 l L k r.2 u, ?_, ?_⟩)
  · refine ⟨_, hO.rd 0 rfl (by simp), (cAt k).q ⟨_, _, _, _, _, _, _, _, _, _, _, _, _, rfl, ?_⟩, fun b7 hb7 => (cAt k).q ⟨_, _, _, _, _, _, _, _, _, _, _, _, _, rfl, ?_⟩⟩
    · rw [Mem.or_M0]
      refine ⟨cGet hO.swap hu (by omega) (k, z) (fun y hy => ⟨_, _, _, _, _, _, _, _, _, _, _, _, _, _, rfl, fun b7 hb7 => ?_⟩) (fun hy => ⟨_, _, _, _, _, _, _, _, _, _, _, _, _, _, rfl, fun b7 hb7 => ?_⟩), fun b7 hb7 => ?_⟩
      · exact (hO.new _ _ hb7).st 0 rfl (by simp) fun u hu => ⟨b7, rfl, .inl ⟨y, hy, rfl, hu⟩⟩
      · exact (hO.new _ _ hb7).st 0 rfl (by simp) fun u hu => ⟨b7, rfl, .inr ⟨hy, rfl, hu⟩⟩
      · have hO' := hO.new 111 zc hb7
        exact cGet (Ow.at 2 rfl hO') hu (by omega) (k, z) (fun y hy => ⟨_, _, _, _, _, _, _, _, _, _, _, _, _, _, rfl, hO'.st 0 rfl (by simp) fun u hu => ⟨b7, rfl, .inl ⟨y, hy, rfl, hu⟩⟩⟩) (fun hy => ⟨_, _, _, _, _, _, _, _, _, _, _, _, _, _, rfl, hO'.st 0 rfl (by simp) fun u hu => ⟨b7, rfl, .inr ⟨hy, rfl, hu⟩⟩⟩)
    · rw [Mem.or_M0]
      have hO' := hO.new 111 zc hb7
      exact cGet (Ow.at 2 rfl hO') hu (by omega) (k, z) (fun y hy => ⟨_, _, _, _, _, _, _, _, _, _, _, _, _, _, rfl, hO'.st 0 rfl (by simp) fun u hu => ⟨b7, rfl, .inl ⟨y, hy, rfl, hu⟩⟩⟩) (fun hy => ⟨_, _, _, _, _, _, _, _, _, _, _, _, _, _, rfl, hO'.st 0 rfl (by simp) fun u hu => ⟨b7, rfl, .inr ⟨hy, rfl, hu⟩⟩⟩)
  · rintro ⟨_, t⟩ u ⟨b7, rfl, ⟨y, hy, rfl, hu'⟩ | ⟨hy, rfl, hu'⟩⟩
    · obtain ⟨hym, hyk⟩ := (getK_iff hc hu).1 hy
      refine ⟨fun _ u2 => Ow (Pt b7 111 (pv y) :: Pt m 113 [pP s 0] :: At s (delK ck key (key (k, z)) l) :: L) u2, CIf.t rfl ⟨_, hu'.rd 1 rfl (by simp), _, _, _, _, _, _, _, _, _, _, _, _, _, hu'.rd 0 rfl (by simp), ?_⟩, ?_⟩
      · refine cDrop (Ow.at 2 rfl hu') hu (by omega) y fun u2 hu2 => ⟨_, rfl, ?_⟩
        rw [hyk] at hu2
        exact hu2.swap.tail fun _ h => h.swap
      · intro _ u2 hu2
        exact ⟨_, _, _, _, _, _, _, _, _, _, _, _, hu2.rd 0 rfl (by simp), h1 y _ hy (MAt.shut hu2.drop)⟩
    · refine ⟨fun _ u2 => u2 = u, CIf.f rfl rfl, ?_⟩
      rintro _ _ rfl
      exact ⟨_, _, _, _, _, _, _, _, _, _, _, _, hu'.rd 0 rfl (by simp), h0 _ hy (MAt.shut hu'.drop)⟩

theorem cMLen {L : List Asn} {μ : Mem} {m : Nat} {l : List El} (hO : Ow (MAt m l :: L) μ) {K : PV → Mem → Prop} (hk : K (pI (l.length : Nat)) μ) : CallP Try.prog 47 [pP m 0] μ K := by
  obtain ⟨s, hO⟩ := MAt.open_ hO
  exact G_book_Map_alpha_number_alpha_memory_Len.c (CIf.f rfl ⟨_, hO.rd 0 rfl (by simp), cLen hO.swap ⟨_, rfl, hk⟩⟩)

theorem cMNew {L : List Asn} {μ : Mem} (hO : Ow L μ) {K : PV → Mem → Prop} (hk : ∀ μ' m, Ow (MAt m [] :: L) μ' → K (pP m 0) μ') : CallP Try.prog 37 [] μ K := by
  refine G_book_New_alpha_number_alpha_memory.c (cNew hO .nil [] (by simp) fun μ1 b h1 => ⟨_, rfl, fun m hm => hk _ m (MAt.shut (h1.new 113 [pP b 0] hm))⟩)

@[reducible] def mAllF (m : Nat) : PV := .fn (.func 59) [] [.fptr [pP m 0] 0]
theorem cMAll (m : Nat) : Pure Try.prog 38 [pP m 0] (mAllF m) := PureK.of (G_book_Map_alpha_number_alpha_memory_All.c rfl)
theorem seqMAll (m : Nat) (l : List El) (hl : l.length ≤ 4000000000000000000) : SeqO Try.prog (mAllF m) (l.map fun x => [argK x.1, argV x.2]) (MAt m l) (MAt m l) := by
  refine SeqO.mk fun fy ya yb I S C μ hy hO h0 hstep => ?_
  show CallP _ _ [.fn fy ya yb, .fptr [pP m 0] 0] _ _
  obtain ⟨s, hO⟩ := MAt.open_ hO
  refine G_book_Map_alpha_number_alpha_memory_All_1.c fun b2 hb2 => ⟨_, rfl, CIf.f rfl ⟨_, rfl, ?_⟩⟩
  have hO2 := hO.new 83 [.fn fy ya yb] hb2
  refine ⟨_, hO2.rd 1 rfl (by simp), (cAll s).call ⟨_, _, _, rfl, ?_⟩⟩
  have hl2 : (l.map fun x : El => [argK x.1, argV x.2]).length = l.length := by simp
  refine RangeP.own (seqAll s l hl) (Ow.at 2 rfl hO2) (fun k => Ow [Pt b2 83 [.fn fy ya yb], I k]) (fun c => fun u => c = .ret ∧ Ow [S] u) (fun k => UpC.own _) (fun c => UpC.and (UpC.own _)) (fun μ' h => ?_) ?_ ?_ ?_
  · have h3 : Ow (Pt b2 83 [.fn fy ya yb] :: (Pt m 113 [pP s 0] :: At s l :: [C])) μ' := h.swap.tail fun _ h => h.swap
    exact h3.tail fun ν hν => h0 ν (MAt.shut hν)
  · intro k hk u R hI hnone hsome
    have hk' : k < l.length := by simpa using hk
    have hst := hstep k (by rw [hl2]; exact hk')
    rw [List.getElem_map] at hst ⊢
    refine ⟨_, _, _, _, _, _, _, _, _, _, _, _, _, rfl, _, _, _, hI.rd 0 rfl (by simp), Ow.callV hI.swap (fun ν hν => hst ν hν) fun v μ' hO' => ?_⟩
    rcases hO'.split2 with ⟨rfl, h⟩ | ⟨rfl, h⟩
    · exact ⟨true, rfl, CIf.f rfl (hnone _ h.swap)⟩
    · exact ⟨false, rfl, CIf.t rfl (hsome _ _ ⟨rfl, h.swap.drop⟩)⟩
  · intro u hI
    rw [List.length_map] at hI
    exact .inl (by rw [hl2]; exact hI.drop)
  · rintro c u ⟨rfl, h⟩
    exact .inr h

end AM

end Go.Proofs.Ytdiimonfmdbclaa

/-
  Conditions: how many, in which order, light ones. Plain.
-/
namespace Go.Proofs.Ytdiimonfmdbclaa
open Go.Eng Go.RowKit
set_option linter.unusedVariables false
set_option linter.unusedSimpArgs false
set_option linter.unnecessarySimpa false

mutual
def sizeC : Cond → Nat
  | .mk _ _ _ _ _ _ cs => 1 + sizeL cs
def sizeL : List Cond → Nat
  | [] => 0
  | c :: cs => sizeC c + sizeL cs
end

theorem sizeC_eq (c : Cond) : sizeC c = 1 + sizeL c.conds := by cases c; rfl
theorem sizeL_append (a b : List Cond) : sizeL (a ++ b) = sizeL a + sizeL b := by
  induction a with
  | nil => simp [sizeL]
  | cons c a ih => simp only [List.cons_append, sizeL, ih]; omega
theorem sizeL_take {l : List Cond} {k : Nat} (hk : k < l.length) : sizeL (l.take (k + 1)) = sizeL (l.take k) + (1 + sizeL l[k].conds) := by
  rw [List.take_add_one, sizeL_append, List.getElem?_eq_getElem hk]; simp [sizeL, sizeC_eq]
theorem sizeL_split (l : List Cond) (k : Nat) : sizeL l = sizeL (l.take k) + sizeL (l.drop k) := by rw [← sizeL_append, List.take_append_drop]
theorem sizeL_mem {l : List Cond} {c : Cond} (h : c ∈ l) : 1 + sizeL c.conds ≤ sizeL l := by
  induction l with
  | nil => cases h
  | cons d l ih =>
    simp only [sizeL]
    rcases List.mem_cons.1 h with rfl | h
    · rw [sizeC_eq]; omega
    · have := ih h; omega
theorem sizeL_len (l : List Cond) : l.length ≤ sizeL l := by
  induction l with
  | nil => simp
  | cons c l ih => simp only [List.length_cons, sizeL, sizeC_eq]; omega

mutual
/-- Each condition ahead of its inner ones, with its count and how deep it lies. -/
def preC : Cond → Nat → Nat → List (Nat × Nat × Cond)
  | .mk k g i a v ac cs, at_, deep => (at_, deep, .mk k g i a v ac cs) :: preL cs (at_ + 1) (deep + 1)
def preL : List Cond → Nat → Nat → List (Nat × Nat × Cond)
  | [], _, _ => []
  | c :: cs, at_, deep => preC c at_ deep ++ preL cs (at_ + sizeC c) deep
end

theorem preC_eq (c : Cond) (at_ deep : Nat) : preC c at_ deep = (at_, deep, c) :: preL c.conds (at_ + 1) (deep + 1) := by cases c; rfl

theorem preL_append : ∀ (a b : List Cond) (at_ deep : Nat), preL (a ++ b) at_ deep = preL a at_ deep ++ preL b (at_ + sizeL a) deep
  | [], b, at_, deep => by simp [preL, sizeL]
  | c :: a, b, at_, deep => by
    simp only [List.cons_append, preL, preL_append a b, sizeL, List.append_assoc]
    congr 3; omega

mutual
theorem preC_len : ∀ (c : Cond) (at_ deep : Nat), (preC c at_ deep).length = sizeC c
  | .mk k g i a v ac cs, at_, deep => by simp only [preC, List.length_cons, sizeC, preL_len cs]; omega
theorem preL_len : ∀ (l : List Cond) (at_ deep : Nat), (preL l at_ deep).length = sizeL l
  | [], _, _ => rfl
  | c :: cs, at_, deep => by simp only [preL, List.length_append, preC_len c, preL_len cs, sizeL]
end

theorem nb {b : Bool} (h : (!b) = true) : b = false := by simpa using h
theorem nt {b : Bool} (h : (!b) = false) : b = true := by simpa using h

theorem preL_take {l : List Cond} {k : Nat} (hk : k < l.length) (a d : Nat) : preL (l.take (k + 1)) a d = preL (l.take k) a d ++ ((a + sizeL (l.take k), d, l[k]) :: preL l[k].conds (a + sizeL (l.take k) + 1) (d + 1)) := by
  rw [List.take_add_one, preL_append, List.getElem?_eq_getElem hk]
  simp [preL, preC_eq]

theorem preL_at {l : List Cond} {k : Nat} (hk : k < l.length) (a d : Nat) : preL l a d = preL (l.take k) a d ++ ((a + sizeL (l.take k), d, l[k]) :: preL l[k].conds (a + sizeL (l.take k) + 1) (d + 1)) ++ preL (l.drop (k + 1)) (a + sizeL (l.take (k + 1))) d := by
  rw [← preL_take hk, ← preL_append, List.take_append_drop]

mutual
theorem preC_count : ∀ (c : Cond) (a d k : Nat) (x : Nat × Nat × Cond), (preC c a d)[k]? = some x → x.1 = a + k
  | .mk kk g i at' v ac cs, a, d, k, x, h => by
    simp only [preC] at h
    cases k with
    | zero => simp only [List.getElem?_cons_zero, Option.some.injEq] at h; subst h; rfl
    | succ k =>
      simp only [List.getElem?_cons_succ] at h
      have := preL_count cs (a + 1) (d + 1) k x h; omega
theorem preL_count : ∀ (l : List Cond) (a d k : Nat) (x : Nat × Nat × Cond), (preL l a d)[k]? = some x → x.1 = a + k
  | [], a, d, k, x, h => by simp [preL] at h
  | c :: cs, a, d, k, x, h => by
    simp only [preL] at h
    by_cases hk : k < (preC c a d).length
    · rw [List.getElem?_append_left hk] at h; exact preC_count c a d k x h
    · rw [List.getElem?_append_right (by omega)] at h
      have := preL_count cs (a + sizeC c) d _ x h
      rw [preC_len] at this hk
      omega
end

/-! ### light ones -/
def lightT (t : Test) : Prop := t.list.length ≤ 20 ∧ t.var.size ≤ 100 ∧ t.sym.t.size ≤ 100

mutual
def lightC : Cond → Prop
  | .mk _ _ i a v _ cs => i.size ≤ 100 ∧ a.length ≤ 10 ∧ v.length ≤ 10 ∧ (∀ t ∈ a, lightT t) ∧ (∀ t ∈ v, lightT t) ∧ lightL cs
def lightL : List Cond → Prop
  | [] => True
  | c :: cs => lightC c ∧ lightL cs
end

theorem lightC_eq (c : Cond) : lightC c ↔ c.id.size ≤ 100 ∧ c.attr.length ≤ 10 ∧ c.value.length ≤ 10 ∧ (∀ t ∈ c.attr, lightT t) ∧ (∀ t ∈ c.value, lightT t) ∧ lightL c.conds := by cases c; rfl

theorem lightL_iff {l : List Cond} : lightL l ↔ ∀ c ∈ l, lightC c := by
  induction l with
  | nil => simp [lightL]
  | cons c l ih => simp [lightL, ih]

mutual
theorem lightC_pre : ∀ (c : Cond) (a d : Nat) (x : Nat × Nat × Cond), lightC c → x ∈ preC c a d → lightC x.2.2
  | .mk k g i at' v ac cs, a, d, x, h, hx => by
    simp only [preC, List.mem_cons] at hx
    rcases hx with rfl | hx
    · exact h
    · exact lightL_pre cs _ _ x ((lightC_eq _).1 h).2.2.2.2.2 hx
theorem lightL_pre : ∀ (l : List Cond) (a d : Nat) (x : Nat × Nat × Cond), lightL l → x ∈ preL l a d → lightC x.2.2
  | [], a, d, x, _, hx => by simp [preL] at hx
  | c :: cs, a, d, x, h, hx => by
    simp only [preL, List.mem_append] at hx
    rcases hx with hx | hx
    · exact lightC_pre c a d x h.1 hx
    · exact lightL_pre cs _ d x h.2 hx
end

theorem lightTs {l : List Test} (h : ∀ t ∈ l, lightT t) : ∀ t ∈ l, t.list.length ≤ 1000000 := fun t ht => Nat.le_trans (h t ht).1 (by omega)

end Go.Proofs.Ytdiimonfmdbclaa

/-
  What the statements keep: sizes, what is too heavy, copies.
-/
namespace Go.Proofs.Ytdiimonfmdbclaa
open Go.Eng Go.RowKit
set_option linter.unusedVariables false
set_option linter.unusedSimpArgs false
set_option linter.unnecessarySimpa false

theorem sEq (s : ByteArray) : strEq s s = true := strEq_iff.2 rfl

theorem condRow (c : Cond) : rowM c.pv 0 7 = some [pI c.kind, pB c.goal, pS c.id, .list 6 .sh (c.attr.map Test.pv), .list 6 .sh (c.value.map Test.pv), pB c.acc, .list 7 .sh (c.conds.map Cond.pv)] := by rw [Cond.pv_eq]; rfl

theorem cKSize : ∀ (n : Nat) (fl : Fl) (l : List Cond) (most deep : Nat), sizeL l ≤ n → most ≤ 1000 → deep ≤ 21 → PureK Try.prog 7 [.list 7 fl (l.map Cond.pv), pI (most : Nat), pI (deep : Nat)] fun p => ∃ r : Nat, p = pI (r : Nat) ∧ r ≤ most + 1 ∧ (r ≤ most → sizeL l = r) := by
  intro n
  induction n with
  | zero =>
    intro fl l most deep h hm hd
    have : l = [] := by
      cases l with
      | nil => rfl
      | cons c l => simp [sizeL, sizeC_eq] at h
    subst this
    refine PureK.of (G_ponderkeep_Size.c ?_)
    refine CIf.mk (fun h => ⟨most + 1, ?_, by omega, fun h => by omega⟩) (fun h => ?_)
    · rw [wrap_id (by omega) (by omega)]; rfl
    · refine ⟨fun s _ => s = 0, ?_, ?_⟩
      · exact LoopI.up2 0 (by omega) (fun k x u => x = 0) rfl fun k x u next hk hx hnext => by
          have : k = 0 := by omega
          subst this hx
          exact CIf.f (by simp) rfl
      · rintro s u rfl
        rw [wrap_id (by omega) (by omega), if_neg (by omega)]
        exact ⟨0, rfl, by omega, fun _ => rfl⟩
  | succ n ih =>
    intro fl l most deep h hm hd
    refine PureK.of (G_ponderkeep_Size.c ?_)
    refine CIf.mk (fun h => ⟨most + 1, ?_, by omega, fun h => by omega⟩) (fun hdd => ?_)
    · rw [wrap_id (by omega) (by omega)]; rfl
    · have hdd := of_decide_eq_false hdd
      refine ⟨fun s _ => ∃ m : Nat, s = (m : Int) ∧ m ≤ 2 * most + 2 ∧ (m ≤ most → sizeL l = m), ?_, ?_⟩
      · refine LoopI.up2 (2 * most + 5) (by omega) (fun k x u => ∃ m : Nat, x = (m : Int) ∧ k ≤ m ∧ m ≤ 2 * most + 2 ∧ (m ≤ most → sizeL (l.take k) = m)) ⟨0, rfl, by omega, by omega, fun _ => by simp [sizeL]⟩ ?_
        rintro k _ u next hk ⟨m, rfl, hkm, hmm, hsz⟩ hnext
        refine CIf.mk (fun h1 => CIf.mk (fun h2 => ?_) (fun h2 => ?_)) (fun h1 => ?_)
        · have h1 := of_decide_eq_true h1
          have h2 := of_decide_eq_true h2
          simp only [List.length_map] at h1
          have hk' : k < l.length := by omega
          have hs := hsz (by omega)
          have hmem := sizeL_mem (List.getElem_mem hk')
          refine ⟨by omega, _, atRow hk', .sh, l[k].conds.map Cond.pv, by rw [Cond.pv_eq]; rfl, ?_⟩
          rw [wrap_id (x := (deep : Int) + 1) (by omega) (by omega)]
          refine (ih .sh l[k].conds most (deep + 1) (by omega) hm (by omega)).call ?_
          rintro _ ⟨r, rfl, hr1, hr2⟩
          refine ⟨_, rfl, ?_⟩
          dsimp only
          rw [wrap_id (x := (1 : Int) + _) (by omega) (by omega), wrap_id (x := (m : Int) + _) (by omega) (by omega)]
          refine hnext (by omega) _ _ ⟨m + 1 + r, by omega, by omega, by omega, fun hle => ?_⟩
          rw [sizeL_take hk', hs, hr2 (by omega)]; omega
        · have h2 := of_decide_eq_false h2
          exact ⟨m, rfl, hmm, fun hle => by omega⟩
        · have h1 := of_decide_eq_false h1
          simp only [List.length_map] at h1
          rw [takeAll (by omega)] at hsz
          exact ⟨m, rfl, hmm, hsz⟩
      · rintro _ u ⟨m, rfl, hmm, hsz⟩
        rw [wrap_id (by omega) (by omega)]
        by_cases hlt : (most : Int) + 1 < (m : Int)
        · rw [if_pos hlt]
          exact ⟨most + 1, rfl, by omega, fun h => by omega⟩
        · rw [if_neg hlt]
          exact ⟨m, rfl, by omega, hsz⟩

theorem cHeavyTests (fl : Fl) (l : List Test) (hl : l.length ≤ 1000000) : PureK Try.prog 27 [.list 6 fl (l.map Test.pv)] fun p => ∃ q : Bool, p = pB q ∧ (q = false → ∀ t ∈ l, lightT t) := by
  refine PureK.of (G_ponderkeep_heavyTests.c ?_)
  refine LoopI.each (n := l.length) (by omega) (fun k u => ∀ t ∈ l.take k, lightT t) (by simp) ?_ ?_
  · intro k u next hk hg hnext
    have yes : ∃ q : Bool, wk (pB true) = pB q ∧ (q = false → ∀ t ∈ l, lightT t) := ⟨true, rfl, fun h => by cases h⟩
    refine CIf.t (by simpa using hk) ⟨by omega, _, atRow hk, _, _, rfl, CIf.mk (fun _ => yes) (fun a1 => ⟨by omega, _, atRow hk, _, rfl, CIf.mk (fun _ => yes) (fun a2 => ⟨by omega, _, atRow hk, _, rfl, CIf.mk (fun _ => yes) (fun a3 => hnext _ ?_)⟩)⟩)⟩
    have a1 := of_decide_eq_false a1
    have a2 := of_decide_eq_false a2
    have a3 := of_decide_eq_false a3
    simp only [List.length_map] at a1
    intro t ht
    rw [List.take_add_one, List.getElem?_eq_getElem hk, List.mem_append] at ht
    rcases ht with ht | ht
    · exact hg t ht
    · simp only [Option.toList_some, List.mem_singleton] at ht
      subst ht
      exact ⟨by omega, by omega, by omega⟩
  · intro u next hg
    rw [List.take_length] at hg
    exact CIf.f (by simp) ⟨false, rfl, fun _ => hg⟩

theorem cHeavyConds : ∀ (n : Nat) (fl : Fl) (l : List Cond), sizeL l ≤ n → sizeL l ≤ 1000000 → PureK Try.prog 8 [.list 7 fl (l.map Cond.pv)] fun p => ∃ q : Bool, p = pB q ∧ (q = false → lightL l) := by
  intro n
  induction n with
  | zero =>
    intro fl l h _
    have : l = [] := by
      cases l with
      | nil => rfl
      | cons c l => simp [sizeL, sizeC_eq] at h
    subst this
    refine PureK.of (G_ponderkeep_HeavyConds.c ?_)
    exact LoopI.each (n := 0) (by omega) (fun k u => True) trivial (fun k u next hk => by omega) (fun u next _ => CIf.f (by simp) ⟨false, rfl, fun _ => trivial⟩)
  | succ n ih =>
    intro fl l h h6
    refine PureK.of (G_ponderkeep_HeavyConds.c ?_)
    have hll := sizeL_len l
    refine LoopI.each (n := l.length) (by omega) (fun k u => ∀ c ∈ l.take k, lightC c) (by simp) ?_ ?_
    · intro k u next hk hg hnext
      have hm := sizeL_mem (List.getElem_mem hk)
      have yes : ∃ q : Bool, wk (pB true) = pB q ∧ (q = false → lightL l) := ⟨true, rfl, fun h => by cases h⟩
      refine CIf.t (by simpa using hk) ⟨by omega, _, atRow hk, _, _, _, _, _, _, _, _, _, _, by rw [Cond.pv_eq]; rfl, CIf.mk (fun _ => yes) (fun a1 => CIf.mk (fun _ => yes) (fun a2 => CIf.mk (fun _ => yes) (fun a3 => ?_)))⟩
      have a1 := of_decide_eq_false a1
      have a2 := of_decide_eq_false a2
      have a3 := of_decide_eq_false a3
      simp only [List.length_map] at a2 a3
      refine (cHeavyTests .sh l[k].attr (by omega)).call ?_
      rintro _ ⟨q1, rfl, hq1⟩
      refine ⟨_, rfl, CIf.mk (fun _ => yes) (fun b1 => (cHeavyTests .sh l[k].value (by omega)).call ?_)⟩
      rintro _ ⟨q2, rfl, hq2⟩
      refine ⟨_, rfl, CIf.mk (fun _ => yes) (fun b2 => (ih .sh l[k].conds (by omega) (by omega)).call ?_)⟩
      rintro _ ⟨q3, rfl, hq3⟩
      refine ⟨_, rfl, CIf.mk (fun _ => yes) (fun b3 => hnext _ ?_)⟩
      intro c hc
      rw [List.take_add_one, List.getElem?_eq_getElem hk, List.mem_append] at hc
      rcases hc with hc | hc
      · exact hg c hc
      · simp only [Option.toList_some, List.mem_singleton] at hc
        subst hc
        exact (lightC_eq _).2 ⟨by omega, by omega, by omega, hq1 b1, hq2 b2, hq3 b3⟩
    · intro u next hg
      rw [List.take_length] at hg
      exact CIf.f (by simp) ⟨false, rfl, fun _ => lightL_iff.2 hg⟩

/-- A number out of n, told by any number. -/
def withinV (v : Int) (n : Nat) : Nat := (if Int.tmod v n < 0 then Int.tmod v n + n else Int.tmod v n).toNat
theorem withinV_lt (v : Int) {n : Nat} (h : 1 ≤ n) : withinV v n < n := by
  unfold withinV
  have h1 := Int.tmod_lt_of_pos v (show (0 : Int) < (n : Int) by omega)
  have h2 := Int.lt_tmod_of_pos v (show (0 : Int) < (n : Int) by omega)
  split <;> omega
theorem cWithinV (v : Int) (n : Nat) (h1 : 1 ≤ n) (h2 : n ≤ 1000000) : Pure Try.prog 16 [pI v, pI (n : Nat)] (pI (withinV v n : Nat)) := by
  refine PureK.of (G_ponderkeep_Within.c ?_)
  have hm := Int.tmod_lt_of_pos v (show (0 : Int) < (n : Int) by omega)
  have hlo := Int.lt_tmod_of_pos v (show (0 : Int) < (n : Int) by omega)
  refine CIf.f (by simp; omega) ⟨by omega, CIf.mk (fun h => ?_) (fun h => ?_)⟩
  · have h := of_decide_eq_true h
    rw [wrap_id (by omega) (by omega)]
    simp only [wk, wk1, withinV]
    rw [if_pos h]
    congr 2; omega
  · have h := of_decide_eq_false h
    simp only [wk, wk1, withinV]
    rw [if_neg h]
    congr 2; omega
theorem cWithin (v : Int) (n : Nat) (h1 : 1 ≤ n) (h2 : n ≤ 1000000) : PureK Try.prog 16 [pI v, pI (n : Nat)] fun p => ∃ k : Nat, p = pI (k : Nat) ∧ k < n := by
  refine PureK.of (G_ponderkeep_Within.c ?_)
  have hm := Int.tmod_lt_of_pos v (show (0 : Int) < (n : Int) by omega)
  refine CIf.f (by simp; omega) ⟨by omega, CIf.mk (fun h => ?_) (fun h => ?_)⟩
  · have h := of_decide_eq_true h
    have hlo : -(n : Int) < Int.tmod v n := by
      have := Int.lt_tmod_of_pos v (show (0 : Int) < (n : Int) by omega); omega
    refine ⟨(Int.tmod v n + n).toNat, ?_, by omega⟩
    rw [wrap_id (by omega) (by omega)]
    simp only [wk, wk1]
    congr 2; omega
  · have h := of_decide_eq_false h
    refine ⟨(Int.tmod v n).toNat, ?_, by omega⟩
    simp only [wk, wk1]
    congr 2; omega

theorem cCopySyms (f : Fl) (l : List Sym) (hl : l.length ≤ 1000000) : Pure Try.prog 55 [.list 3 f (l.map Sym.pv)] (.list 3 .sh (l.map Sym.pv)) := by
  refine PureK.of (G_ponderkeep_Copy_api_Sym.c ?_)
  exact appL.go1 (by trivial) (by simp; omega) (by simp; omega) fun f1 μ1 t1 => rfl

theorem cCopyTests (f : Fl) (l : List Test) (hl : l.length ≤ 1000000) (ht : ∀ t ∈ l, t.list.length ≤ 1000000) : Pure Try.prog 30 [.list 6 f (l.map Test.pv)] (.list 6 .sh (l.map Test.pv)) := by
  refine PureK.of (G_ponderkeep_CopyTests.c ?_)
  refine LoopI.each2 (n := l.length) (by omega) (fun i x u => x.2 = (l.take i).map Test.pv ∧ TipIn x.1 i 6 u) ⟨rfl, trivial⟩ ?_ ?_
  · rintro i ⟨f, _⟩ u next hi ⟨rfl, ht'⟩ hnext
    refine CIf.t (by simpa using hi) ⟨by omega, _, atRow hi, _, _, _, _, _, _, _, rfl, by omega, _, atRow hi, _, _, rfl, ?_⟩
    refine (cCopySyms .sh l[i].list (ht _ (List.getElem_mem hi))).call ⟨_, _, rfl, ?_⟩
    have hlen : ((l.take i).map Test.pv).length = i := by rw [List.length_map, List.length_take]; omega
    refine appL.go1 (by rw [hlen]; exact ht') (by rw [hlen]; simp; omega) (by rw [hlen]; simp; omega) fun f1 μ1 t1 => hnext _ _ ⟨?_, ?_⟩
    · rw [mapTake hi]
    · rw [hlen] at t1; exact t1
  · rintro ⟨f, _⟩ u next ⟨rfl, ht'⟩
    refine CIf.f (by simp) ?_
    rw [List.take_length]; rfl

theorem cCopyConds : ∀ (n : Nat) (f : Fl) (l : List Cond), sizeL l ≤ n → sizeL l ≤ 1000000 → lightL l → Pure Try.prog 31 [.list 7 f (l.map Cond.pv)] (.list 7 .sh (l.map Cond.pv)) := by
  intro n
  induction n with
  | zero =>
    intro f l h _ _
    have : l = [] := by
      cases l with
      | nil => rfl
      | cons c l => simp [sizeL, sizeC_eq] at h
    subst this
    refine PureK.of (G_ponderkeep_CopyConds.c ?_)
    exact LoopI.each2 (n := 0) (by omega) (fun _ x _ => x.2 = []) rfl (fun k x u next hk => by omega) (fun x u next hx => CIf.f (by simp) (by rw [hx]; rfl))
  | succ n ih =>
    intro f l h h6 hli
    have hll := sizeL_len l
    refine PureK.of (G_ponderkeep_CopyConds.c ?_)
    refine LoopI.each2 (n := l.length) (by omega) (fun i x u => x.2 = (l.take i).map Cond.pv ∧ TipIn x.1 i 7 u) ⟨rfl, trivial⟩ ?_ ?_
    · rintro i ⟨f, _⟩ u next hi ⟨rfl, ht'⟩ hnext
      have hm := sizeL_mem (List.getElem_mem hi)
      obtain ⟨_, ha, hv, hta, htv, hcs⟩ := (lightC_eq _).1 (lightL_iff.1 hli _ (List.getElem_mem hi))
      refine CIf.t (by simpa using hi) ⟨by omega, _, atRow hi, _, _, _, _, _, _, _, _, _, _, condRow _, ?_⟩
      refine Pure.call (r := .agg l[i].pv) (PureK.of (G_ponderkeep_CopyCond.c ?_)) ?_
      · refine (cCopyTests .sh _ (by omega) (lightTs hta)).call ⟨_, _, rfl, (cCopyTests .sh _ (by omega) (lightTs htv)).call ⟨_, _, rfl, (ih .sh _ (by omega) (by omega) hcs).call ⟨_, _, rfl, ?_⟩⟩⟩
        rw [Cond.pv_eq]; rfl
      · rw [Cond.pv_eq]
        refine ⟨_, _, _, _, _, _, _, _, _, _, rfl, ?_⟩
        have hlen : ((l.take i).map Cond.pv).length = i := by rw [List.length_map, List.length_take]; omega
        refine appL.go1 (by rw [hlen]; exact ht') (by rw [hlen]; simp; omega) (by rw [hlen]; simp; omega) fun f1 μ1 t1 => hnext _ _ ⟨?_, ?_⟩
        · rw [mapTake hi, Cond.pv_eq l[i]]
        · rw [hlen] at t1; exact t1
    · rintro ⟨f, _⟩ u next ⟨rfl, ht'⟩
      refine CIf.f (by simp) ?_
      rw [List.take_length]; rfl


end Go.Proofs.Ytdiimonfmdbclaa

/-
  What the statements keep: are two things the same?
-/
namespace Go.Proofs.Ytdiimonfmdbclaa
open Go.Eng Go.RowKit
set_option linter.unusedVariables false
set_option linter.unusedSimpArgs false
set_option linter.unnecessarySimpa false

/-- It answers whether. -/
def Asks (g : FuncId) (args : List PV) (φ : Prop) : Prop := PureK Try.prog g args fun p => ∃ q : Bool, p = pB q ∧ (q = true ↔ φ)

theorem Asks.call {g : FuncId} {args : List PV} {φ : Prop} (h : Asks g args φ) {μ : Mem} {K : PV → Mem → Prop} (hy : φ → K (pB true) μ) (hn : ¬ φ → K (pB false) μ) : CallP Try.prog g args μ K := PureK.call h fun p ⟨q, e, hq⟩ => by
  subst e
  cases q with
  | true => exact hy (hq.1 rfl)
  | false => exact hn fun h => by have := hq.2 h; cases this

theorem Asks.yes {φ : Prop} (h : φ) : ∃ q : Bool, wk (pB true) = pB q ∧ (q = true ↔ φ) := ⟨true, rfl, fun _ => h, fun _ => rfl⟩
theorem Asks.no {φ : Prop} (h : ¬ φ) : ∃ q : Bool, wk (pB false) = pB q ∧ (q = true ↔ φ) := ⟨false, rfl, (fun h => by cases h), fun h' => absurd h' h⟩
theorem Asks.yes' {φ : Prop} (h : φ) : ∃ q : Bool, pB true = pB q ∧ (q = true ↔ φ) := ⟨true, rfl, fun _ => h, fun _ => rfl⟩
theorem Asks.no' {φ : Prop} (h : ¬ φ) : ∃ q : Bool, pB false = pB q ∧ (q = true ↔ φ) := ⟨false, rfl, (fun h => by cases h), fun h' => absurd h' h⟩

theorem eqLoop {T : Type} {l m : List T} {n : Nat} {body : (Int → Mem → Prop) → Int → Mem → Prop} {u : Mem} (hl : l.length = n) (hm : m.length = n) (hn : n < 9223372036854775808)
    (hin : ∀ (k : Nat) (hk : k < l.length) (hk' : k < m.length) (u : Mem) (next : Int → Mem → Prop), (l[k] = m[k] → ∀ u', next (IntKind.wrap .i64 ((k : Int) + 1)) u') → (l[k] ≠ m[k] → l ≠ m) → body next (k : Int) u) (hout : ∀ (u : Mem) (next : Int → Mem → Prop), l = m → body next (n : Int) u) : LoopI body 0 u := by
  refine LoopI.each (n := n) hn (fun k u => l.take k = m.take k) (by simp) ?_ ?_
  · intro k u next hk hg hnext
    refine hin k (by omega) (by omega) u next (fun e u' => hnext u' ?_) (fun hne e => hne ?_)
    · rw [List.take_add_one, List.take_add_one, hg, List.getElem?_eq_getElem (by omega), List.getElem?_eq_getElem (by omega), e]
    · subst e; rfl
  · intro u next hg
    rw [List.take_of_length_le (by omega), List.take_of_length_le (by omega)] at hg
    exact hout u next hg

theorem neLen {T : Type} {l m : List T} {pv : T → List PV} (h : ((((l.map pv).length : Nat) : Int) != (((m.map pv).length : Nat) : Int)) = true) : l ≠ m := fun e => by subst e; simp at h
theorem eqLen {T : Type} {l m : List T} {pv : T → List PV} (h : ((((l.map pv).length : Nat) : Int) != (((m.map pv).length : Nat) : Int)) = false) : m.length = l.length := by simp at h; omega

theorem qSyms (f g : Fl) (l m : List Sym) (hl : l.length ≤ 1000000000) : Asks 56 [.list 3 f (l.map Sym.pv), .list 3 g (m.map Sym.pv)] (l = m) := by
  refine PureK.of (G_ponderkeep_Syms.c (CIf.mk (fun h => Asks.no (neLen h)) (fun h => ?_)))
  refine eqLoop (l := l) (m := m) (n := l.length) rfl (eqLen h) (by omega) (fun k hk hk' u next hy hno => ?_) (fun u next e => CIf.f (by simp) (Asks.yes e))
  refine CIf.t (by simpa using hk) ⟨by omega, _, atRow hk, _, _, _, rfl, by omega, _, atRow hk', _, _, _, rfl, CIf.mk (fun h => Asks.no (hno fun e => ?_)) (fun h => hy (symEq_iff.1 (nt h)) _)⟩
  have h' : symEq l[k] m[k] = false := nb h
  rw [symEq_iff.2 e] at h'; cases h'
theorem testExt {a b : Test} (h1 : a.rel = b.rel) (h2 : a.var = b.var) (h3 : a.sym = b.sym) (h4 : a.list = b.list) : a = b := by cases a; cases b; simp_all
theorem qTests (f g : Fl) (l m : List Test) (hl : l.length ≤ 1000000000) (ht : ∀ t ∈ l, t.list.length ≤ 1000000000) : Asks 34 [.list 6 f (l.map Test.pv), .list 6 g (m.map Test.pv)] (l = m) := by
  refine PureK.of (G_ponderkeep_Tests.c (CIf.mk (fun h => Asks.no (neLen h)) (fun h => ?_)))
  refine eqLoop (l := l) (m := m) (n := l.length) rfl (eqLen h) (by omega) (fun k hk hk' u next hy hno => ?_) (fun u next e => CIf.f (by simp) (Asks.yes e))
  refine CIf.t (by simpa using hk) ⟨by omega, _, atRow hk, _, rfl, by omega, _, atRow hk', _, rfl, CIf.mk (fun h1 => Asks.no (hno fun e => ?_)) (fun h1 => ⟨by omega, _, atRow hk, _, rfl, by omega, _, atRow hk', _, rfl, CIf.mk (fun h2 => Asks.no (hno fun e => ?_)) (fun h2 => ⟨by omega, _, atRow hk, _, _, _, rfl, by omega, _, atRow hk', _, _, _, rfl, CIf.mk (fun h3 => Asks.no (hno fun e => ?_)) (fun h3 => ⟨by omega, _, atRow hk, _, _, rfl, by omega, _, atRow hk', _, _, rfl, ?_⟩)⟩)⟩)⟩
  · rw [e] at h1; simp at h1
  · rw [e, strEq_self] at h2; cases h2
  · have := nb h3
    rw [show ((l[k].sym.k == m[k].sym.k) && (strEq l[k].sym.t m[k].sym.t && ((l[k].sym.n == m[k].sym.n) && true))) = true from symEq_iff.2 (by rw [e])] at this; cases this
  · refine (qSyms _ _ l[k].list m[k].list (ht _ (List.getElem_mem hk))).call (fun e => ⟨_, rfl, CIf.f rfl (hy (testExt (by simpa using h1) (strEq_iff.1 (nt h2)) (symEq_iff.1 (nt h3)) e) _)⟩) (fun hne => ⟨_, rfl, CIf.t rfl (Asks.no (hno fun e => hne (by rw [e])))⟩)
theorem condExt {a b : Cond} (h1 : a.kind = b.kind) (h2 : a.goal = b.goal) (h3 : a.id = b.id) (h4 : a.attr = b.attr) (h5 : a.value = b.value) (h6 : a.acc = b.acc) (h7 : a.conds = b.conds) : a = b := by
  cases a; cases b; simp_all [Cond.kind, Cond.goal, Cond.id, Cond.attr, Cond.value, Cond.acc, Cond.conds]
theorem qCond' (n : Nat) (ih : ∀ (f g : Fl) (l m : List Cond), sizeL l ≤ n → sizeL l ≤ 1000000 → lightL l → Asks 35 [.list 7 f (l.map Cond.pv), .list 7 g (m.map Cond.pv)] (l = m)) (c d : Cond) (hs : sizeL c.conds ≤ n) (h6 : sizeL c.conds ≤ 1000000) (hl : lightC c) : Asks 13 [.agg [pI c.kind, pB c.goal, pS c.id, .list 6 .sh (c.attr.map Test.pv), .list 6 .sh (c.value.map Test.pv), pB c.acc, .list 7 .sh (c.conds.map Cond.pv)], .agg [pI d.kind, pB d.goal, pS d.id, .list 6 .sh (d.attr.map Test.pv), .list 6 .sh (d.value.map Test.pv), pB d.acc, .list 7 .sh (d.conds.map Cond.pv)]] (c = d) := by
  obtain ⟨_, l1, l2, l3, l4, l5⟩ := (lightC_eq c).1 hl
  refine PureK.of (G_ponderkeep_Cond.c ?_)
  refine CIf.mk (fun h1 => CIf.mk (fun h2 => CIf.mk (fun h3 => CIf.mk (fun h4 => ?_) (fun h => Asks.no fun e => ?_)) (fun h => Asks.no fun e => ?_)) (fun h => Asks.no fun e => ?_)) (fun h => Asks.no fun e => ?_)
  · refine (qTests _ _ c.attr d.attr (by omega) (fun t ht => by have := lightTs l3 t ht; omega)).call (fun e1 => ⟨_, rfl, CIf.t rfl ?_⟩) (fun hne => ⟨_, rfl, CIf.f rfl (Asks.no fun e => hne (by rw [e]))⟩)
    refine (qTests _ _ c.value d.value (by omega) (fun t ht => by have := lightTs l4 t ht; omega)).call (fun e2 => ⟨_, rfl, CIf.t rfl ?_⟩) (fun hne => ⟨_, rfl, CIf.f rfl (Asks.no fun e => hne (by rw [e]))⟩)
    refine (ih .sh .sh c.conds d.conds hs h6 l5).call (fun e3 => ⟨_, rfl, Asks.yes (condExt (by simpa using h1) (by simpa using h2) (strEq_iff.1 h3) e1 e2 (by simpa using h4) e3)⟩) (fun hne => ⟨_, rfl, Asks.no fun e => hne (by rw [e])⟩)
  · subst e; simp at h
  · subst e; rw [strEq_self] at h; cases h
  · subst e; simp at h
  · subst e; simp at h

theorem qConds : ∀ (n : Nat) (f g : Fl) (l m : List Cond), sizeL l ≤ n → sizeL l ≤ 1000000 → lightL l → Asks 35 [.list 7 f (l.map Cond.pv), .list 7 g (m.map Cond.pv)] (l = m) := by
  intro n
  induction n with
  | zero =>
    intro f g l m h _ _
    have : l = [] := by
      cases l with
      | nil => rfl
      | cons c l => simp [sizeL, sizeC_eq] at h
    subst this
    refine PureK.of (G_ponderkeep_Conds.c (CIf.mk (fun h => Asks.no (neLen h)) (fun h => ?_)))
    refine eqLoop (l := []) (m := m) (n := 0) rfl (eqLen h) (by omega) (fun k hk => by simp at hk) (fun u next e => CIf.f (by simp) (Asks.yes e))
  | succ n ih =>
    intro f g l m h h6 hl
    have hll := sizeL_len l
    refine PureK.of (G_ponderkeep_Conds.c (CIf.mk (fun h => Asks.no (neLen h)) (fun h => ?_)))
    refine eqLoop (l := l) (m := m) (n := l.length) rfl (eqLen h) (by omega) (fun k hk hk' u next hy hno => ?_) (fun u next e => CIf.f (by simp) (Asks.yes e))
    have hm := sizeL_mem (List.getElem_mem hk)
    refine CIf.t (by simpa using hk) ⟨by omega, _, atRow hk, _, _, _, _, _, _, _, _, _, _, condRow _, by omega, _, atRow hk', _, _, _, _, _, _, _, _, _, _, condRow _, ?_⟩
    refine (qCond' n ih l[k] m[k] (by omega) (by omega) (lightL_iff.1 hl _ (List.getElem_mem hk))).call (fun e => ⟨_, rfl, CIf.f rfl (hy e _)⟩) (fun hne => ⟨_, rfl, CIf.t rfl (Asks.no (hno hne))⟩)

theorem qCond (c d : Cond) (h6 : sizeL c.conds ≤ 1000000) (hl : lightC c) : Asks 13 [.agg [pI c.kind, pB c.goal, pS c.id, .list 6 .sh (c.attr.map Test.pv), .list 6 .sh (c.value.map Test.pv), pB c.acc, .list 7 .sh (c.conds.map Cond.pv)], .agg [pI d.kind, pB d.goal, pS d.id, .list 6 .sh (d.attr.map Test.pv), .list 6 .sh (d.value.map Test.pv), pB d.acc, .list 7 .sh (d.conds.map Cond.pv)]] (c = d) := qCond' _ (qConds _) c d (Nat.le_refl _) h6 hl
theorem elemExt {a b : Elem} : ((a.id.k == b.id.k) && (strEq a.id.t b.id.t && ((a.id.n == b.id.n) && ((a.attr.k == b.attr.k) && (strEq a.attr.t b.attr.t && ((a.attr.n == b.attr.n) && ((a.value.k == b.value.k) && (strEq a.value.t b.value.t && ((a.value.n == b.value.n) && ((a.acc == b.acc) && ((a.goal == b.goal) && ((a.tag == b.tag) && true)))))))))))) = true ↔ a = b := by
  obtain ⟨⟨a1, a2, a3⟩, ⟨a4, a5, a6⟩, ⟨a7, a8, a9⟩, x, y, t⟩ := a
  obtain ⟨⟨b1, b2, b3⟩, ⟨b4, b5, b6⟩, ⟨b7, b8, b9⟩, x', y', t'⟩ := b
  simp [strEq_iff, and_assoc]
theorem qElems (f g : Fl) (l m : List Elem) (hl : l.length ≤ 1000000000) : Asks 23 [.list 12 f (l.map Elem.pv), .list 12 g (m.map Elem.pv)] (l = m) := by
  refine PureK.of (G_ponderkeep_Elems.c (CIf.mk (fun h => Asks.no (neLen h)) (fun h => ?_)))
  refine eqLoop (l := l) (m := m) (n := l.length) rfl (eqLen h) (by omega) (fun k hk hk' u next hy hno => ?_) (fun u next e => CIf.f (by simp) (Asks.yes e))
  refine CIf.t (by simpa using hk) ⟨by omega, _, atRow hk, _, _, _, _, _, _, _, _, _, _, _, _, rfl, by omega, _, atRow hk', _, _, _, _, _, _, _, _, _, _, _, _, rfl, CIf.mk (fun h => Asks.no (hno fun e => ?_)) (fun h => hy (elemExt.1 (nt h)) _)⟩
  have := nb h
  rw [elemExt.2 e] at this; cases this
theorem cLight (f : Fl) (l : List Elem) (n : Nat) (hn6 : n ≤ 1000000) : PureK Try.prog 48 [.list 12 f (l.map Elem.pv), pI (n : Nat)] fun p => ∃ q : Bool, p = pB q ∧ (q = true → l.length ≤ n) := by
  refine PureK.of (G_ponderlaw10_light.c (CIf.mk (fun h => ⟨false, rfl, fun h => by cases h⟩) (fun h => ?_)))
  have hn : l.length ≤ n := by simpa using h
  refine LoopI.each (n := l.length) (by omega) (fun _ _ => True) trivial (fun k u next hk _ hnext => ?_) (fun u next _ => CIf.f (by simp) ⟨true, rfl, fun _ => hn⟩)
  refine CIf.t (by simpa using hk) ⟨by omega, _, atRow hk, _, rfl, CIf.mk (fun _ => ⟨false, rfl, fun h => by cases h⟩) (fun _ => ⟨by omega, _, atRow hk, _, rfl, CIf.mk (fun _ => ⟨false, rfl, fun h => by cases h⟩) (fun _ => ⟨by omega, _, atRow hk, _, rfl, CIf.mk (fun _ => ⟨false, rfl, fun h => by cases h⟩) (fun _ => hnext _ trivial)⟩)⟩)⟩
theorem cLightT (f : Fl) (l : List Elem) (n : Nat) (hn6 : n ≤ 1000000) : PureK Try.prog 21 [.list 12 f (l.map Elem.pv), pI (n : Nat)] fun p => ∃ q : Bool, p = pB q ∧ (q = true → l.length ≤ n) := by
  refine PureK.of (G_ponderlaw10_Light.c ?_)
  exact (cLight f l n hn6).call fun p ⟨q, e, h⟩ => ⟨q, e, q, rfl, h⟩

end Go.Proofs.Ytdiimonfmdbclaa

/-
  Tests, as the document has them: plain definitions.
-/
namespace Go.Eng
open Go.RowKit

/-- How two symbols stand to each other. -/
def holds (rel : Int) (a b : Sym) : Bool :=
  bif rel == 1 then symEq a b else bif rel == 2 then !symEq a b else
  bif rel == 3 then (a.k == 2 && b.k == 2) && decide (a.n < b.n) else bif rel == 4 then (a.k == 2 && b.k == 2) && decide (a.n ≤ b.n) else
  bif rel == 5 then (a.k == 2 && b.k == 2) && decide (a.n > b.n) else bif rel == 6 then (a.k == 2 && b.k == 2) && decide (a.n ≥ b.n) else
  bif rel == 7 then a.k == b.k else false

/-- What a variable is. -/
def getB : List Bind → ByteArray → Option Sym
  | [], _ => none
  | b :: l, v => if strEq b.v v = true then some b.s else getB l v

theorem getB_append (l r : List Bind) (v : ByteArray) : getB (l ++ r) v = (getB l v).or (getB r v) := by
  induction l with
  | nil => simp [getB]
  | cons b l ih => simp only [List.cons_append, getB]; split <;> simp [ih]

theorem getB_take {l : List Bind} {v : ByteArray} {k : Nat} (hk : k < l.length) (h : getB (l.take k) v = none) : getB (l.take (k + 1)) v = if strEq l[k].v v = true then some l[k].s else none := by
  rw [List.take_add_one, getB_append, h, Option.none_or, List.getElem?_eq_getElem hk]
  simp [getB]

theorem getB_hit {l : List Bind} {v : ByteArray} {k : Nat} (hk : k < l.length) (h : getB (l.take k) v = none) (he : strEq l[k].v v = true) : getB l v = some l[k].s := by
  have h1 := getB_take hk h
  rw [if_pos he] at h1
  have h2 := getB_append (l.take (k + 1)) (l.drop (k + 1)) v
  rw [List.take_append_drop, h1] at h2
  exact h2

/-- Does a symbol meet a test? -/
def met (t : Test) (s : Sym) (l : List Bind) : Option (List Bind) :=
  if t.rel = 8 then (if t.list.any (fun x => symEq x s) = true then some l else none)
  else if t.rel < 1 ∨ t.rel > 7 then none
  else if t.var = ⟨#[]⟩ then (if holds t.rel s t.sym = true then some l else none)
  else match getB l t.var with
    | some x => if holds t.rel s x = true then some l else none
    | none => if t.rel = 1 then some (l ++ [⟨t.var, s⟩]) else none

theorem met_len {t : Test} {s : Sym} {l l' : List Bind} (h : met t s l = some l') : l'.length ≤ l.length + 1 := by
  unfold met at h
  (repeat' split at h) <;> cases h <;> simp

/-- One test behind the other. -/
def allT : List Test → Sym → List Bind → Option (List Bind)
  | [], _, l => some l
  | t :: ts, s, l => (met t s l).bind (allT ts s)

theorem allT_append (a b : List Test) (s : Sym) (l : List Bind) : allT (a ++ b) s l = (allT a s l).bind (allT b s) := by
  induction a generalizing l with
  | nil => rfl
  | cons t a ih =>
    simp only [List.cons_append, allT]
    cases met t s l with
    | none => rfl
    | some l' => exact ih l'

theorem allT_take {ts : List Test} {s : Sym} {l lk : List Bind} {k : Nat} (hk : k < ts.length) (h : allT (ts.take k) s l = some lk) : allT (ts.take (k + 1)) s l = met ts[k] s lk := by
  rw [List.take_add_one, allT_append, h, List.getElem?_eq_getElem hk]
  simp only [Option.toList_some, Option.bind_some, allT]
  cases met ts[k] s lk <;> rfl

theorem allT_fail {ts : List Test} {s : Sym} {l : List Bind} (k : Nat) (h : allT (ts.take k) s l = none) : allT ts s l = none := by
  have h2 := allT_append (ts.take k) (ts.drop k) s l
  rw [List.take_append_drop, h] at h2
  exact h2

theorem allT_len {ts : List Test} {s : Sym} {l l' : List Bind} (h : allT ts s l = some l') : l'.length ≤ l.length + ts.length := by
  induction ts generalizing l with
  | nil => simp only [allT, Option.some.injEq] at h; subst h; simp
  | cons t ts ih =>
    simp only [allT, Option.bind_eq_some_iff] at h
    obtain ⟨l1, h1, h2⟩ := h
    have := met_len h1; have := ih h2; simp only [List.length_cons]; omega

@[reducible] def idTest (v : ByteArray) : Test := ⟨1, v, ⟨0, ⟨#[]⟩, 0⟩, []⟩

/-- Does an element alone meet a condition? -/
def condS (c : Cond) (e : Elem) (l : List Bind) : Option (List Bind) :=
  if (c.kind = 1 ∨ c.kind = 2) ∧ (c.goal = true → e.goal = true) ∧ c.acc = e.acc then
    (met (idTest c.id) e.id l).bind fun l1 => (allT c.attr e.attr l1).bind fun l2 => allT c.value e.value l2
  else none

theorem condS_len {c : Cond} {e : Elem} {l l' : List Bind} (h : condS c e l = some l') : l'.length ≤ l.length + 1 + c.attr.length + c.value.length := by
  unfold condS at h
  split at h
  · simp only [Option.bind_eq_some_iff] at h
    obtain ⟨l1, h1, l2, h2, h3⟩ := h
    have := met_len h1; have := allT_len h2; have := allT_len h3; omega
  · cases h

/-- Those that meet a condition, with their bindings. -/
def someL (c : Cond) (l : List Bind) (es : List Elem) : List (Elem × List Bind) := es.filterMap fun e => (condS c e l).map fun r => (e, r)

theorem someL_take {c : Cond} {l : List Bind} {es : List Elem} {k : Nat} (hk : k < es.length) :
    someL c l (es.take (k + 1)) = someL c l (es.take k) ++ ((condS c es[k] l).map fun r => (es[k], r)).toList := by
  unfold someL
  rw [List.take_add_one, List.getElem?_eq_getElem hk, List.filterMap_append]
  congr 1

theorem someL_split {c : Cond} {l : List Bind} {es : List Elem} (k : Nat) : someL c l es = someL c l (es.take k) ++ someL c l (es.drop k) := by
  unfold someL
  rw [← List.filterMap_append, List.take_append_drop]

theorem someL_at {c : Cond} {l : List Bind} {es : List Elem} {k : Nat} (hk : k < es.length) {r : List Bind} (h : condS c es[k] l = some r) :
    ∃ hj : (someL c l (es.take k)).length < (someL c l es).length, (someL c l es)[(someL c l (es.take k)).length]'hj = (es[k], r) := by
  have e := someL_split (c := c) (l := l) (es := es) (k + 1)
  rw [someL_take hk, h] at e
  simp only [Option.map_some, Option.toList_some, List.append_assoc, List.cons_append, List.nil_append] at e
  have hlen : (someL c l (es.take k)).length < (someL c l es).length := by rw [e]; simp
  refine ⟨hlen, ?_⟩
  have : (someL c l es)[(someL c l (es.take k)).length]? = some (es[k], r) := by
    rw [e, List.getElem?_append_right (Nat.le_refl _)]; simp
  rw [List.getElem?_eq_getElem hlen] at this
  exact Option.some.inj this

theorem someL_len {c : Cond} {l : List Bind} {es : List Elem} : (someL c l es).length ≤ es.length := List.length_filterMap_le _ _

end Go.Eng

/-
  Tests: contracts of package test.
-/
namespace Go.Proofs.Ytdiimonfmdbclaa
open Go.Eng Go.RowKit
set_option linter.unusedVariables false
set_option linter.unusedSimpArgs false
set_option linter.unnecessarySimpa false

theorem cHolds (rel : Int) (a b : Sym) : Pure Try.prog 88 [pI rel, .agg a.pv, .agg b.pv] (pB (holds rel a b)) := by
  refine PureK.of (G_test_Holds.c ?_)
  refine ⟨fun s u => s = (a.k == 2 && b.k == 2), ?_, ?_⟩
  · exact CIf.mk (fun h => by simp [h]) (fun h => by simp [h])
  · rintro s u rfl
    repeat' (refine CIf.mk (fun h => ?_) (fun h => ?_))
    all_goals simp_all [holds, symEq, wk, wk1]

/-- What Get answers. -/
@[reducible] def getP : Option Sym → PV
  | some s => .tup [.agg s.pv, pB true]
  | none => .tup [.agg [pI 0, pS ⟨#[]⟩, pI 0], pB false]

theorem cGet (fl : Fl) (l : List Eng.Bind) (hn : l.length ≤ 1000000) (v : ByteArray) : Pure Try.prog 89 [.list 4 fl (l.map Bind.pv), pS v] (getP (getB l v)) := by
  refine PureK.of (G_test_Get.c ?_)
  refine LoopI.each (n := l.length) (by omega) (fun k u => getB (l.take k) v = none) (by simp [getB]) ?_ ?_
  · intro k u next hk hg hnext
    refine CIf.t (by simpa using hk) ⟨by omega, _, atRow hk, _, _, _, _, rfl, CIf.mk (fun he => ?_) (fun he => ?_)⟩
    · rw [getB_hit hk hg he]; rfl
    · exact hnext _ (by rw [getB_take hk hg, he]; rfl)
  · intro u next hg
    refine CIf.f (by simp) ?_
    rw [List.take_length] at hg
    rw [hg]; rfl

/-- Bindings, if there are any. -/
@[reducible] def ansP : Option (List Eng.Bind) → PV
  | some l => .tup [.list 4 .sh (l.map Bind.pv), pB true]
  | none => .tup [.list 4 .sh [], pB false]

/-- The same; where there are none, any list. -/
def AnsQ (o : Option (List Eng.Bind)) (p : PV) : Prop := ∃ l : List Eng.Bind, p = .tup [.list 4 .sh (l.map Bind.pv), pB o.isSome] ∧ ∀ l', o = some l' → l = l'

theorem cMet (fl : Fl) (t : Test) (s : Sym) (l : List Eng.Bind) (hn : l.length ≤ 1000000) (ht : t.list.length ≤ 1000000) : PureK Try.prog 83 [.agg t.pv, .agg s.pv, .list 4 fl (l.map Bind.pv)] (AnsQ (met t s l)) := by
  refine PureK.of (G_test_met.c ?_)
  have no : met t s l = none → AnsQ (met t s l) (wk (.tup [.list 4 .nil [], pB false])) := fun h => ⟨[], by rw [h]; rfl, fun l' e => by rw [h] at e; cases e⟩
  have yes : ∀ {q : Bool}, met t s l = (if q = true then some l else none) → AnsQ (met t s l) (wk (.tup [.list 4 fl (l.map Bind.pv), pB q])) := fun {q} h => by
    rw [h]
    cases q
    · exact ⟨l, rfl, fun l' e => by cases e⟩
    · exact ⟨l, rfl, fun l' e => by cases e; rfl⟩
  refine CIf.mk (fun h8 => ?_) (fun h8 => ?_)
  · have h8 : t.rel = 8 := by simpa using h8
    have hm : met t s l = if t.list.any (fun x => symEq x s) = true then some l else none := by rw [met, if_pos h8]
    refine LoopI.each (n := t.list.length) (by omega) (fun k u => (t.list.take k).any (fun x => symEq x s) = false) (by simp) ?_ ?_
    · intro k u next hk hg hnext
      refine CIf.t (by simpa using hk) ⟨by omega, _, atRow hk, _, _, _, rfl, CIf.mk (fun he => ?_) (fun he => ?_)⟩
      · exact yes (q := true) (by rw [hm, anyHit (p := fun x => symEq x s) hk he])
      · exact hnext _ (by rw [any_take hk hg]; exact he)
    · intro u next hg
      refine CIf.f (by simp) (no ?_)
      rw [List.take_length] at hg
      rw [hm, hg]; rfl
  · have h8 : ¬ t.rel = 8 := by simpa using h8
    refine CIf.mk (fun h1 => no ?_) (fun h1 => ?_)
    · rw [met, if_neg h8, if_pos (.inl (by simpa using h1))]
    · refine CIf.mk (fun h7 => no ?_) (fun h7 => ?_)
      · rw [met, if_neg h8, if_pos (.inr (by simpa using h7))]
      · have hr : ¬ (t.rel < 1 ∨ t.rel > 7) := by simp at h1 h7; omega
        refine CIf.mk (fun hv => ?_) (fun hv => ?_)
        · refine (cHolds t.rel s t.sym).call ⟨_, rfl, yes ?_⟩
          rw [met, if_neg h8, if_neg hr, if_pos (strEq_iff.1 hv)]
        · have hv : ¬ t.var = ⟨#[]⟩ := strEq_false.1 hv
          refine (cGet fl l hn t.var).call ?_
          cases hg : getB l t.var with
          | some x =>
            refine ⟨_, _, _, _, rfl, CIf.t rfl ((cHolds t.rel s x).call ⟨_, rfl, yes ?_⟩)⟩
            rw [met, if_neg h8, if_neg hr, if_neg hv, hg]
          | none =>
            refine ⟨_, _, _, _, rfl, CIf.f rfl (CIf.mk (fun h1 => no ?_) (fun h1 => ?_))⟩
            · have h1 : ¬ t.rel = 1 := by simpa using h1
              rw [met, if_neg h8, if_neg hr, if_neg hv, hg]; simp [h1]
            · have h1 : t.rel = 1 := by simpa using h1
              refine ⟨by omega, by omega, by omega, rfl, ?_⟩
              simp only [Int.toNat_zero, Int.toNat_natCast, List.take_length, List.drop_zero]
              refine appL.go1 (by trivial) (by simp; omega) (by simp; omega) fun fl' μ' _ => ⟨l ++ [⟨t.var, s⟩], ?_, fun l' e => ?_⟩
              · rw [met, if_neg h8, if_neg hr, if_neg hv, hg]; simp [h1, wk, wk1, wk2]
              · rw [met, if_neg h8, if_neg hr, if_neg hv, hg] at e; simp [h1] at e; exact e

theorem cAll (fl fl' : Fl) (ts : List Test) (s : Sym) (l : List Eng.Bind) (hn : l.length + ts.length ≤ 1000000) (ht : ∀ t ∈ ts, t.list.length ≤ 1000000) : PureK Try.prog 84 [.list 6 fl (ts.map Test.pv), .agg s.pv, .list 4 fl' (l.map Bind.pv)] (AnsQ (allT ts s l)) := by
  refine PureK.of (G_test_all.c ?_)
  refine LoopI.each2 (n := ts.length) (by omega) (fun k x u => ∃ lk, allT (ts.take k) s l = some lk ∧ x.2 = lk.map Bind.pv) ⟨l, rfl, rfl⟩ ?_ ?_
  · rintro k ⟨xf, xr⟩ u next hk ⟨lk, hlk, rfl⟩ hnext
    have hkb := allT_len hlk
    rw [List.length_take] at hkb
    refine CIf.t (by simpa using hk) ⟨by omega, _, atRow hk, _, _, _, _, _, _, _, rfl, ?_⟩
    refine (cMet xf ts[k] s lk (by omega) (ht _ (List.getElem_mem hk))).call ?_
    rintro _ ⟨l', rfl, hl'⟩
    refine ⟨_, _, _, rfl, ?_⟩
    cases hm : met ts[k] s lk with
    | none =>
      refine CIf.t rfl ⟨[], ?_, fun l2 e => ?_⟩
      · rw [allT_fail (k + 1) (by rw [allT_take hk hlk, hm])]; rfl
      · rw [allT_fail (k + 1) (by rw [allT_take hk hlk, hm])] at e; cases e
    | some l2 =>
      have := hl' l2 hm
      subst this
      exact CIf.f rfl (hnext (_, _) _ ⟨l', by rw [allT_take hk hlk, hm], rfl⟩)
  · rintro ⟨xf, xr⟩ u next ⟨lk, hlk, rfl⟩
    rw [List.take_length] at hlk
    exact CIf.f (by simp) ⟨lk, by rw [hlk]; rfl, fun l2 e => by rw [hlk] at e; cases e; rfl⟩

theorem cOwn (fl : Fl) (l : List Eng.Bind) (hn : l.length ≤ 2000000) : Pure Try.prog 85 [.list 4 fl (l.map Bind.pv)] (.list 4 .sh (l.map Bind.pv)) := by
  refine PureK.of (G_test_own.c ?_)
  exact appL.go1 (by trivial) (by simp; omega) (by simp; omega) fun fl' μ' _ => rfl

theorem cCond' (fa fv fc fl : Fl) (c : Cond) (e : Elem) (l : List Eng.Bind) (hn : l.length + 1 + c.attr.length + c.value.length ≤ 1000000) (ha : ∀ t ∈ c.attr, t.list.length ≤ 1000000) (hv : ∀ t ∈ c.value, t.list.length ≤ 1000000) :
    Pure Try.prog 67 [.agg [pI c.kind, pB c.goal, pS c.id, .list 6 fa (c.attr.map Test.pv), .list 6 fv (c.value.map Test.pv), pB c.acc, .list 7 fc (c.conds.map Cond.pv)], .agg e.pv, .list 4 fl (l.map Bind.pv)] (ansP (condS c e l)) := by
  refine PureK.of (G_test_Cond.c ?_)
  refine ⟨fun _ u => ((c.kind = 1 ∨ c.kind = 2) ∧ (c.goal = true → e.goal = true) ∧ c.acc = e.acc), ?_, ?_⟩
  · repeat' (refine CIf.mk (fun h => ?_) (fun h => ?_))
    all_goals first
      | (simp_all; done)
      | (rw [condS, if_neg (by simp_all)]; rfl)
  · rintro _ u hc
    rw [condS, if_pos hc]
    refine (cMet fl (idTest c.id) e.id l (by omega) (by simp)).call ?_
    rintro _ ⟨l1, rfl, h1⟩
    refine ⟨_, _, _, rfl, ?_⟩
    cases hm : met (idTest c.id) e.id l with
    | none => exact CIf.t rfl rfl
    | some l1' =>
      obtain rfl := h1 l1' hm
      have g1 := met_len hm
      refine CIf.f rfl ((cAll fa _ c.attr e.attr l1 (by omega) ha).call ?_)
      rintro _ ⟨l2, rfl, h2⟩
      refine ⟨_, _, _, rfl, ?_⟩
      simp only [Option.bind_some]
      cases hm2 : allT c.attr e.attr l1 with
      | none => exact CIf.t rfl rfl
      | some l2' =>
        obtain rfl := h2 l2' hm2
        have g2 := allT_len hm2
        refine CIf.f rfl ((cAll fv _ c.value e.value l2 (by omega) hv).call ?_)
        rintro _ ⟨l3, rfl, h3⟩
        refine ⟨_, _, _, rfl, ?_⟩
        simp only [Option.bind_some]
        cases hm3 : allT c.value e.value l2 with
        | none => exact CIf.t rfl rfl
        | some l3' =>
          obtain rfl := h3 l3' hm3
          have g3 := allT_len hm3
          exact CIf.f rfl ((cOwn _ l3 (by omega)).call ⟨_, _, rfl, rfl⟩)

theorem cCond (fl : Fl) (c : Cond) (e : Elem) (l : List Eng.Bind) (hn : l.length + 1 + c.attr.length + c.value.length ≤ 1000000) (ha : ∀ t ∈ c.attr, t.list.length ≤ 1000000) (hv : ∀ t ∈ c.value, t.list.length ≤ 1000000) :
    Pure Try.prog 67 [.agg c.pv, .agg e.pv, .list 4 fl (l.map Bind.pv)] (ansP (condS c e l)) := by
  rw [Cond.pv_eq]
  exact cCond' .sh .sh .sh fl c e l hn ha hv

end Go.Proofs.Ytdiimonfmdbclaa

/-
  Elements by themselves: plain; and how a net lies in memory.
-/
namespace Go.Proofs.Ytdiimonfmdbclaa
open Go.Eng Go.RowKit
set_option linter.unusedVariables false
set_option linter.unusedSimpArgs false
set_option linter.unnecessarySimpa false

def stillL (l : List Test) : List Test := l.filter fun t => strEq t.var ⟨#[]⟩
def bareC (c : Cond) : Cond := .mk 1 c.goal ⟨#[]⟩ (stillL c.attr) (stillL c.value) c.acc []
def idX (c : Cond) : Cond := .mk c.kind c.goal ⟨#[120]⟩ c.attr c.value c.acc c.conds
def meetsC (c : Cond) (e : Elem) : Bool := (condS (idX c) e []).isSome

theorem stillL_len (l : List Test) : (stillL l).length ≤ l.length := List.length_filter_le _ _
theorem bare_light {c : Cond} (h : lightC c) : lightC (bareC c) := by
  obtain ⟨_, h1, h2, h3, h4, _⟩ := (lightC_eq c).1 h
  have a := stillL_len c.attr
  have b := stillL_len c.value
  refine (lightC_eq _).2 ⟨by show (⟨#[]⟩ : ByteArray).size ≤ 100; decide, Nat.le_trans a h1, Nat.le_trans b h2, fun t ht => h3 t (List.mem_filter.1 ht).1, fun t ht => h4 t (List.mem_filter.1 ht).1, trivial⟩
/-- Bare conditions, and few tests. -/
structure BareC (c : Cond) : Prop where
  kind : c.kind = 1
  id : c.id = ⟨#[]⟩
  conds : c.conds = []
  light : lightC c
theorem bare_bare {c : Cond} (h : lightC c) : BareC (bareC c) := ⟨rfl, rfl, rfl, bare_light h⟩
theorem BareC.eq {c d : Cond} (hc : BareC c) (hd : BareC d) (h1 : c.goal = d.goal) (h2 : c.acc = d.acc) (h3 : c.attr = d.attr) (h4 : c.value = d.value) : c = d :=
  condExt (hc.kind.trans hd.kind.symm) h1 (hc.id.trans hd.id.symm) h3 h4 h2 (hc.conds.trans hd.conds.symm)

/-- A memory: what it asks, who uses it, where what it has lies, what it has. -/
structure AMemo where
  c : Cond
  users : Int
  b : Nat
  l : List Elem

def AMemo.memo (m : AMemo) : Memo := ⟨m.c, m.users, some ⟨m.b, 0, none⟩⟩
abbrev AMs := List (Int × AMemo)
def pgE (e : Elem) : AE.El := (e.tag, e)
def pgM (x : Int × AMemo) : AM.El := (x.1, x.2.memo)
def setM (x : Int × AMemo) : Asn := AT.At x.2.b x.2.l
def tagE (e : Elem) : Int := e.tag
def numM (x : Int × AMemo) : Int := x.1

def NetAt (n : Nat) (es : List Elem) (ms : AMs) : Asn := fun μ => ∃ me mm, Ow (Pt n 79 [pP me 0, pP mm 0] :: AE.MAt me (es.map pgE) :: AM.MAt mm (ms.map pgM) :: ms.map setM) μ
theorem NetAt.open_ {n : Nat} {es : List Elem} {ms : AMs} {L : List Asn} {μ : Mem} (h : Ow (NetAt n es ms :: L) μ) : ∃ me mm, Ow (Pt n 79 [pP me 0, pP mm 0] :: AE.MAt me (es.map pgE) :: AM.MAt mm (ms.map pgM) :: (ms.map setM ++ L)) μ := by
  obtain ⟨me, h⟩ := Ow.ex h
  obtain ⟨mm, h⟩ := Ow.ex h
  exact ⟨me, mm, h.nest⟩
theorem NetAt.shut {n me mm : Nat} {es : List Elem} {ms : AMs} {L : List Asn} {μ : Mem} (h : Ow (Pt n 79 [pP me 0, pP mm 0] :: AE.MAt me (es.map pgE) :: AM.MAt mm (ms.map pgM) :: (ms.map setM ++ L)) μ) : Ow (NetAt n es ms :: L) μ :=
  (Ow.pack (L1 := Pt n 79 [pP me 0, pP mm 0] :: AE.MAt me (es.map pgE) :: AM.MAt mm (ms.map pgM) :: ms.map setM) h).imp fun _ hν => ⟨me, mm, hν⟩

/-- What holds of a net's elements and memories. -/
structure AInv (es : List Elem) (ms : AMs) : Prop where
  ues : UpK cmpI tagE es
  ums : UpK cmpI numM ms
  has : ∀ x ∈ ms, x.2.l = es.filter (meetsC x.2.c)
  bare : ∀ x ∈ ms, BareC x.2.c
  num : ∀ x ∈ ms, 0 ≤ x.1 ∧ x.1 < 1000000
  users : ∀ x ∈ ms, 1 ≤ x.2.users ∧ x.2.users < 1000000
  inj : ∀ x ∈ ms, ∀ y ∈ ms, x.2.c = y.2.c → x = y
  le : es.length < 1000000
  lm : ms.length < 1000000

theorem AInv.ue {es : List Elem} {ms : AMs} (h : AInv es ms) : UpK AE.ck AE.key (es.map pgE) := UpK.map h.ues
theorem AInv.um {es : List Elem} {ms : AMs} (h : AInv es ms) : UpK AM.ck AM.key (ms.map pgM) := UpK.map h.ums
theorem AInv.ul {es : List Elem} {ms : AMs} (h : AInv es ms) {x : Int × AMemo} (hx : x ∈ ms) : UpK AT.ck AT.key x.2.l ∧ x.2.l.length < 1000000 := by
  rw [h.has x hx]
  exact ⟨UpK.filter h.ues _, Nat.lt_of_le_of_lt (List.length_filter_le _ _) h.le⟩

theorem AInv.nil : AInv [] [] := ⟨List.Pairwise.nil, List.Pairwise.nil, by simp, by simp, by simp, by simp, by simp, by simp, by simp⟩

/-- The least number that is not there. -/
def least (ms : AMs) : Int := ms.foldl (fun a x => if x.1 = a then a + 1 else a) 0

theorem least_take {ms : AMs} {k : Nat} (hk : k < ms.length) : least (ms.take (k + 1)) = if ms[k].1 = least (ms.take k) then least (ms.take k) + 1 else least (ms.take k) := by
  unfold least
  rw [List.take_add_one, List.getElem?_eq_getElem hk, List.foldl_append]; rfl

theorem least_spec : ∀ (ms : AMs), UpK cmpI numM ms → (∀ x ∈ ms, 0 ≤ x.1) → 0 ≤ least ms ∧ least ms ≤ ms.length ∧ (∀ j : Int, 0 ≤ j → j < least ms → ∃ x ∈ ms, x.1 = j) ∧ ∀ x ∈ ms, x.1 ≠ least ms := by
  intro ms hu h0
  have key : ∀ k, k ≤ ms.length → 0 ≤ least (ms.take k) ∧ least (ms.take k) ≤ k ∧ (∀ j : Int, 0 ≤ j → j < least (ms.take k) → ∃ x ∈ ms.take k, x.1 = j) ∧ (∀ x ∈ ms.take k, x.1 ≠ least (ms.take k)) := by
    intro k
    induction k with
    | zero =>
      intro _
      refine ⟨by simp [least], by simp [least], fun j h1 h2 => ?_, by simp⟩
      have : least (ms.take 0) = 0 := rfl
      omega
    | succ k ih =>
      intro hk
      obtain ⟨i1, i2, i3, i4⟩ := ih (by omega)
      have hk' : k < ms.length := by omega
      have hmem : ∀ x, x ∈ ms.take (k + 1) ↔ x ∈ ms.take k ∨ x = ms[k] := fun x => by
        rw [List.take_add_one, List.getElem?_eq_getElem hk', List.mem_append]; simp
      have hlt : ∀ x ∈ ms.take k, x.1 < ms[k].1 := fun x hx => by
        obtain ⟨i, hi, rfl⟩ := List.mem_iff_getElem.1 hx
        rw [List.getElem_take]
        simp only [List.length_take] at hi
        have := List.pairwise_iff_getElem.1 hu i k (by omega) hk' (by omega)
        exact cmpI_lt.1 this
      rw [least_take hk']
      split
      · rename_i e
        refine ⟨by omega, by omega, fun j h1 h2 => ?_, fun x hx => ?_⟩
        · by_cases hj : j < least (ms.take k)
          · obtain ⟨x, hx, ex⟩ := i3 j h1 hj
            exact ⟨x, (hmem x).2 (.inl hx), ex⟩
          · exact ⟨ms[k], (hmem _).2 (.inr rfl), by omega⟩
        · rcases (hmem x).1 hx with h | rfl
          · have := hlt x h; omega
          · omega
      · rename_i e
        refine ⟨i1, by omega, fun j h1 h2 => ?_, fun x hx => ?_⟩
        · obtain ⟨x, hx, ex⟩ := i3 j h1 h2
          exact ⟨x, (hmem x).2 (.inl hx), ex⟩
        · rcases (hmem x).1 hx with h | rfl
          · exact i4 x h
          · exact e
  have := key ms.length (Nat.le_refl _)
  rw [List.take_length] at this
  exact this

theorem sets_upd {es : List Elem} {ms : AMs} (hI : AInv es ms) {x x' : Int × AMemo} (hx : x ∈ ms) (hk : x'.1 = x.1) (hs : setM x' = setM x) : (insK cmpI numM x' ms).map setM = ms.map setM := by
  obtain ⟨A, B, e, _, h⟩ := hI.ums.at_ cmpI_ok hx
  have h2 := h x' hk
  rw [h2]
  conv => rhs; rw [e]
  simp [hs]

theorem AInv.del {es : List Elem} {ms : AMs} (h : AInv es ms) (k : Int) : AInv es (delK cmpI numM k ms) := by
  have hm : ∀ x, x ∈ delK cmpI numM k ms → x ∈ ms := fun x hx => (List.mem_filter.1 hx).1
  exact ⟨h.ues, h.ums.del k, fun x hx => h.has x (hm x hx), fun x hx => h.bare x (hm x hx), fun x hx => h.num x (hm x hx), fun x hx => h.users x (hm x hx), fun x hx y hy => h.inj x (hm x hx) y (hm y hy), h.le, Nat.lt_of_le_of_lt delK_len h.lm⟩

theorem AInv.upd {es : List Elem} {ms : AMs} (h : AInv es ms) {x x' : Int × AMemo} (hx : x ∈ ms) (hk : x'.1 = x.1) (hc : x'.2.c = x.2.c) (hl : x'.2.l = x.2.l) (hu : 1 ≤ x'.2.users ∧ x'.2.users < 1000000) : AInv es (insK cmpI numM x' ms) := by
  obtain ⟨A, B, e, _, h2⟩ := h.ums.at_ cmpI_ok hx
  have hi := h2 x' hk
  have hm : ∀ y, y ∈ insK cmpI numM x' ms → y = x' ∨ y ∈ ms := fun y hy => ((mem_insK cmpI_ok).1 hy).imp id fun h => h.1
  have hlen : (insK cmpI numM x' ms).length = ms.length := by rw [hi]; conv => rhs; rw [e]
                                                              simp
  refine ⟨h.ues, h.ums.ins cmpI_ok x', fun y hy => ?_, fun y hy => ?_, fun y hy => ?_, fun y hy => ?_, fun y hy z hz e' => ?_, h.le, by rw [hlen]; exact h.lm⟩
  · rcases hm y hy with rfl | hy
    · rw [hl, hc]; exact h.has x hx
    · exact h.has y hy
  · rcases hm y hy with rfl | hy
    · rw [hc]; exact h.bare x hx
    · exact h.bare y hy
  · rcases hm y hy with rfl | hy
    · rw [hk]; exact h.num x hx
    · exact h.num y hy
  · rcases hm y hy with rfl | hy
    · exact hu
    · exact h.users y hy
  · rcases (mem_insK cmpI_ok).1 hy with ey | ⟨hy1, hy2⟩ <;> rcases (mem_insK cmpI_ok).1 hz with ez | ⟨hz1, hz2⟩
    · rw [ey, ez]
    · rw [ey, hc] at e'
      have := h.inj x hx z hz1 e'
      exact absurd (by rw [← this]; exact hk.symm) hz2
    · rw [ez, hc] at e'
      have := h.inj y hy1 x hx e'
      exact absurd (by rw [this]; exact hk.symm) hy2
    · exact h.inj y hy1 z hz1 e'

theorem AInv.new {es : List Elem} {ms : AMs} (h : AInv es ms) {c : Cond} (hc : BareC c) (hn : ∀ x ∈ ms, x.2.c ≠ c) (b : Nat) (hlm : ms.length + 1 < 1000000) : getK cmpI numM (least ms) ms = none ∧ AInv es (insK cmpI numM (least ms, ⟨c, 1, b, es.filter (meetsC c)⟩) ms) := by
  obtain ⟨l0, l1, _, l3⟩ := least_spec ms h.ums fun x hx => (h.num x hx).1
  have hm : ∀ y, y ∈ insK cmpI numM (least ms, ⟨c, 1, b, es.filter (meetsC c)⟩) ms → y = (least ms, ⟨c, 1, b, es.filter (meetsC c)⟩) ∨ y ∈ ms := fun y hy => ((mem_insK cmpI_ok).1 hy).imp id fun h => h.1
  have hlen := insK_len (ck := cmpI) (key := numM) (x := (least ms, ⟨c, 1, b, es.filter (meetsC c)⟩)) (L := ms)
  refine ⟨(getK_none cmpI_ok).2 fun x hx => l3 x hx, h.ues, h.ums.ins cmpI_ok _, fun y hy => ?_, fun y hy => ?_, fun y hy => ?_, fun y hy => ?_, fun y hy z hz e' => ?_, h.le, by omega⟩
  · rcases hm y hy with rfl | hy
    · rfl
    · exact h.has y hy
  · rcases hm y hy with rfl | hy
    · exact hc
    · exact h.bare y hy
  · rcases hm y hy with rfl | hy
    · exact ⟨l0, by show least ms < 1000000; omega⟩
    · exact h.num y hy
  · rcases hm y hy with rfl | hy
    · exact ⟨by show (1 : Int) ≤ 1; omega, by show (1 : Int) < 1000000; omega⟩
    · exact h.users y hy
  · rcases hm y hy with rfl | hy <;> rcases hm z hz with rfl | hz
    · rfl
    · exact absurd e'.symm (hn z hz)
    · exact absurd e' (hn y hy)
    · exact h.inj y hy z hz e'

/-! ### elements that come and go -/
def putE (e : Elem) (x : Int × AMemo) : Int × AMemo := (x.1, { x.2 with l := if meetsC x.2.c e then putK cmpI tagE e x.2.l else x.2.l })
def dropE (t : Int) (x : Int × AMemo) : Int × AMemo := (x.1, { x.2 with l := delK cmpI tagE t x.2.l })
def hitsM (e : Elem) (ms : AMs) : List Int := (ms.filter fun x => meetsC x.2.c e).map (·.1)

theorem AInv.putE {es : List Elem} {ms : AMs} (h : AInv es ms) {e : Elem} (hn : getK cmpI tagE e.tag es = none) (hle : es.length + 1 < 1000000) : AInv (insK cmpI tagE e es) (ms.map (putE e)) := by
  have hnn := (getK_none cmpI_ok).1 hn
  have hlen := insK_len (ck := cmpI) (key := tagE) (x := e) (L := es)
  have hm : ∀ y ∈ ms.map (Go.Proofs.Ytdiimonfmdbclaa.putE e), ∃ x ∈ ms, y = Go.Proofs.Ytdiimonfmdbclaa.putE e x := fun y hy => by obtain ⟨x, hx, rfl⟩ := List.mem_map.1 hy; exact ⟨x, hx, rfl⟩
  refine ⟨h.ues.ins cmpI_ok e, UpK.map (f := Go.Proofs.Ytdiimonfmdbclaa.putE e) h.ums, fun y hy => ?_, fun y hy => ?_, fun y hy => ?_, fun y hy => ?_, fun y hy z hz e' => ?_, by omega, by simpa using h.lm⟩
  · obtain ⟨x, hx, rfl⟩ := hm y hy
    show (if meetsC x.2.c e then putK cmpI tagE e x.2.l else x.2.l) = _
    rw [h.has x hx]
    have hnl : getK cmpI tagE e.tag (es.filter (meetsC x.2.c)) = none := (getK_none cmpI_ok).2 fun y hy => hnn y (List.mem_filter.1 hy).1
    split
    · rename_i hme
      rw [putK]
      have : getK cmpI tagE (tagE e) (es.filter (meetsC x.2.c)) = none := hnl
      rw [this]
      refine UpK.ext cmpI_ok (UpK.ins cmpI_ok (h.ues.filter _) e) ((h.ues.ins cmpI_ok e).filter _) fun y => ?_
      show y ∈ insK cmpI tagE e _ ↔ _
      rw [mem_insK cmpI_ok, List.mem_filter, List.mem_filter, mem_insK cmpI_ok]
      constructor
      · rintro (rfl | ⟨⟨h1, h2⟩, h3⟩)
        · exact ⟨.inl rfl, hme⟩
        · exact ⟨.inr ⟨h1, h3⟩, h2⟩
      · rintro ⟨rfl | ⟨h1, h3⟩, h2⟩
        · exact .inl rfl
        · exact .inr ⟨⟨h1, h2⟩, h3⟩
    · rename_i hme
      refine UpK.ext cmpI_ok (h.ues.filter _) ((h.ues.ins cmpI_ok e).filter _) fun y => ?_
      rw [List.mem_filter, List.mem_filter, mem_insK cmpI_ok]
      constructor
      · rintro ⟨h1, h2⟩
        exact ⟨.inr ⟨h1, hnn y h1⟩, h2⟩
      · rintro ⟨rfl | ⟨h1, h3⟩, h2⟩
        · exact absurd h2 hme
        · exact ⟨h1, h2⟩
  · obtain ⟨x, hx, rfl⟩ := hm y hy; exact h.bare x hx
  · obtain ⟨x, hx, rfl⟩ := hm y hy; exact h.num x hx
  · obtain ⟨x, hx, rfl⟩ := hm y hy; exact h.users x hx
  · obtain ⟨x, hx, rfl⟩ := hm y hy
    obtain ⟨x', hx', rfl⟩ := hm z hz
    rw [h.inj x hx x' hx' e']

theorem AInv.dropE {es : List Elem} {ms : AMs} (h : AInv es ms) (t : Int) : AInv (delK cmpI tagE t es) (ms.map (dropE t)) := by
  have hm : ∀ y ∈ ms.map (Go.Proofs.Ytdiimonfmdbclaa.dropE t), ∃ x ∈ ms, y = Go.Proofs.Ytdiimonfmdbclaa.dropE t x := fun y hy => by obtain ⟨x, hx, rfl⟩ := List.mem_map.1 hy; exact ⟨x, hx, rfl⟩
  refine ⟨h.ues.del t, UpK.map (f := Go.Proofs.Ytdiimonfmdbclaa.dropE t) h.ums, fun y hy => ?_, fun y hy => ?_, fun y hy => ?_, fun y hy => ?_, fun y hy z hz e' => ?_, Nat.lt_of_le_of_lt delK_len h.le, by simpa using h.lm⟩
  · obtain ⟨x, hx, rfl⟩ := hm y hy
    show delK cmpI tagE t x.2.l = _
    rw [h.has x hx]
    unfold delK
    rw [List.filter_filter, List.filter_filter]
    exact List.filter_congr fun y _ => Bool.and_comm _ _
  · obtain ⟨x, hx, rfl⟩ := hm y hy; exact h.bare x hx
  · obtain ⟨x, hx, rfl⟩ := hm y hy; exact h.num x hx
  · obtain ⟨x, hx, rfl⟩ := hm y hy; exact h.users x hx
  · obtain ⟨x, hx, rfl⟩ := hm y hy
    obtain ⟨x', hx', rfl⟩ := hm z hz
    rw [h.inj x hx x' hx' e']

end Go.Proofs.Ytdiimonfmdbclaa

/-
  Elements by themselves: contracts of the small functions.
-/
namespace Go.Proofs.Ytdiimonfmdbclaa
open Go.Eng Go.RowKit
set_option linter.unusedVariables false
set_option linter.unusedSimpArgs false
set_option linter.unnecessarySimpa false

@[reducible] def cc (c : Cond) : List PV := [pI c.kind, pB c.goal, pS c.id, .list 6 .sh (c.attr.map Test.pv), .list 6 .sh (c.value.map Test.pv), pB c.acc, .list 7 .sh (c.conds.map Cond.pv)]

theorem stillL_take {l : List Test} {k : Nat} (hk : k < l.length) : stillL (l.take (k + 1)) = stillL (l.take k) ++ (if strEq l[k].var ⟨#[]⟩ = true then [l[k]] else []) := by
  unfold stillL
  rw [List.take_add_one, List.getElem?_eq_getElem hk, List.filter_append]
  congr 1
  simp only [Option.toList_some, List.filter_cons, List.filter_nil]

theorem cStill (f : Fl) (l : List Test) (hl : l.length ≤ 1000) (ht : ∀ t ∈ l, t.list.length ≤ 1000) : Pure Try.prog 32 [.list 6 f (l.map Test.pv)] (.list 6 .sh ((stillL l).map Test.pv)) := by
  refine PureK.of (G_alpha_still.c ?_)
  have hb : ∀ k, (stillL (l.take k)).length ≤ 1000 := fun k => by
    have := stillL_len (l.take k)
    have := List.length_take_le k l
    have h3 : (l.take k).length ≤ l.length := by rw [List.length_take]; omega
    omega
  refine LoopI.each2 (n := l.length) (by omega) (fun k x u => x.2 = (stillL (l.take k)).map Test.pv ∧ Ow [Tip x.1 (stillL (l.take k)).length 6] u) ⟨rfl, Ow.nil (L := []) trivial (.inl rfl)⟩ ?_ ?_
  · rintro k ⟨fl, _⟩ u next hk ⟨rfl, hO⟩ hnext
    have hft := stillL_take hk
    have hbk := hb k
    have htk := ht _ (List.getElem_mem hk)
    refine CIf.t (by simpa using hk) ⟨by omega, _, atRow hk, _, _, _, _, _, _, _, rfl, CIf.mk (fun hv => ?_) (fun hv => ?_)⟩
    · rw [if_pos hv] at hft
      refine Ow.app (Ow.nil (n := 0) hO (.inl rfl)) rfl (by simp only [List.length_map]; omega) (by simp only [List.length_map]; omega) fun f1 u1 hO1 => ?_
      refine Ow.app hO1.drop (by simp only [List.length_map]) (by simp only [List.length_singleton]; omega) (by simp only [List.length_singleton]; omega) fun f2 u2 hO2 => hnext _ _ ⟨?_, ?_⟩
      · rw [hft, List.map_append]; rfl
      · rw [hft, List.length_append]; exact hO2
    · rw [if_neg (by simp [hv]), List.append_nil] at hft
      exact hnext _ _ ⟨by rw [hft], by rw [hft]; exact hO⟩
  · rintro ⟨fl, _⟩ u next ⟨rfl, hO⟩
    refine CIf.f (by simp) ?_
    rw [List.take_length]; rfl

theorem light1000 {l : List Test} (h : ∀ t ∈ l, lightT t) : ∀ t ∈ l, t.list.length ≤ 1000 := fun t ht => by have := (h t ht).1; omega

theorem cBare (c : Cond) (fa fv fc : Fl) (hl : lightC c) : Pure Try.prog 11 [.agg [pI c.kind, pB c.goal, pS c.id, .list 6 fa (c.attr.map Test.pv), .list 6 fv (c.value.map Test.pv), pB c.acc, .list 7 fc (c.conds.map Cond.pv)]] (.agg (cc (bareC c))) := by
  obtain ⟨_, h1, h2, h3, h4, _⟩ := (lightC_eq c).1 hl
  refine PureK.of (G_alpha_Bare.c ?_)
  refine (cStill _ c.attr (by omega) (light1000 h3)).q ⟨_, _, rfl, (cStill _ c.value (by omega) (light1000 h4)).q ⟨_, _, rfl, rfl⟩⟩

theorem cSame (f g : Fl) (l m : List Test) (hl : l.length ≤ 1000000) (ht : ∀ t ∈ l, t.list.length ≤ 1000000) : Asks 39 [.list 6 f (l.map Test.pv), .list 6 g (m.map Test.pv)] (l = m) := by
  refine PureK.of (G_alpha_same.c (CIf.mk (fun h => Asks.no (neLen h)) (fun h => ?_)))
  refine eqLoop (l := l) (m := m) (n := l.length) rfl (eqLen h) (by omega) (fun k hk hk' u next hy hno => ?_) (fun u next e => CIf.f (by simp) (Asks.yes e))
  refine CIf.t (by simpa using hk) ⟨by omega, _, atRow hk, _, _, _, _, _, _, _, rfl, by omega, _, atRow hk', _, _, _, _, _, _, _, rfl, CIf.mk (fun h1 => Asks.no (hno fun e => ?_)) (fun h1 => CIf.mk (fun h2 => Asks.no (hno fun e => ?_)) (fun h2 => CIf.mk (fun h3 => Asks.no (hno fun e => ?_)) (fun h3 => CIf.mk (fun h4 => Asks.no (hno fun e => ?_)) (fun h4 => ?_))))⟩
  · rw [e] at h1; simp at h1
  · rw [e, strEq_self] at h2; cases h2
  · have h' : symEq l[k].sym m[k].sym = false := nb h3
    rw [symEq_iff.2 (by rw [e])] at h'; cases h'
  · exact absurd (by rw [e]) (neLen h4)
  · have hlk := ht _ (List.getElem_mem hk)
    refine eqLoop (l := l[k].list) (m := m[k].list) (n := l[k].list.length) rfl (eqLen h4) (by omega) (fun i hi hi' u1 next1 hy1 hno1 => ?_) (fun u1 next1 e => CIf.f (by simp) (hy (testExt (by simpa using h1) (strEq_iff.1 (nt h2)) (symEq_iff.1 (nt h3)) e) _))
    refine CIf.t (by simpa using hi) ⟨by omega, _, atRow hi, _, _, _, rfl, by omega, _, atRow hi', _, _, _, rfl, CIf.mk (fun h5 => Asks.no (hno fun e => hno1 (fun e' => ?_) (by rw [e]))) (fun h5 => hy1 (symEq_iff.1 (nt h5)) _)⟩
    have h' : symEq l[k].list[i] m[k].list[i] = false := nb h5
    rw [symEq_iff.2 e'] at h'; cases h'

theorem cMeets (c : Cond) (e : Elem) (fa fv fc : Fl) (hl : lightC c) : Pure Try.prog 43 [.agg [pI c.kind, pB c.goal, pS c.id, .list 6 fa (c.attr.map Test.pv), .list 6 fv (c.value.map Test.pv), pB c.acc, .list 7 fc (c.conds.map Cond.pv)], .agg e.pv] (pB (meetsC c e)) := by
  obtain ⟨_, h1, h2, h3, h4, _⟩ := (lightC_eq c).1 hl
  refine PureK.of (G_alpha_meets.c ?_)
  refine (cCond' .sh .sh .sh .nil (idX c) e [] (by show 0 + 1 + c.attr.length + c.value.length ≤ 1000000; omega) (lightTs h3) (lightTs h4)).call ?_
  unfold meetsC
  cases condS (idX c) e [] with
  | none => exact ⟨_, _, _, rfl, rfl⟩
  | some r => exact ⟨_, _, _, rfl, rfl⟩

theorem cANew {L : List Asn} {μ : Mem} (hO : Ow L μ) {K : PV → Mem → Prop} (hk : ∀ μ' n, Ow (NetAt n [] [] :: L) μ' → K (pP n 0) μ') : CallP Try.prog 15 [] μ K := by
  refine G_alpha_New.c (AE.cMNew hO fun u1 me h1 => ⟨_, rfl, AM.cMNew h1 fun u2 mm h2 => ⟨_, rfl, fun n hn => hk _ n ?_⟩⟩)
  exact NetAt.shut (ms := []) ((h2.swap.new 79 [pP me 0, pP mm 0] hn))

theorem cALen {L : List Asn} {μ : Mem} {n : Nat} {es : List Elem} {ms : AMs} (hO : Ow (NetAt n es ms :: L) μ) {K : PV → Mem → Prop} (hk : K (pI (ms.length : Nat)) μ) : CallP Try.prog 20 [pP n 0] μ K := by
  obtain ⟨me, mm, h⟩ := NetAt.open_ hO
  refine G_alpha_Net_Len.c ⟨_, h.rd 0 rfl (by simp), AM.cMLen (Ow.at 2 rfl h) ⟨_, rfl, ?_⟩⟩
  rw [List.length_map]; exact hk
theorem cAUsers {L : List Asn} {μ : Mem} {n : Nat} {es : List Elem} {ms : AMs} (hO : Ow (NetAt n es ms :: L) μ) (hI : AInv es ms) (k : Int) {K : PV → Mem → Prop} (hk : ∀ μ', Ow (NetAt n es ms :: L) μ' → K (pI (((getK cmpI numM k ms).map fun x => x.2.users).getD 0)) μ') : CallP Try.prog 18 [pP n 0, pI k] μ K := by
  obtain ⟨me, mm, h⟩ := NetAt.open_ hO
  have hg : getK AM.ck AM.key (AM.key (k, AM.z)) (ms.map pgM) = (getK cmpI numM k ms).map pgM := getK_map
  have back : ∀ μ', Ow (AM.MAt mm (ms.map pgM) :: (Pt n 79 [pP me 0, pP mm 0] :: AE.MAt me (es.map pgE) :: (ms.map setM ++ L))) μ' → Ow (NetAt n es ms :: L) μ' := fun μ' h' => NetAt.shut (h'.swap.tail fun _ h => h.swap)
  refine G_alpha_Net_Users.c ⟨_, h.rd 0 rfl (by simp), AM.cMGet (Ow.at 2 rfl h) hI.um (by have := hI.lm; simp; omega) k (fun y μ' hy h' => ?_) (fun μ' hy h' => ?_)⟩
  · rw [hg] at hy
    obtain ⟨x, hx, rfl⟩ := Option.map_eq_some_iff.1 hy
    refine ⟨_, _, _, _, _, _, _, _, _, _, _, _, _, rfl, ?_⟩
    have := hk μ' (back μ' h')
    rw [hx] at this; exact this
  · rw [hg] at hy
    have hx : getK cmpI numM k ms = none := by
      cases hx : getK cmpI numM k ms with
      | none => rfl
      | some x => rw [hx] at hy; cases hy
    refine ⟨_, _, _, _, _, _, _, _, _, _, _, _, _, rfl, ?_⟩
    have := hk μ' (back μ' h')
    rw [hx] at this; exact this

end Go.Proofs.Ytdiimonfmdbclaa

/-
  Elements by themselves: memories that are wanted and left.
-/
namespace Go.Proofs.Ytdiimonfmdbclaa
open Go.Eng Go.RowKit
set_option linter.unusedVariables false
set_option linter.unusedSimpArgs false
set_option linter.unnecessarySimpa false

/-- The net, opened: first the memories. -/
theorem net_mm {n me mm : Nat} {es : List Elem} {ms : AMs} {L : List Asn} {μ : Mem} (h : Ow (AM.MAt mm (ms.map pgM) :: (Pt n 79 [pP me 0, pP mm 0] :: AE.MAt me (es.map pgE) :: (ms.map setM ++ L))) μ) : Ow (NetAt n es ms :: L) μ := NetAt.shut (h.swap.tail fun _ h => h.swap)

theorem getM (k : Int) (ms : AMs) : getK AM.ck AM.key (AM.key (k, AM.z)) (ms.map pgM) = (getK cmpI numM k ms).map pgM := getK_map
theorem getE (t : Int) (es : List Elem) : getK AE.ck AE.key (AE.key (t, AE.z)) (es.map pgE) = (getK cmpI tagE t es).map pgE := getK_map
theorem map_none {α β : Type} {f : α → β} {o : Option α} (h : o.map f = none) : o = none := by
  cases o with
  | none => rfl
  | some x => cases h

def leaveM (k : Int) (ms : AMs) : AMs :=
  match getK cmpI numM k ms with
  | none => ms
  | some x => if x.2.users = 1 then delK cmpI numM k ms else insK cmpI numM (k, { x.2 with users := x.2.users - 1 }) ms

theorem AInv.leave {es : List Elem} {ms : AMs} (h : AInv es ms) (k : Int) : AInv es (leaveM k ms) := by
  unfold leaveM
  split
  · exact h
  · rename_i x hx
    obtain ⟨h1, h2⟩ := (getK_iff cmpI_ok h.ums).1 hx
    have hu := h.users x h1
    split
    · exact h.del k
    · exact h.upd h1 (x' := (k, { x.2 with users := x.2.users - 1 })) h2.symm rfl rfl ⟨by show 1 ≤ x.2.users - 1; omega, by show x.2.users - 1 < 1000000; omega⟩

theorem cALeave {L : List Asn} {μ : Mem} {n : Nat} {es : List Elem} {ms : AMs} (hO : Ow (NetAt n es ms :: L) μ) (hI : AInv es ms) (k : Int) {K : PV → Mem → Prop} (hk : ∀ μ', Ow (NetAt n es (leaveM k ms) :: L) μ' → K (pB (getK cmpI numM k ms).isSome) μ') : CallP Try.prog 19 [pP n 0, pI k] μ K := by
  obtain ⟨me, mm, h⟩ := NetAt.open_ hO
  have hlm := hI.lm
  refine G_alpha_Net_Leave.c ⟨_, h.rd 0 rfl (by simp), AM.cMGet (Ow.at 2 rfl h) hI.um (by simp; omega) k (fun y μ' hy h' => ?_) (fun μ' hy h' => ?_)⟩
  · rw [getM] at hy
    obtain ⟨x, hx, rfl⟩ := Option.map_eq_some_iff.1 hy
    obtain ⟨hxm, hxk⟩ := (getK_iff cmpI_ok hI.ums).1 hx
    have hus := hI.users x hxm
    have hw : IntKind.wrap .i64 (x.2.users - 1) = x.2.users - 1 := wrap_id (by omega) (by omega)
    refine ⟨_, _, _, _, _, _, _, _, _, _, _, _, _, rfl, CIf.f rfl (CIf.mk (fun h1 => ?_) (fun h1 => ?_))⟩
    · have h1 : x.2.users = 1 := by
        have : IntKind.wrap .i64 (x.2.users - 1) = 0 := by simpa [pgM, AMemo.memo] using h1
        omega
      refine ⟨_, h'.rd 1 rfl (by simp), AM.cMDrop h' hI.um (by simp; omega) k (fun y2 μ2 hy2 h2 => ?_) (fun μ2 hy2 h2 => ?_)⟩
      · refine ⟨_, _, _, _, _, _, _, _, _, _, _, _, _, rfl, ?_⟩
        have := hk μ2
        rw [hx] at this
        refine this ?_
        have e1 : leaveM k ms = delK cmpI numM k ms := by unfold leaveM; rw [hx]; exact if_pos h1
        rw [e1]
        obtain ⟨A, B, e, ed, _⟩ := hI.ums.at_ cmpI_ok hxm
        have hxk' : numM x = k := hxk
        rw [hxk'] at ed
        refine net_mm (mm := mm) (me := me) ?_
        have hdm : delK AM.ck AM.key (AM.key (k, AM.z)) (ms.map pgM) = (delK cmpI numM k ms).map pgM := delK_map
        rw [hdm] at h2
        have e2 : ms.map setM = A.map setM ++ setM x :: B.map setM := by rw [e]; simp
        rw [e2] at h2
        have h3 := (Ow.pick (P := [AM.MAt mm ((delK cmpI numM k ms).map pgM), Pt n 79 [pP me 0, pP mm 0], AE.MAt me (es.map pgE)]) h2).drop
        have e3 : (delK cmpI numM k ms).map setM = A.map setM ++ B.map setM := by rw [ed, List.map_append]
        rw [e3]
        exact h3
      · rw [getM, hx] at hy2; cases hy2
    · have h1 : x.2.users ≠ 1 := fun e => by
        have h1' : (IntKind.wrap .i64 (x.2.users - 1) == 0) = false := h1
        rw [hw, e] at h1'; simp at h1'
      refine ⟨_, h'.rd 1 rfl (by simp), ?_⟩
      show CallP _ _ [pP mm 0, pI k, .agg [_, _, _, _, _, _, _, pI (IntKind.wrap .i64 (x.2.users - 1)), _]] _ _
      rw [hw]
      refine AM.cMPut h' hI.um (by simp; omega) k ⟨x.2.c, x.2.users - 1, some ⟨x.2.b, 0, none⟩⟩ fun μ2 h2 => ⟨_, rfl, ?_⟩
      have := hk μ2
      rw [hx] at this
      refine this ?_
      have e1 : leaveM k ms = insK cmpI numM (k, { x.2 with users := x.2.users - 1 }) ms := by unfold leaveM; rw [hx]; exact if_neg h1
      rw [e1]
      refine net_mm (mm := mm) (me := me) ?_
      rw [sets_upd hI hxm (x' := (k, { x.2 with users := x.2.users - 1 })) hxk.symm rfl]
      have e2 : insK AM.ck AM.key (k, ⟨x.2.c, x.2.users - 1, some ⟨x.2.b, 0, none⟩⟩) (ms.map pgM) = (insK cmpI numM (k, { x.2 with users := x.2.users - 1 }) ms).map pgM := insK_map (f := pgM) (x := (k, { x.2 with users := x.2.users - 1 }))
      rw [e2] at h2
      exact h2
  · rw [getM] at hy
    have hx := map_none hy
    refine ⟨_, _, _, _, _, _, _, _, _, _, _, _, _, rfl, CIf.t rfl ?_⟩
    have := hk μ'
    rw [hx] at this
    refine this ?_
    have e1 : leaveM k ms = ms := by unfold leaveM; rw [hx]
    rw [e1]
    exact net_mm h'

theorem cAWant {L : List Asn} {μ : Mem} {n : Nat} {es : List Elem} {ms : AMs} (hO : Ow (NetAt n es ms :: L) μ) (hI : AInv es ms) (hlm1 : ms.length + 1 < 1000000) (hus : ∀ x ∈ ms, x.2.users + 1 < 1000000) (c : Cond) (hl : lightC c) {K : PV → Mem → Prop}
    (hk1 : ∀ x ∈ ms, x.2.c = bareC c → ∀ μ', Ow (NetAt n es (insK cmpI numM (x.1, { x.2 with users := x.2.users + 1 }) ms) :: L) μ' → K (pI x.1) μ')
    (hk0 : (∀ x ∈ ms, x.2.c ≠ bareC c) → ∀ μ' b, Ow (NetAt n es (insK cmpI numM (least ms, ⟨bareC c, 1, b, es.filter (meetsC (bareC c))⟩) ms) :: L) μ' → K (pI (least ms)) μ') : CallP Try.prog 17 [pP n 0, .agg (cc c)] μ K := by
  obtain ⟨me, mm, h⟩ := NetAt.open_ hO
  have hlm := hI.lm
  have hle := hI.le
  have hbl := bare_light hl
  have hbb := bare_bare hl
  obtain ⟨_, bl1, bl2, bl3, bl4, _⟩ := (lightC_eq _).1 hbl
  refine G_alpha_Net_Want.c fun b2 hb2 b3 hb3 b4 hb4 => ?_
  have O1 := h.new 34 [pP n 0] hb2
  have O2 := O1.new 25 (cc c) hb3
  have O3 := O2.new 3 [pI 0] hb4
  refine ⟨_, _, _, _, _, _, _, _, _, _, O3.rd 1 rfl (by simp), (cBare c .sh .sh .sh hl).call ⟨_, _, _, _, _, _, _, _, _, _, rfl, O3.st 1 rfl (by simp) fun u1 O4 => fun b5 hb5 => ?_⟩⟩
  refine (O4.new 72 [pI 0] hb5).st 0 rfl (by simp) fun u2 O5 => ?_
  refine ⟨_, O5.rd 3 rfl (by simp), _, O5.rd 4 rfl (by simp), (AM.cMAll mm).call ⟨_, _, _, rfl, ?_⟩⟩
  have hml : ((ms.map pgM).map fun x => [AM.argK x.1, AM.argV x.2]).length = ms.length := by simp
  refine RangeP.own (AM.seqMAll mm (ms.map pgM) (by simp; omega)) (Ow.at 6 rfl O5)
    (fun k u => (∀ x ∈ ms.take k, x.2.c ≠ bareC c) ∧ Ow (AM.MAt mm (ms.map pgM) :: Pt b5 72 [pI (least (ms.take k))] :: Pt b4 3 [pI 0] :: Pt b3 25 (cc (bareC c)) :: Pt b2 34 [pP n 0] :: Pt n 79 [pP me 0, pP mm 0] :: AE.MAt me (es.map pgE) :: (ms.map setM ++ L)) u)
    (fun cd u => cd = .ret ∧ ∃ x ∈ ms, x.2.c = bareC c ∧ Ow (Pt b4 3 [pI x.1] :: NetAt n es (insK cmpI numM (x.1, { x.2 with users := x.2.users + 1 }) ms) :: L) u)
    (fun k => UpC.and (UpC.own _)) (fun cd => UpC.and fun μ μ' hs ⟨x, h1, h2, h3⟩ => ⟨x, h1, h2, h3.mono hs⟩) (fun μ' h' => ⟨by simp, h'⟩) ?_ ?_ ?_
  · rintro k hk u R ⟨hno, hO⟩ hnone hsome
    have hk' : k < ms.length := by simpa using hk
    have hxm : ms[k] ∈ ms := List.getElem_mem hk'
    have hb := hI.bare _ hxm
    obtain ⟨_, l1, l2, l3, l4, _⟩ := (lightC_eq _).1 hb.light
    have hux := hI.users _ hxm
    have hux1 := hus _ hxm
    obtain ⟨le0, le1, _, _⟩ := least_spec (ms.take k) (List.Pairwise.sublist (List.take_sublist _ _) hI.ums) fun x hx => (hI.num x (List.mem_of_mem_take hx)).1
    rw [List.getElem_map, List.getElem_map]
    have nextI : ms[k].2.c ≠ bareC c → ∀ x ∈ ms.take (k + 1), x.2.c ≠ bareC c := fun hne x hx => by
      rw [List.take_add_one, List.getElem?_eq_getElem hk', List.mem_append] at hx
      rcases hx with hx | hx
      · exact hno x hx
      · simp at hx; rw [hx]; exact hne
    refine ⟨_, _, _, _, _, _, _, _, _, _, _, _, _, rfl, fun _ u => ms[k].2.c ≠ bareC c ∧ Ow (AM.MAt mm (ms.map pgM) :: Pt b5 72 [pI (least (ms.take k))] :: Pt b4 3 [pI 0] :: Pt b3 25 (cc (bareC c)) :: Pt b2 34 [pP n 0] :: Pt n 79 [pP me 0, pP mm 0] :: AE.MAt me (es.map pgE) :: (ms.map setM ++ L)) u, ?_, ?_⟩
    · refine ⟨_, hO.rd 3 rfl (by simp), CIf.mk (fun g1 => ⟨_, hO.rd 3 rfl (by simp), CIf.mk (fun g2 => ⟨_, _, hO.rd 3 rfl (by simp), ?_⟩) (fun g2 => ⟨fun e => ?_, hO⟩)⟩) (fun g1 => ⟨fun e => ?_, hO⟩)⟩
      · refine (cSame _ _ ms[k].2.c.attr (bareC c).attr (by omega) (lightTs l3)).call (fun e1 => ⟨_, rfl, CIf.t rfl ⟨_, _, hO.rd 3 rfl (by simp), ?_⟩⟩) (fun hne => ⟨_, rfl, CIf.f rfl ⟨fun e => hne (by rw [e]), hO⟩⟩)
        refine (cSame _ _ ms[k].2.c.value (bareC c).value (by omega) (lightTs l4)).call (fun e2 => ⟨_, rfl, CIf.t rfl ⟨_, hO.rd 4 rfl (by simp), _, hO.rd 5 rfl (by simp), ?_⟩⟩) (fun hne => ⟨_, rfl, CIf.f rfl ⟨fun e => hne (by rw [e]), hO⟩⟩)
        have g1' : (ms[k].2.c.goal == (bareC c).goal) = true := g1
        have g2' : (ms[k].2.c.acc == (bareC c).acc) = true := g2
        have ec : ms[k].2.c = bareC c := hb.eq hbb (by simpa using g1') (by simpa using g2') e1 e2
        have hw : IntKind.wrap .i64 (ms[k].2.users + 1) = ms[k].2.users + 1 := wrap_id (by omega) (by omega)
        show CallP _ _ [pP mm 0, pI ms[k].1, .agg [_, _, _, _, _, _, _, pI (IntKind.wrap .i64 (ms[k].2.users + 1)), _]] _ _
        rw [hw]
        refine AM.cMPut hO hI.um (by simp; omega) ms[k].1 ⟨ms[k].2.c, ms[k].2.users + 1, some ⟨ms[k].2.b, 0, none⟩⟩ fun μ2 h2 => ⟨_, rfl, h2.st 2 rfl (by simp) fun μ3 h3 => hsome _ _ ⟨rfl, ms[k], hxm, ec, ?_⟩⟩
        have e2 : insK AM.ck AM.key (ms[k].1, ⟨ms[k].2.c, ms[k].2.users + 1, some ⟨ms[k].2.b, 0, none⟩⟩) (ms.map pgM) = (insK cmpI numM (ms[k].1, { ms[k].2 with users := ms[k].2.users + 1 }) ms).map pgM := insK_map (f := pgM) (x := (ms[k].1, { ms[k].2 with users := ms[k].2.users + 1 }))
        rw [e2] at h3
        refine (Ow.at 2 rfl h3).tail fun ν h4 => net_mm (mm := mm) (me := me) ?_
        rw [sets_upd hI hxm (x' := (ms[k].1, { ms[k].2 with users := ms[k].2.users + 1 })) rfl rfl]
        exact h4.tail fun ν h5 => h5.drop.drop.drop
      · have g2' : (ms[k].2.c.acc == (bareC c).acc) = false := g2
        rw [e] at g2'; simp at g2'
      · have g1' : (ms[k].2.c.goal == (bareC c).goal) = false := g1
        rw [e] at g1'; simp at g1'
    · rintro _ u ⟨hne, hO⟩
      have hlt := least_take hk'
      refine ⟨_, hO.rd 1 rfl (by simp), CIf.mk (fun g => ⟨_, hO.rd 1 rfl (by simp), hO.st 1 rfl (by simp) fun u3 h3 => hnone _ ⟨nextI hne, ?_⟩⟩) (fun g => hnone _ ⟨nextI hne, ?_⟩)⟩
      · have g : ms[k].1 = least (ms.take k) := by simpa [pgM] using g
        rw [if_pos g] at hlt
        rw [hlt]
        have hw : IntKind.wrap .i64 (least (ms.take k) + 1) = least (ms.take k) + 1 := wrap_id (by omega) (by rw [List.length_take] at le1; omega)
        have h3' : Ow (AM.MAt mm (ms.map pgM) :: Pt b5 72 [pI (IntKind.wrap .i64 (least (ms.take k) + 1))] :: Pt b4 3 [pI 0] :: Pt b3 25 (cc (bareC c)) :: Pt b2 34 [pP n 0] :: Pt n 79 [pP me 0, pP mm 0] :: AE.MAt me (es.map pgE) :: (ms.map setM ++ L)) u3 := h3
        rw [hw] at h3'
        exact h3'
      · have g : ms[k].1 ≠ least (ms.take k) := by simpa [pgM] using g
        rw [if_neg g] at hlt
        rw [hlt]; exact hO
  · rintro u ⟨hno, hO⟩
    rw [hml, List.take_length] at hno hO
    obtain ⟨hnum, hInew⟩ := hI.new hbb hno 0 hlm1
    have hun : UpK AT.ck AT.key (es.filter (meetsC (bareC c))) := UpK.filter hI.ues _
    -- behind the making of the memory
    refine ⟨fun s u => ∃ b8 b, s = some ⟨b8, 0, none⟩ ∧ Ow (Pt b8 77 (cc (bareC c) ++ [pI 1, pP b 0]) :: AT.At b [] :: AE.MAt me (es.map pgE) :: AM.MAt mm (ms.map pgM) :: Pt b5 72 [pI (least ms)] :: Pt b4 3 [pI 0] :: Pt b3 25 (cc (bareC c)) :: Pt b2 34 [pP n 0] :: Pt n 79 [pP me 0, pP mm 0] :: (ms.map setM ++ L)) u, ?_, ?_⟩
    · have hO := Ow.at 6 rfl hO
      refine ⟨_, _, _, _, _, _, _, _, _, _, hO.rd 4 rfl (by simp), ?_, fun b8 hb8 => ?_⟩
      · refine CallP.q (AT.cNew (L := []) trivial .nil [] (by simp) (K := fun p μ' => ∃ b, p = pP b 0 ∧ Ow [AT.At b []] μ') fun μ' b hb => ⟨b, rfl, hb⟩) ?_
        rintro _ ν hsep ⟨b, rfl, hb⟩
        refine ⟨_, rfl, fun b8 hb8 => ?_⟩
        have h1 := hO.side hsep hb
        exact (h1.new 77 _ hb8).st 0 rfl (by simp) fun u3 h3 => ⟨b8, b, rfl, h3⟩
      · have h1 := hO.new 77 [pI 0, pB false, pS ⟨#[]⟩, .list 6 .nil [], .list 6 .nil [], pB false, .list 7 .nil [], pI 0, .raw (.pointer none)] hb8
        refine CallP.q (AT.cNew (L := []) trivial .nil [] (by simp) (K := fun p μ' => ∃ b, p = pP b 0 ∧ Ow [AT.At b []] μ') fun μ' b hb => ⟨b, rfl, hb⟩) ?_
        rintro _ ν hsep ⟨b, rfl, hb⟩
        have h2 := h1.side hsep hb
        exact ⟨_, rfl, h2.st 1 rfl (by simp) fun u3 h3 => ⟨b8, b, rfl, Ow.swap h3⟩⟩
    · rintro _ u ⟨b8, b, rfl, hO⟩
      refine ⟨_, hO.rd 7 rfl (by simp), _, hO.rd 8 rfl (by simp), (AE.cMAll me).call ⟨_, _, _, rfl, ?_⟩⟩
      have hel : ((es.map pgE).map fun x => [AE.argK x.1, AE.argV x.2]).length = es.length := by simp
      refine RangeP.own (AE.seqMAll me (es.map pgE) (by simp; omega)) (Ow.at 2 rfl hO)
        (fun k u => Ow (AT.At b ((es.take k).filter (meetsC (bareC c))) :: AE.MAt me (es.map pgE) :: Pt b8 77 (cc (bareC c) ++ [pI 1, pP b 0]) :: AM.MAt mm (ms.map pgM) :: Pt b5 72 [pI (least ms)] :: Pt b4 3 [pI 0] :: Pt b3 25 (cc (bareC c)) :: Pt b2 34 [pP n 0] :: Pt n 79 [pP me 0, pP mm 0] :: (ms.map setM ++ L)) u)
        (fun _ _ => False) (fun k => UpC.own _) (fun _ _ _ _ h => h.elim) (fun μ' h' => (h'.tail fun _ h => h.swap).swap) ?_ ?_ ?_
      · rintro k hk u R hO hnone _
        have hk' : k < es.length := by simpa using hk
        rw [List.getElem_map, List.getElem_map]
        have htk : (es.take (k + 1)).filter (meetsC (bareC c)) = (es.take k).filter (meetsC (bareC c)) ++ (if meetsC (bareC c) es[k] = true then [es[k]] else []) := by
          rw [List.take_add_one, List.getElem?_eq_getElem hk', List.filter_append]
          congr 1
          simp only [Option.toList_some, List.filter_cons, List.filter_nil]
        have hsub : ∀ x ∈ es.take k, cmpI (tagE x) (tagE es[k]) < 0 := fun x hx => by
          obtain ⟨i, hi, rfl⟩ := List.mem_iff_getElem.1 hx
          rw [List.getElem_take]
          simp only [List.length_take] at hi
          exact List.pairwise_iff_getElem.1 hI.ues i k (by omega) hk' (by omega)
        refine ⟨_, _, _, _, _, _, _, _, _, _, _, _, _, rfl, _, _, _, _, _, _, _, _, _, _, hO.rd 6 rfl (by simp), (cMeets (bareC c) es[k] .sh .sh .sh hbl).call ⟨_, rfl, CIf.mk (fun hm => ?_) (fun hm => ?_)⟩⟩
        · refine ⟨_, hO.rd 2 rfl (by simp), AT.cPut hO (UpK.filter (List.Pairwise.sublist (List.take_sublist _ _) hI.ues) _) (by
            have := List.length_filter_le (meetsC (bareC c)) (es.take k)
            have : (es.take k).length ≤ es.length := by rw [List.length_take]; omega
            omega) es[k] fun u3 h3 => ⟨_, rfl, hnone _ ?_⟩⟩
          rw [htk, if_pos hm]
          have hp : putK AT.ck AT.key es[k] ((es.take k).filter (meetsC (bareC c))) = (es.take k).filter (meetsC (bareC c)) ++ [es[k]] := putK_last AT.hc fun x hx => hsub x (List.mem_filter.1 hx).1
          rw [hp] at h3
          exact h3
        · refine hnone _ ?_
          rw [htk, if_neg (by simp [hm]), List.append_nil]
          exact hO
      · intro u hO
        rw [hel, List.take_length] at hO
        refine ⟨_, hO.rd 7 rfl (by simp), _, hO.rd 8 rfl (by simp), _, hO.rd 4 rfl (by simp), _, _, _, _, _, _, _, _, _, _, _, _, hO.rd 2 rfl (by simp), ?_⟩
        have hO3 := Ow.at 3 rfl hO
        refine AM.cMPut hO3 hI.um (by simp; omega) (least ms) ⟨bareC c, 1, some ⟨b, 0, none⟩⟩ fun u3 h3 => ⟨_, rfl, _, h3.rd 4 rfl (by simp), h3.st 5 rfl (by simp) fun u4 h4 => ⟨_, h4.rd 5 rfl (by simp [wrL]), hk0 hno u4 b ?_⟩⟩
        have e2 : insK AM.ck AM.key (least ms, ⟨bareC c, 1, some ⟨b, 0, none⟩⟩) (ms.map pgM) = (insK cmpI numM (least ms, ⟨bareC c, 1, b, es.filter (meetsC (bareC c))⟩) ms).map pgM := insK_map (f := pgM) (x := (least ms, ⟨bareC c, 1, b, es.filter (meetsC (bareC c))⟩))
        rw [e2] at h4
        refine net_mm (mm := mm) (me := me) ?_
        have hperm := (insK_perm cmpI_ok (x := (least ms, (⟨bareC c, 1, b, es.filter (meetsC (bareC c))⟩ : AMemo))) (L := ms) hnum).map setM
        have h5 : Ow (AM.MAt mm ((insK cmpI numM (least ms, ⟨bareC c, 1, b, es.filter (meetsC (bareC c))⟩) ms).map pgM) :: AT.At b (es.filter (meetsC (bareC c))) :: AE.MAt me (es.map pgE) :: Pt n 79 [pP me 0, pP mm 0] :: (ms.map setM ++ L)) u4 := h4.tail fun _ h => h.tail fun _ h => h.tail fun _ h => h.drop.drop.drop.drop.drop
        refine h5.tail fun _ h6 => ?_
        have h7 := (h6.tail fun _ h => h.swap)
        have h8 : Ow (Pt n 79 [pP me 0, pP mm 0] :: AE.MAt me (es.map pgE) :: (AT.At b (es.filter (meetsC (bareC c))) :: (ms.map setM ++ L))) _ := (h7.swap).tail fun _ h => h.swap
        refine h8.tail fun _ h => h.tail fun _ h9 => ?_
        exact h9.perm (List.Perm.append_right L hperm.symm)
      · intro _ _ h; exact h.elim
  · rintro cd u ⟨rfl, x, hx, ec, hO⟩
    exact ⟨_, hO.rd 0 rfl (by simp), hk1 x hx ec u hO.drop⟩

end Go.Proofs.Ytdiimonfmdbclaa
