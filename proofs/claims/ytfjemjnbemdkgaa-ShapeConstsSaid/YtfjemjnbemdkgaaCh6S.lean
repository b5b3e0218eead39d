import Derived.Test.YtfjemjnbemdkgaaV6
import Derived.Test.YtfjemjnbemdkgaaPvT
/-
  Sets of names.
-/
namespace Go.Proofs.Ytfjemjnbemdkgaa
open Go.Eng Go.RowKit
set_option linter.unusedVariables false
set_option linter.unusedSimpArgs false
set_option linter.unnecessarySimpa false

theorem cNameCmp (a b : ByteArray) : Pure Try.prog 124 [pS a, pS b] (pI (cmpS a b)) := by
  refine PureK.of (G_shape_name_Compare.c ?_)
  refine CIf.mk (fun h => ?_) (fun h => CIf.mk (fun h1 => ?_) (fun h1 => ?_))
  · simp [cmpS, h, wk, wk1]
  · simp only [cmpS, h, wk, wk1]; simp only [h] at h1; rw [h1]; rfl
  · simp only [cmpS, h, wk, wk1]; simp only [h] at h1; rw [h1]; rfl

def rowsS (L : List ByteArray) : List (List PV) := L.map fun s => [pS s]
theorem rowsS_each (L : List ByteArray) : ∀ r ∈ rowsS L, r.length = 1 := fun r hr => by
  obtain ⟨s, _, rfl⟩ := List.mem_map.1 hr; rfl
theorem rowsS_cell (L : List ByteArray) : allCell (rowsS L).flatten = true := by
  unfold allCell rowsS
  rw [List.all_eq_true]
  intro x hx
  obtain ⟨r, hr, hx⟩ := List.mem_flatten.1 hx
  obtain ⟨s, _, rfl⟩ := List.mem_map.1 hr
  simp only [List.mem_singleton] at hx
  subst hx; rfl
@[simp] theorem rowsS_len (L : List ByteArray) : (rowsS L).length = L.length := by simp [rowsS]
theorem rowsS_at {L : List ByteArray} {i : Nat} (h : i < L.length) : (rowsS L)[Int.toNat (i : Int)]? = some [pS L[i]] := by
  rw [Int.toNat_natCast, rowsS, List.getElem?_map, List.getElem?_eq_getElem h]; rfl

abbrev tySet : TypeId := 119
abbrev tyName : TypeId := 106
abbrev NSet (μ : Mem) (b : Nat) (L : List ByteArray) (F : List Nat) : Prop := SetIn tySet tyName 1 μ b (rowsS L) F

theorem cFindL (b : Nat) (s : Bool) (L : List ByteArray) (hu : Up cmpS L) (hl : L.length ≤ 1000000) (x : ByteArray) : CallP Try.prog 98 [pP b 0, pS x] (M0.set b (some (.ro tySet [.list 1 .sh (rowsS L), pB s]))) fun p _ => ∃ (k : Nat) (t : Bool), p = .tup [pI k, pB t] ∧ FoundAt cmpS L x k t := by
  refine G_order_Set_shape_name_find.c ?_
  refine ⟨_, _, rdM_ro (Mem.set_same _ _ _) (by simp), ?_⟩
  have hrd : ∀ u, u = M0.set b (some (.ro tySet [.list 1 .sh (rowsS L), pB s])) → rdM u b 0 1 = some [.list 1 .sh (rowsS L)] := fun u h => by rw [h]; exact rdM_ro (Mem.set_same _ _ _) (by simp)
  rw [rowsS_len]
  refine LoopI.bin (n := L.length) (by omega) (fun i => if h : i < L.length then cmpS L[i] x else 1) (fun u => u = M0.set b (some (.ro tySet [.list 1 .sh (rowsS L), pB s]))) rfl ?_ ?_ ?_ ?_
  · intro i j hij hj h
    rw [dif_pos hj] at h
    rw [dif_pos (Nat.lt_trans hij hj)]
    exact hu.mono1 cmpS_ok hij hj h
  · intro i j hij hj h
    rw [dif_pos (Nat.lt_trans hij hj)] at h
    rw [dif_pos hj]
    exact hu.mono2 cmpS_ok hij hj h
  · intro lo hi mid u next hlt hhi hmid hmn hA h1 h2 h3
    subst hA
    rw [dif_pos hmn] at h1 h2 h3
    refine CIf.t (by simpa using hlt) ⟨by decide, ?_⟩
    refine ⟨_, _, hrd _ rfl, ?_⟩
    dsimp only
    rw [midE hlt (by omega), ← hmid]
    refine ⟨by omega, _, rowsS_at hmn, _, rfl, fun v => by kernel_rfl, (cNameCmp L[mid] x).call ⟨_, rfl, CIf.mk (fun h => ?_) (fun h => CIf.mk (fun h' => ?_) (fun h' => ?_))⟩⟩
    · have h0 : cmpS L[mid] x = 0 := by simpa using h
      refine ⟨mid, true, rfl, Nat.le_of_lt hmn, fun i hi hik => ?_, fun _ => ⟨hmn, (cmpS_zero).1 h0⟩, fun h => by cases h⟩
      have := h3 h0 i hik
      rw [dif_pos hi] at this; exact this
    · have h0 : cmpS L[mid] x < 0 := by simpa using h'
      have := h1 h0 _ rfl
      rw [wrap_id (by omega) (by omega)]
      exact this
    · have h0 : 0 < cmpS L[mid] x := by
        have a1 : cmpS L[mid] x ≠ 0 := by simpa using h
        have a2 : ¬ cmpS L[mid] x < 0 := by simpa using h'
        omega
      exact h2 h0 _ rfl
  · intro k u next hA hk h1 h2
    refine CIf.f (by simp) ?_
    refine ⟨k, false, rfl, hk, fun i hi hik => ?_, fun h => (by cases h), fun _ i hi hik => ?_⟩
    · have := h1 i hik; rw [dif_pos hi] at this; exact this
    · have := h2 i hik hi; rw [dif_pos hi] at this; exact this

theorem cFind {μ : Mem} {b : Nat} {L : List ByteArray} {F : List Nat} (h : NSet μ b L F) (hu : Up cmpS L) (hl : L.length ≤ 1000000) (x : ByteArray) {K : PV → Mem → Prop} (hk : ∀ (k : Nat) (t : Bool), FoundAt cmpS L x k t → K (.tup [pI k, pB t]) μ) : CallP Try.prog 98 [pP b 0, pS x] μ K :=
  SetIn.query h (fun s => cFindL b s L hu hl x) (fun p ⟨k, t, e, _⟩ => by rw [e]; rfl) fun p ⟨k, t, e, hf⟩ => by rw [e]; exact hk k t hf

theorem cPlace {μ : Mem} {b : Nat} {L : List ByteArray} {F : List Nat} (h : NSet μ b L F) (hu : Up cmpS L) (hl : L.length ≤ 1000000) (x : ByteArray) {K : PV → Mem → Prop} (hk : ∀ (k : Nat) (t : Bool), FoundAt cmpS L x k t → K (.tup [pI k, pB t]) μ) : CallP Try.prog 103 [pP b 0, pS x] μ K := by
  refine G_order_Set_shape_name_Place.c ?_
  exact CIf.f rfl (cFind h hu hl x fun k t hf => ⟨_, _, rfl, hk k t hf⟩)

theorem cOwn {μ : Mem} {b : Nat} {L : List ByteArray} {F : List Nat} (h : NSet μ b L F) (hl : L.length ≤ 1000000) {K : PV → Mem → Prop} (hk : ∀ μ' F', RawIn tySet tyName 1 μ' b (rowsS L) F' → Mv μ μ' F F' → K (.tup []) μ') : CallP Try.prog 99 [pP b 0] μ K := by
  obtain ⟨μ0, hG, hmv, hlies⟩ := h.raw
  refine CallP.pre hG (G_order_Set_shape_name_own.c ?_)
  rcases hlies with ⟨rfl, hm⟩ | hr
  · refine ⟨true, rdM_at hm (by simp), CIf.t rfl ?_⟩
    refine ⟨_, _, rdM_at hm (by simp), ?_⟩
    refine ⟨_, _, rdM_at hm (by simp), ?_⟩
    rw [rowsS_len, wrap_id (by omega) (by omega)]
    refine ⟨by omega, by omega, by omega, by omega, fun b13 hb13 => ?_⟩
    have hne : b13 ≠ b := by rintro rfl; rw [hm] at hb13; cases hb13
    have hn : Int.toNat ((L.length : Int) + 1) = L.length + 1 := by omega
    rw [hn]
    refine appR_new (Mem.set_same _ _ _) (by simp) (by simp) (rowsS_each L) (rowsS_cell L) (by simp; omega) (by simp; omega) ?_
    rw [Mem.set_set]
    refine ⟨_, _, by rw [Mem.set_ne _ _ (Ne.symm hne)]; exact hm, by simp, ?_⟩
    refine ⟨_, _, Mem.set_same _ _ _, by simp [wrL], ?_⟩
    rw [Mem.set_set]
    refine hk _ [b, b13] (.inr ⟨b13, L.length + 1, _, rfl, hne, by rw [Mem.set_same]; rfl, by rw [Mem.set_ne _ _ hne, Mem.set_same], by simp, by simp⟩) (hmv.trans ?_)
    exact ((Mv.set (F := [b]) (.inr hb13)).trans (Mv.set (.inl (by simp)))).sub (by simp)
  · obtain ⟨a, c, hm, _⟩ := hr.app (rowsS_each L)
    exact ⟨false, rdM_at hm (by simp), CIf.f rfl (hk μ0 F hr hmv)⟩

theorem rowsS_ins (L : List ByteArray) (j : Nat) (y : ByteArray) : rowsS (L.take j ++ y :: L.drop j) = (rowsS L).take j ++ [pS y] :: (rowsS L).drop j := by
  simp [rowsS, List.map_take, List.map_drop]

theorem insLen (L : List ByteArray) (j : Nat) (y : ByteArray) : (L.take j ++ y :: L.drop j).length = L.length + 1 := by
  rw [List.length_append, List.length_cons, List.length_take, List.length_drop]; omega

/-- One step of making room. -/
theorem insStep (L : List ByteArray) (j : Nat) (y : ByteArray) (h0 : 0 < j) (hj : j ≤ L.length) : (rowsS (L.take j ++ y :: L.drop j)).set j [pS (L[j - 1]'(by omega))] = rowsS (L.take (j - 1) ++ (L[j - 1]'(by omega)) :: L.drop (j - 1)) := by
  have e : L.drop (j - 1) = L[j - 1]'(by omega) :: L.drop j := by
    rw [List.drop_eq_getElem_cons (by omega)]; congr 2; omega
  have e2 : L.take j = L.take (j - 1) ++ [L[j - 1]'(by omega)] := by
    have := List.take_add_one (l := L) (i := j - 1)
    rw [show j - 1 + 1 = j by omega, List.getElem?_eq_getElem (by omega)] at this
    exact this
  have hlen : (L.take j).length = j := by rw [List.length_take]; omega
  unfold rowsS
  rw [List.map_append, List.map_cons, List.set_append_right _ _ (by simp; omega)]
  simp only [List.length_map, hlen, Nat.sub_self, List.set_cons_zero]
  rw [e2, e, List.map_append, List.append_assoc, List.map_append]
  rfl

theorem insEnd (L : List ByteArray) (j : Nat) (x y : ByteArray) (hj : j ≤ L.length) : (rowsS (L.take j ++ y :: L.drop j)).set j [pS x] = rowsS (L.take j ++ x :: L.drop j) := by
  have hlen : (L.take j).length = j := by rw [List.length_take]; omega
  unfold rowsS
  rw [List.map_append, List.map_cons, List.set_append_right _ _ (by simp; omega)]
  simp only [List.length_map, hlen, Nat.sub_self, List.set_cons_zero]
  rw [List.map_append, List.map_cons]

theorem insAt (L : List ByteArray) (j : Nat) (y : ByteArray) (h0 : 0 < j) (hj : j ≤ L.length) : (rowsS (L.take j ++ y :: L.drop j))[j - 1]? = some [pS (L[j - 1]'(by omega))] := by
  unfold rowsS
  rw [List.getElem?_map, List.getElem?_append_left (by rw [List.length_take]; omega), List.getElem?_take, if_pos (by omega), List.getElem?_eq_getElem (by omega)]
  rfl

theorem cPut {μ : Mem} {b : Nat} {L : List ByteArray} {F : List Nat} (h : NSet μ b L F) (hu : Up cmpS L) (hl : L.length ≤ 999999) (x : ByteArray) {K : PV → Mem → Prop}
    (hk : ∀ μ' L' F' (t : Bool), (t = true ↔ x ∉ L) → NSet μ' b L' F' → Up cmpS L' → (∀ y, y ∈ L' ↔ y = x ∨ y ∈ L) → L'.length ≤ L.length + t.toNat → Mv μ μ' F F' → K (pB t) μ') : CallP Try.prog 90 [pP b 0, pS x] μ K := by
  refine G_order_Set_shape_name_Put.c ?_
  refine CIf.f rfl (cFind h hu (by omega) x fun k t hf => ⟨_, _, rfl, CIf.mk (fun ht => ?_) (fun ht => ?_)⟩)
  · have hx : x ∈ L := (hf.mem cmpS_ok).1 ht
    exact hk μ L F false ⟨fun h => (by cases h), fun h => absurd hx h⟩ h hu (fun y => ⟨fun h => .inr h, fun h => h.elim (fun e => e ▸ hx) id⟩) (by simp) (Mv.refl _ _)
  · subst ht
    have hx : x ∉ L := fun hx => by have := (hf.mem cmpS_ok).2 hx; cases this
    refine cOwn h (by omega) fun μ1 F1 hr hm1 => ⟨rfl, ?_⟩
    obtain ⟨a, c, hb, happ⟩ := hr.app (rowsS_each L)
    refine ⟨_, _, _, rdM_at hb (by simp), ?_⟩
    simp only [rowsS_len] at happ
    rw [rowsS_len]
    refine happ [pS x] 16 _ rfl rfl (by omega) (by omega) fun b' c' rest μ2 hne e2 hb' hrest hc' hm2 => ?_
    refine ⟨_, _, e2.trans hb, by simp, ?_⟩
    refine ⟨_, _, _, rdM_at (Mem.set_same _ _ _) (by simp [wrL]), ?_⟩
    have hn1 : IntKind.wrap .i64 (((L.length + 1 : Nat) : Int) - 1) = (L.length : Int) := by rw [wrap_id (by omega) (by omega)]; omega
    rw [hn1]
    have hsl : wrL [.raw (.slice a L.length c), pB false] 0 [PV.raw (.slice (some ⟨b', 0, none⟩) (L.length + 1) c')] = [.raw (.slice (some ⟨b', 0, none⟩) (L.length + 1) c'), pB false] := rfl
    refine LoopI.down hf.le (by omega) (fun j u => ∃ y, u b = some (.cells tySet [.raw (.slice (some ⟨b', 0, none⟩) (L.length + 1) c'), pB false]) ∧ u b' = some (.cells tyName ((rowsS (L.take j ++ y :: L.drop j)).flatten ++ rest)) ∧ Mv μ2 u [b, b'] [b, b']) ⟨x, ?_, ?_, ?_⟩ ?_ ?_
    · rw [Mem.set_same]; rfl
    · rw [Mem.set_ne _ _ hne, hb', List.take_length, List.drop_length]
      simp [rowsS]
    · exact (Mv.set (.inl (by simp))).sub (by simp)
    · rintro j u next hkj hjn ⟨y, i1, i2, i3⟩ hnext
      refine CIf.t (by simpa using hkj) ?_
      refine ⟨_, _, _, rdM_at i1 (by simp), ?_⟩
      refine ⟨_, _, _, rdM_at i1 (by simp), ?_⟩
      have hj1 : IntKind.wrap .i64 ((j : Int) - 1) = ((j - 1 : Nat) : Int) := by rw [wrap_id (by omega) (by omega)]; omega
      refine ⟨by rw [hj1]; omega, by rw [hj1]; omega, L[j - 1]'(by omega), ?_, ?_⟩
      · rw [hj1, Int.toNat_natCast, Nat.zero_add]
        exact rdRow (rowsS_each _) i2 (insAt L j y (by omega) hjn)
      · refine ⟨by omega, by omega, _, _, i2, ?_, hnext _ ⟨L[j - 1]'(by omega), ?_, ?_, ?_⟩⟩
        · have hfl := flatLen (rowsS_each (L.take j ++ y :: L.drop j))
          rw [rowsS_len, insLen] at hfl
          rw [List.length_append, hfl, Int.toNat_natCast, List.length_singleton]; omega
        · rw [Mem.set_ne _ _ (Ne.symm hne)]; exact i1
        · rw [Mem.set_same, Int.toNat_natCast, Nat.zero_add, wrRow (rowsS_each _) (by rw [rowsS_len, insLen]; omega) rfl, insStep L j y (by omega) hjn]
        · exact (i3.trans (Mv.set (.inl (by simp)))).sub (by simp)
    · rintro u next ⟨y, i1, i2, i3⟩
      refine CIf.f (by simp) ?_
      refine ⟨_, _, _, rdM_at i1 (by simp), ?_⟩
      have hle := hf.le
      refine ⟨by omega, by omega, _, _, i2, ?_, ?_⟩
      · have hfl := flatLen (rowsS_each (L.take k ++ y :: L.drop k))
        rw [rowsS_len, insLen] at hfl
        rw [List.length_append, hfl, Int.toNat_natCast, List.length_singleton]; omega
      · rw [Int.toNat_natCast, Nat.zero_add, wrRow (rowsS_each _) (by rw [rowsS_len, insLen]; omega) rfl, insEnd L k x y hf.le]
        refine hk (u.set b' (some (.cells tyName ((rowsS (L.take k ++ x :: L.drop k)).flatten ++ rest)))) (L.take k ++ x :: L.drop k) [b, b'] true ⟨fun _ => hx, fun _ => rfl⟩ ⟨rowsS_each _, rowsS_cell _, .inr (.inr (.inr ⟨b', c', rest, rfl, hne, ?_, Mem.set_same _ _ _, ?_, ?_⟩))⟩ (hf.put cmpS_ok hu) (fun y => FoundAt.memPut) (by rw [insLen]; simp) ?_
        · rw [Mem.set_ne _ _ (Ne.symm hne), i1, rowsS_len, insLen]
        · rw [rowsS_len, insLen]; exact hrest
        · rw [rowsS_len, insLen]; exact hc'
        · exact hm1.trans (hm2.trans ((i3.trans (Mv.set (.inl (by simp)))).sub (by simp)))

theorem cClone {μ : Mem} {b : Nat} {L : List ByteArray} {F : List Nat} (h : NSet μ b L F) {K : PV → Mem → Prop} (hk : ∀ μ' b', (b' ∈ F ∨ μ b' = none) → b' ≠ b → NSet μ' b L [b] → NSet μ' b' L [b'] → Mv μ μ' F [b', b] → K (pP b' 0) μ') : CallP Try.prog 100 [pP b 0] μ K := by
  obtain ⟨μ0, s, hG, hm, hmv⟩ := h.list
  refine CallP.pre hG (G_order_Set_shape_name_Clone.c ?_)
  refine CIf.f rfl ?_
  refine ⟨_, _, hm, by simp, ?_⟩
  refine ⟨_, _, rdM_at (Mem.set_same _ _ _) (by simp [wrL]), fun b' hb' => ?_⟩
  have hne : b' ≠ b := by rintro rfl; rw [Mem.set_same] at hb'; cases hb'
  have hb0 := hb'
  rw [Mem.set_ne _ _ hne] at hb0
  have hm2 : Mv μ (((μ0.set b (some (.cells tySet (wrL [.list 1 .sh (rowsS L), pB s] (0 + 1) [pB true])))).set b' (some (.cells tySet [.list 1 .sh (rowsS L), pB true])))) F [b', b] := (hmv.trans ((Mv.set (.inl (by simp))).trans (Mv.set (.inr hb')))).sub (by simp)
  refine hk _ b' (hm2.grow b' (by simp)) hne ⟨rowsS_each L, rowsS_cell L, .inl ⟨rfl, ?_⟩⟩ ⟨rowsS_each L, rowsS_cell L, .inl ⟨rfl, Mem.set_same _ _ _⟩⟩ hm2
  rw [Mem.set_ne _ _ (Ne.symm hne), Mem.set_same]; rfl

theorem cNew {μ : Mem} (fl : Fl) {K : PV → Mem → Prop} (hk : ∀ μ' b, μ b = none → NSet μ' b [] [b] → Mv μ μ' [] [b] → K (pP b 0) μ') : CallP Try.prog 75 [.list 1 fl []] μ K := by
  refine G_order_New_shape_name.c ?_
  intro b hb
  refine LoopI.each (n := 0) (by omega) (fun _ u => u = μ.set b (some (.cells tySet [.list 1 .nil [], pB false]))) rfl (fun k u next hk' => by omega) ?_
  rintro u next rfl
  refine CIf.f (by simp) (hk _ b hb ⟨rowsS_each [], rowsS_cell [], .inr (.inl ⟨rfl, rfl, Mem.set_same _ _ _⟩)⟩ ((Mv.set (.inr hb)).sub (by simp)))

end Go.Proofs.Ytfjemjnbemdkgaa
