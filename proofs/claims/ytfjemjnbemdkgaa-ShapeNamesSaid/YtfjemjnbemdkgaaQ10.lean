import Derived.Test.YtfjemjnbemdkgaaQ09
import Derived.KernelRfl
/-
  Sets of names.
-/
namespace Go.Proofs.Ytfjemjnbemdkgaa
open Go.Eng Go.RowKit
set_option linter.unusedVariables false
set_option linter.unusedSimpArgs false
set_option linter.unnecessarySimpa false

theorem cNameCmp (a b : ByteArray) : Pure Try.prog 124 [pS a, pS b] (pI (cmpS a b)) := by
  refine PureK.of (G_shape_name_Compare.c ?_)
  refine CIf.mk (fun h => ?_) (fun h => CIf.mk (fun h1 => ?_) (fun h1 => ?_))
  · simp [cmpS, h, wk, wk1]
  · simp only [cmpS, h, wk, wk1]; simp only [h] at h1; rw [h1]; rfl
  · simp only [cmpS, h, wk, wk1]; simp only [h] at h1; rw [h1]; rfl

def rowsS (L : List ByteArray) : List (List PV) := L.map fun s => [pS s]
theorem rowsS_each (L : List ByteArray) : ∀ r ∈ rowsS L, r.length = 1 := fun r hr => by
  obtain ⟨s, _, rfl⟩ := List.mem_map.1 hr; rfl
theorem rowsS_cell (L : List ByteArray) : allCell (rowsS L).flatten = true := by
  unfold allCell rowsS
  rw [List.all_eq_true]
  intro x hx
  obtain ⟨r, hr, hx⟩ := List.mem_flatten.1 hx
  obtain ⟨s, _, rfl⟩ := List.mem_map.1 hr
  simp only [List.mem_singleton] at hx
  subst hx; rfl
@[simp] theorem rowsS_len (L : List ByteArray) : (rowsS L).length = L.length := by simp [rowsS]
theorem rowsS_at {L : List ByteArray} {i : Nat} (h : i < L.length) : (rowsS L)[Int.toNat (i : Int)]? = some [pS L[i]] := by
  rw [Int.toNat_natCast, rowsS, List.getElem?_map, List.getElem?_eq_getElem h]; rfl

abbrev tySet : TypeId := 119
abbrev tyName : TypeId := 106
abbrev NSet (μ : Mem) (b : Nat) (L : List ByteArray) (F : List Nat) : Prop := SetIn tySet tyName 1 μ b (rowsS L) F

theorem cFindL (b : Nat) (s : Bool) (L : List ByteArray) (hu : Up cmpS L) (hl : L.length ≤ 1000000) (x : ByteArray) : CallP Try.prog 98 [pP b 0, pS x] (M0.set b (some (.ro tySet [.list 1 .sh (rowsS L), pB s]))) fun p _ => ∃ (k : Nat) (t : Bool), p = .tup [pI k, pB t] ∧ FoundAt cmpS L x k t := by
  refine G_order_Set_shape_name_find.c ?_
  refine ⟨_, _, rdM_ro (Mem.set_same _ _ _) (by simp), ?_⟩
  have hrd : ∀ u, u = M0.set b (some (.ro tySet [.list 1 .sh (rowsS L), pB s])) → rdM u b 0 1 = some [.list 1 .sh (rowsS L)] := fun u h => by rw [h]; exact rdM_ro (Mem.set_same _ _ _) (by simp)
  rw [rowsS_len]
  refine LoopI.bin (n := L.length) (by omega) (fun i => if h : i < L.length then cmpS L[i] x else 1) (fun u => u = M0.set b (some (.ro tySet [.list 1 .sh (rowsS L), pB s]))) rfl ?_ ?_ ?_ ?_
  · intro i j hij hj h
    rw [dif_pos hj] at h
    rw [dif_pos (Nat.lt_trans hij hj)]
    exact hu.mono1 cmpS_ok hij hj h
  · intro i j hij hj h
    rw [dif_pos (Nat.lt_trans hij hj)] at h
    rw [dif_pos hj]
    exact hu.mono2 cmpS_ok hij hj h
  · intro lo hi mid u next hlt hhi hmid hmn hA h1 h2 h3
    subst hA
    rw [dif_pos hmn] at h1 h2 h3
    refine CIf.t (by simpa using hlt) ⟨by decide, ?_⟩
    refine ⟨_, _, hrd _ rfl, ?_⟩
    dsimp only
    rw [midE hlt (by omega), ← hmid]
    refine ⟨by omega, _, rowsS_at hmn, _, rfl, fun v => by kernel_rfl, (cNameCmp L[mid] x).call ⟨_, rfl, CIf.mk (fun h => ?_) (fun h => CIf.mk (fun h' => ?_) (fun h' => ?_))⟩⟩
    · have h0 : cmpS L[mid] x = 0 := by simpa using h
      refine ⟨mid, true, rfl, Nat.le_of_lt hmn, fun i hi hik => ?_, fun _ => ⟨hmn, (cmpS_zero).1 h0⟩, fun h => by cases h⟩
      have := h3 h0 i hik
      rw [dif_pos hi] at this; exact this
    · have h0 : cmpS L[mid] x < 0 := by simpa using h'
      have := h1 h0 _ rfl
      rw [wrap_id (by omega) (by omega)]
      exact this
    · have h0 : 0 < cmpS L[mid] x := by
        have a1 : cmpS L[mid] x ≠ 0 := by simpa using h
        have a2 : ¬ cmpS L[mid] x < 0 := by simpa using h'
        omega
      exact h2 h0 _ rfl
  · intro k u next hA hk h1 h2
    refine CIf.f (by simp) ?_
    refine ⟨k, false, rfl, hk, fun i hi hik => ?_, fun h => (by cases h), fun _ i hi hik => ?_⟩
    · have := h1 i hik; rw [dif_pos hi] at this; exact this
    · have := h2 i hik hi; rw [dif_pos hi] at this; exact this

theorem cFind {μ : Mem} {b : Nat} {L : List ByteArray} {F : List Nat} (h : NSet μ b L F) (hu : Up cmpS L) (hl : L.length ≤ 1000000) (x : ByteArray) {K : PV → Mem → Prop} (hk : ∀ (k : Nat) (t : Bool), FoundAt cmpS L x k t → K (.tup [pI k, pB t]) μ) : CallP Try.prog 98 [pP b 0, pS x] μ K :=
  SetIn.query h (fun s => cFindL b s L hu hl x) (fun p ⟨k, t, e, _⟩ => by rw [e]; rfl) fun p ⟨k, t, e, hf⟩ => by rw [e]; exact hk k t hf

theorem cPlace {μ : Mem} {b : Nat} {L : List ByteArray} {F : List Nat} (h : NSet μ b L F) (hu : Up cmpS L) (hl : L.length ≤ 1000000) (x : ByteArray) {K : PV → Mem → Prop} (hk : ∀ (k : Nat) (t : Bool), FoundAt cmpS L x k t → K (.tup [pI k, pB t]) μ) : CallP Try.prog 103 [pP b 0, pS x] μ K := by
  refine G_order_Set_shape_name_Place.c ?_
  exact CIf.f rfl (cFind h hu hl x fun k t hf => ⟨_, _, rfl, hk k t hf⟩)

theorem cOwn {μ : Mem} {b : Nat} {L : List ByteArray} {F : List Nat} (h : NSet μ b L F) (hl : L.length ≤ 1000000) {K : PV → Mem → Prop} (hk : ∀ μ' F', RawIn tySet tyName 1 μ' b (rowsS L) F' → Mv μ μ' F F' → K (.tup []) μ') : CallP Try.prog 99 [pP b 0] μ K := by
  obtain ⟨μ0, hG, hmv, hlies⟩ := h.raw
  refine CallP.pre hG (G_order_Set_shape_name_own.c ?_)
  rcases hlies with ⟨rfl, hm⟩ | hr
  · refine ⟨true, rdM_at hm (by simp), CIf.t rfl ?_⟩
    refine ⟨_, _, rdM_at hm (by simp), ?_⟩
    refine ⟨_, _, rdM_at hm (by simp), ?_⟩
    rw [rowsS_len, wrap_id (by omega) (by omega)]
    refine ⟨by omega, by omega, by omega, by omega, fun b13 hb13 => ?_⟩
    have hne : b13 ≠ b := by rintro rfl; rw [hm] at hb13; cases hb13
    have hn : Int.toNat ((L.length : Int) + 1) = L.length + 1 := by omega
    rw [hn]
    refine appR_new (Mem.set_same _ _ _) (by simp) (by simp) (rowsS_each L) (rowsS_cell L) (by simp; omega) (by simp; omega) ?_
    rw [Mem.set_set]
    refine ⟨_, _, by rw [Mem.set_ne _ _ (Ne.symm hne)]; exact hm, by simp, ?_⟩
    refine ⟨_, _, Mem.set_same _ _ _, by simp [wrL], ?_⟩
    rw [Mem.set_set]
    refine hk _ [b, b13] (.inr ⟨b13, L.length + 1, _, rfl, hne, by rw [Mem.set_same]; rfl, by rw [Mem.set_ne _ _ hne, Mem.set_same], by simp, by simp⟩) (hmv.trans ?_)
    exact ((Mv.set (F := [b]) (.inr hb13)).trans (Mv.set (.inl (by simp)))).sub (by simp)
  · obtain ⟨a, c, hm, _⟩ := hr.app (rowsS_each L)
    exact ⟨false, rdM_at hm (by simp), CIf.f rfl (hk μ0 F hr hmv)⟩

theorem rowsS_ins (L : List ByteArray) (j : Nat) (y : ByteArray) : rowsS (L.take j ++ y :: L.drop j) = (rowsS L).take j ++ [pS y] :: (rowsS L).drop j := by
  simp [rowsS, List.map_take, List.map_drop]

theorem insLen (L : List ByteArray) (j : Nat) (y : ByteArray) : (L.take j ++ y :: L.drop j).length = L.length + 1 := by
  rw [List.length_append, List.length_cons, List.length_take, List.length_drop]; omega

/-- One step of making room. -/
theorem insStep (L : List ByteArray) (j : Nat) (y : ByteArray) (h0 : 0 < j) (hj : j ≤ L.length) : (rowsS (L.take j ++ y :: L.drop j)).set j [pS (L[j - 1]'(by omega))] = rowsS (L.take (j - 1) ++ (L[j - 1]'(by omega)) :: L.drop (j - 1)) := by
  have e : L.drop (j - 1) = L[j - 1]'(by omega) :: L.drop j := by
    rw [List.drop_eq_getElem_cons (by omega)]; congr 2; omega
  have e2 : L.take j = L.take (j - 1) ++ [L[j - 1]'(by omega)] := by
    have := List.take_add_one (l := L) (i := j - 1)
    rw [show j - 1 + 1 = j by omega, List.getElem?_eq_getElem (by omega)] at this
    exact this
  have hlen : (L.take j).length = j := by rw [List.length_take]; omega
  unfold rowsS
  rw [List.map_append, List.map_cons, List.set_append_right _ _ (by simp; omega)]
  simp only [List.length_map, hlen, Nat.sub_self, List.set_cons_zero]
  rw [e2, e, List.map_append, List.append_assoc, List.map_append]
  rfl

theorem insEnd (L : List ByteArray) (j : Nat) (x y : ByteArray) (hj : j ≤ L.length) : (rowsS (L.take j ++ y :: L.drop j)).set j [pS x] = rowsS (L.take j ++ x :: L.drop j) := by
  have hlen : (L.take j).length = j := by rw [List.length_take]; omega
  unfold rowsS
  rw [List.map_append, List.map_cons, List.set_append_right _ _ (by simp; omega)]
  simp only [List.length_map, hlen, Nat.sub_self, List.set_cons_zero]
  rw [List.map_append, List.map_cons]

theorem insAt (L : List ByteArray) (j : Nat) (y : ByteArray) (h0 : 0 < j) (hj : j ≤ L.length) : (rowsS (L.take j ++ y :: L.drop j))[j - 1]? = some [pS (L[j - 1]'(by omega))] := by
  unfold rowsS
  rw [List.getElem?_map, List.getElem?_append_left (by rw [List.length_take]; omega), List.getElem?_take, if_pos (by omega), List.getElem?_eq_getElem (by omega)]
  rfl

theorem cPut {μ : Mem} {b : Nat} {L : List ByteArray} {F : List Nat} (h : NSet μ b L F) (hu : Up cmpS L) (hl : L.length ≤ 999999) (x : ByteArray) {K : PV → Mem → Prop}
    (hk : ∀ μ' L' F' (t : Bool), (t = true ↔ x ∉ L) → NSet μ' b L' F' → Up cmpS L' → (∀ y, y ∈ L' ↔ y = x ∨ y ∈ L) → L'.length ≤ L.length + t.toNat → Mv μ μ' F F' → K (pB t) μ') : CallP Try.prog 90 [pP b 0, pS x] μ K := by
  refine G_order_Set_shape_name_Put.c ?_
  refine CIf.f rfl (cFind h hu (by omega) x fun k t hf => ⟨_, _, rfl, CIf.mk (fun ht => ?_) (fun ht => ?_)⟩)
  · have hx : x ∈ L := (hf.mem cmpS_ok).1 ht
    exact hk μ L F false ⟨fun h => (by cases h), fun h => absurd hx h⟩ h hu (fun y => ⟨fun h => .inr h, fun h => h.elim (fun e => e ▸ hx) id⟩) (by simp) (Mv.refl _ _)
  · subst ht
    have hx : x ∉ L := fun hx => by have := (hf.mem cmpS_ok).2 hx; cases this
    refine cOwn h (by omega) fun μ1 F1 hr hm1 => ⟨rfl, ?_⟩
    obtain ⟨a, c, hb, happ⟩ := hr.app (rowsS_each L)
    refine ⟨_, _, _, rdM_at hb (by simp), ?_⟩
    simp only [rowsS_len] at happ
    rw [rowsS_len]
    refine happ [pS x] 16 _ rfl rfl (by omega) (by omega) fun b' c' rest μ2 hne e2 hb' hrest hc' hm2 => ?_
    refine ⟨_, _, e2.trans hb, by simp, ?_⟩
    refine ⟨_, _, _, rdM_at (Mem.set_same _ _ _) (by simp [wrL]), ?_⟩
    have hn1 : IntKind.wrap .i64 (((L.length + 1 : Nat) : Int) - 1) = (L.length : Int) := by rw [wrap_id (by omega) (by omega)]; omega
    rw [hn1]
    have hsl : wrL [.raw (.slice a L.length c), pB false] 0 [PV.raw (.slice (some ⟨b', 0, none⟩) (L.length + 1) c')] = [.raw (.slice (some ⟨b', 0, none⟩) (L.length + 1) c'), pB false] := rfl
    refine LoopI.down hf.le (by omega) (fun j u => ∃ y, u b = some (.cells tySet [.raw (.slice (some ⟨b', 0, none⟩) (L.length + 1) c'), pB false]) ∧ u b' = some (.cells tyName ((rowsS (L.take j ++ y :: L.drop j)).flatten ++ rest)) ∧ Mv μ2 u [b, b'] [b, b']) ⟨x, ?_, ?_, ?_⟩ ?_ ?_
    · rw [Mem.set_same]; rfl
    · rw [Mem.set_ne _ _ hne, hb', List.take_length, List.drop_length]
      simp [rowsS]
    · exact (Mv.set (.inl (by simp))).sub (by simp)
    · rintro j u next hkj hjn ⟨y, i1, i2, i3⟩ hnext
      refine CIf.t (by simpa using hkj) ?_
      refine ⟨_, _, _, rdM_at i1 (by simp), ?_⟩
      refine ⟨_, _, _, rdM_at i1 (by simp), ?_⟩
      have hj1 : IntKind.wrap .i64 ((j : Int) - 1) = ((j - 1 : Nat) : Int) := by rw [wrap_id (by omega) (by omega)]; omega
      refine ⟨by rw [hj1]; omega, by rw [hj1]; omega, L[j - 1]'(by omega), ?_, ?_⟩
      · rw [hj1, Int.toNat_natCast, Nat.zero_add]
        exact rdRow (rowsS_each _) i2 (insAt L j y (by omega) hjn)
      · refine ⟨by omega, by omega, _, _, i2, ?_, hnext _ ⟨L[j - 1]'(by omega), ?_, ?_, ?_⟩⟩
        · have hfl := flatLen (rowsS_each (L.take j ++ y :: L.drop j))
          rw [rowsS_len, insLen] at hfl
          rw [List.length_append, hfl, Int.toNat_natCast, List.length_singleton]; omega
        · rw [Mem.set_ne _ _ (Ne.symm hne)]; exact i1
        · rw [Mem.set_same, Int.toNat_natCast, Nat.zero_add, wrRow (rowsS_each _) (by rw [rowsS_len, insLen]; omega) rfl, insStep L j y (by omega) hjn]
        · exact (i3.trans (Mv.set (.inl (by simp)))).sub (by simp)
    · rintro u next ⟨y, i1, i2, i3⟩
      refine CIf.f (by simp) ?_
      refine ⟨_, _, _, rdM_at i1 (by simp), ?_⟩
      have hle := hf.le
      refine ⟨by omega, by omega, _, _, i2, ?_, ?_⟩
      · have hfl := flatLen (rowsS_each (L.take k ++ y :: L.drop k))
        rw [rowsS_len, insLen] at hfl
        rw [List.length_append, hfl, Int.toNat_natCast, List.length_singleton]; omega
      · rw [Int.toNat_natCast, Nat.zero_add, wrRow (rowsS_each _) (by rw [rowsS_len, insLen]; omega) rfl, insEnd L k x y hf.le]
        refine hk (u.set b' (some (.cells tyName ((rowsS (L.take k ++ x :: L.drop k)).flatten ++ rest)))) (L.take k ++ x :: L.drop k) [b, b'] true ⟨fun _ => hx, fun _ => rfl⟩ ⟨rowsS_each _, rowsS_cell _, .inr (.inr (.inr ⟨b', c', rest, rfl, hne, ?_, Mem.set_same _ _ _, ?_, ?_⟩))⟩ (hf.put cmpS_ok hu) (fun y => FoundAt.memPut) (by rw [insLen]; simp) ?_
        · rw [Mem.set_ne _ _ (Ne.symm hne), i1, rowsS_len, insLen]
        · rw [rowsS_len, insLen]; exact hrest
        · rw [rowsS_len, insLen]; exact hc'
        · exact hm1.trans (hm2.trans ((i3.trans (Mv.set (.inl (by simp)))).sub (by simp)))

theorem cClone {μ : Mem} {b : Nat} {L : List ByteArray} {F : List Nat} (h : NSet μ b L F) {K : PV → Mem → Prop} (hk : ∀ μ' b', (b' ∈ F ∨ μ b' = none) → b' ≠ b → NSet μ' b L [b] → NSet μ' b' L [b'] → Mv μ μ' F [b', b] → K (pP b' 0) μ') : CallP Try.prog 100 [pP b 0] μ K := by
  obtain ⟨μ0, s, hG, hm, hmv⟩ := h.list
  refine CallP.pre hG (G_order_Set_shape_name_Clone.c ?_)
  refine CIf.f rfl ?_
  refine ⟨_, _, hm, by simp, ?_⟩
  refine ⟨_, _, rdM_at (Mem.set_same _ _ _) (by simp [wrL]), fun b' hb' => ?_⟩
  have hne : b' ≠ b := by rintro rfl; rw [Mem.set_same] at hb'; cases hb'
  have hb0 := hb'
  rw [Mem.set_ne _ _ hne] at hb0
  have hm2 : Mv μ (((μ0.set b (some (.cells tySet (wrL [.list 1 .sh (rowsS L), pB s] (0 + 1) [pB true])))).set b' (some (.cells tySet [.list 1 .sh (rowsS L), pB true])))) F [b', b] := (hmv.trans ((Mv.set (.inl (by simp))).trans (Mv.set (.inr hb')))).sub (by simp)
  refine hk _ b' (hm2.grow b' (by simp)) hne ⟨rowsS_each L, rowsS_cell L, .inl ⟨rfl, ?_⟩⟩ ⟨rowsS_each L, rowsS_cell L, .inl ⟨rfl, Mem.set_same _ _ _⟩⟩ hm2
  rw [Mem.set_ne _ _ (Ne.symm hne), Mem.set_same]; rfl

theorem cNew {μ : Mem} (fl : Fl) {K : PV → Mem → Prop} (hk : ∀ μ' b, μ b = none → NSet μ' b [] [b] → Mv μ μ' [] [b] → K (pP b 0) μ') : CallP Try.prog 75 [.list 1 fl []] μ K := by
  refine G_order_New_shape_name.c ?_
  intro b hb
  refine LoopI.each (n := 0) (by omega) (fun _ u => u = μ.set b (some (.cells tySet [.list 1 .nil [], pB false]))) rfl (fun k u next hk' => by omega) ?_
  rintro u next rfl
  refine CIf.f (by simp) (hk _ b hb ⟨rowsS_each [], rowsS_cell [], .inr (.inl ⟨rfl, rfl, Mem.set_same _ _ _⟩)⟩ ((Mv.set (.inr hb)).sub (by simp)))

end Go.Proofs.Ytfjemjnbemdkgaa

/-
  Productions that may be: contracts of the small functions.
-/
namespace Go.Proofs.Ytfjemjnbemdkgaa
open Go.Eng Go.RowKit
set_option linter.unusedVariables false
set_option linter.unusedSimpArgs false
set_option linter.unnecessarySimpa false

theorem cNone (s : Sym) : Pure Try.prog 85 [.agg s.pv] (pB (noneB s)) := PureK.of (G_shape_none.c rfl)

theorem cEmpty (a : Atom) : Pure Try.prog 70 [.agg a.pv] (pB (emptyB a)) := by
  refine PureK.of (G_shape_empty.c ?_)
  refine CIf.mk (fun h => (cNone a.sym).call ⟨_, rfl, ?_⟩) (fun h => ?_) <;> simp_all [emptyB, wk, wk1]

theorem cConst (s : Sym) : Pure Try.prog 60 [.agg s.pv] (pB (constB s)) := by
  refine PureK.of (G_shape_constant.c ?_)
  refine CIf.mk (fun h => (cValid s).call ⟨_, rfl, ?_⟩) (fun h => ?_) <;> simp_all [constB, wk, wk1]

theorem cAtom (a : Atom) : Pure Try.prog 67 [.agg a.pv] (pB (atomB a)) := by
  refine PureK.of (G_shape_atom.c ?_)
  refine CIf.mk (fun h => (cWord a.var).call ⟨_, rfl, CIf.mk (fun h2 => (cNone a.sym).call ⟨_, rfl, ?_⟩) (fun h2 => ?_)⟩) (fun h => (cConst a.sym).call ⟨_, rfl, ?_⟩) <;> simp_all [atomB, noneB, wk, wk1]

theorem cRefAtom (a : Atom) : Pure Try.prog 73 [.agg a.pv] (pB (atomB a)) := by
  refine PureK.of (G_ponderref06_atom.c ?_)
  refine CIf.mk (fun h => (cRefWord a.var).call ⟨_, rfl, CIf.mk (fun h2 => ?_) (fun h2 => ?_)⟩) (fun h => (cRefConst a.sym).call ⟨_, rfl, ?_⟩) <;> simp_all [atomB, noneB, wk, wk1]

/-- All of a list, asked one by one. -/
theorem allLoop {T : Type} {f : FuncId} {p : T → Bool} {l : List T} {n : Nat} {body : (Int → Mem → Prop) → Int → Mem → Prop} {u : Mem} (hl : l.length = n) (hn : n < 9223372036854775808) (hno : l.all p = false → ∀ u next, False → body next 0 u)
    (hin : ∀ (k : Nat) (hk : k < l.length) (u : Mem) (next : Int → Mem → Prop), (p l[k] = true → ∀ u', next (IntKind.wrap .i64 ((k : Int) + 1)) u') → (p l[k] = false → l.all p = false) → body next (k : Int) u) (hout : ∀ (u : Mem) (next : Int → Mem → Prop), l.all p = true → body next (n : Int) u) : LoopI body 0 u := by
  refine LoopI.each (n := n) hn (fun k u => (l.take k).all p = true) (by simp) ?_ ?_
  · intro k u next hk hg hnext
    have hk' : k < l.length := by omega
    exact hin k hk' u next (fun hp u' => hnext u' (by rw [allTake hk' hg]; exact hp)) (fun hp => allMiss hk' hp)
  · intro u next hg
    rw [← hl, List.take_length] at hg
    exact hout u next hg

theorem cTest (fl : Fl) (t : Test) (ht : t.list.length ≤ 1000000) : Pure Try.prog 84 [.agg [pI t.rel, pS t.var, pI t.sym.k, pS t.sym.t, pI t.sym.n, .list 3 fl (t.list.map Sym.pv)]] (pB (testB t)) := by
  refine PureK.of (G_shape_test.c ?_)
  refine CIf.mk (fun h8 => ?_) (fun h8 => ?_)
  · refine CIf.mk (fun h1 => ?_) (fun h1 => (cNone t.sym).call ⟨_, rfl, CIf.mk (fun h2 => ?_) (fun h2 => CIf.mk (fun h3 => ?_) (fun h3 => CIf.mk (fun h4 => ?_) (fun h4 => ?_)))⟩)
    · simp [testB, h8, nb h1, wk, wk1]
    · simp [testB, h8, nb h2, wk, wk1]
    · have : ¬ 1 ≤ t.list.length := by simp at h3; omega
      simp [testB, h8, this, wk, wk1]
    · have : ¬ t.list.length ≤ 8 := by simp at h4; omega
      simp [testB, h8, this, wk, wk1]
    · have e3 : 1 ≤ t.list.length := by simp at h3; omega
      have e4 : t.list.length ≤ 8 := by simp at h4; omega
      have hb : testB t = t.list.all constB := by simp [testB, h8, nt h1, nt h2, e3, e4]
      rw [hb]
      refine allLoop (p := constB) (l := t.list) (f := 0) rfl (by omega) (fun _ _ _ h => h.elim) (fun k hk u next hy hno => ?_) (fun u next ha => CIf.f (by simp) (by rw [ha]; rfl))
      refine CIf.t (by simpa using hk) ⟨by omega, _, atRow hk, _, _, _, rfl, (cConst t.list[k]).call ⟨_, rfl, CIf.mk (fun a => ?_) (fun a => hy (by simpa using a) _)⟩⟩
      rw [hno (by simpa using a)]; rfl
  · refine CIf.mk (fun h1 => ?_) (fun h1 => CIf.mk (fun h2 => ?_) (fun h2 => CIf.mk (fun h3 => ?_) (fun h3 => ?_)))
    · have : ¬ 1 ≤ t.rel := by simp at h1; omega
      simp [testB, h8, this, wk, wk1]
    · have : ¬ t.rel ≤ 7 := by simp at h2; omega
      simp [testB, h8, this, wk, wk1]
    · have : ¬ t.list.length = 0 := by simp at h3; omega
      simp [testB, h8, this, wk, wk1]
    · have e1 : 1 ≤ t.rel := by simp at h1; omega
      have e2 : t.rel ≤ 7 := by simp at h2; omega
      have e3 : t.list.length = 0 := by simpa using h3
      have hb : testB t = atomB ⟨t.var, t.sym⟩ := by simp [testB, h8, e1, e2, e3]
      rw [hb]
      refine CIf.mk (fun h => (cWord t.var).call ⟨_, rfl, CIf.mk (fun h2 => (cNone t.sym).call ⟨_, rfl, ?_⟩) (fun h2 => ?_)⟩) (fun h => (cConst t.sym).call ⟨_, rfl, ?_⟩) <;> simp_all [atomB, noneB, wk, wk1]

theorem cRefTest (fl : Fl) (t : Test) (ht : t.list.length ≤ 1000000) : Pure Try.prog 95 [.agg [pI t.rel, pS t.var, pI t.sym.k, pS t.sym.t, pI t.sym.n, .list 3 fl (t.list.map Sym.pv)]] (pB (testB t)) := by
  refine PureK.of (G_ponderref06_test.c ?_)
  refine CIf.mk (fun h8 => ?_) (fun h8 => ?_)
  · refine CIf.mk (fun h1 => ?_) (fun h1 => CIf.mk (fun h2 => ?_) (fun h2 => CIf.mk (fun h3 => ?_) (fun h3 => CIf.mk (fun h4 => ?_) (fun h4 => ?_))))
    · simp_all [testB, wk, wk1]
    · have : noneB t.sym = false := nb h2
      simp [testB, h8, this, wk, wk1]
    · have : ¬ 1 ≤ t.list.length := by simp at h3; omega
      simp [testB, h8, this, wk, wk1]
    · have : ¬ t.list.length ≤ 8 := by simp at h4; omega
      simp [testB, h8, this, wk, wk1]
    · have e2 : noneB t.sym = true := nt h2
      have e3 : 1 ≤ t.list.length := by simp at h3; omega
      have e4 : t.list.length ≤ 8 := by simp at h4; omega
      have e1 : strEq t.var ⟨#[]⟩ = true := by simpa using h1
      have hb : testB t = t.list.all constB := by simp [testB, h8, e1, e2, e3, e4]
      rw [hb]
      refine allLoop (p := constB) (l := t.list) (f := 0) rfl (by omega) (fun _ _ _ h => h.elim) (fun k hk u next hy hno => ?_) (fun u next ha => CIf.f (by simp) (by rw [ha]; rfl))
      refine CIf.t (by simpa using hk) ⟨by omega, _, atRow hk, _, _, _, rfl, (cRefConst t.list[k]).call ⟨_, rfl, CIf.mk (fun a => ?_) (fun a => hy (by simpa using a) _)⟩⟩
      rw [hno (by simpa using a)]; rfl
  · refine CIf.mk (fun h1 => CIf.mk (fun h2 => CIf.mk (fun h3 => (cRefAtom ⟨t.var, t.sym⟩).call ⟨_, rfl, ?_⟩) (fun h3 => ?_)) (fun h2 => ?_)) (fun h1 => ?_)
    · have e3 : t.list.length = 0 := by simpa using h3
      have e1 : 1 ≤ t.rel := by simpa using h1
      have e2 : t.rel ≤ 7 := by simpa using h2
      simp [testB, h8, e1, e2, e3, wk, wk1]
    · have e3 : ¬ t.list.length = 0 := by simpa using h3
      simp [testB, h8, e3, wk, wk1]
    · have e2 : ¬ t.rel ≤ 7 := by simpa using h2
      simp [testB, h8, e2, wk, wk1]
    · have e1 : ¬ 1 ≤ t.rel := by simpa using h1
      simp [testB, h8, e1, wk, wk1]

theorem cTests (fl : Fl) (l : List Test) (hl : l.length ≤ 1000000) (ht : ∀ t ∈ l, t.list.length ≤ 1000000) : Pure Try.prog 66 [.list 6 fl (l.map Test.pv)] (pB (l.all testB)) := by
  refine PureK.of (G_shape_tests.c ?_)
  refine allLoop (p := testB) (l := l) (f := 0) rfl (by omega) (fun _ _ _ h => h.elim) (fun k hk u next hy hno => ?_) (fun u next ha => CIf.f (by simp) (by rw [ha]; rfl))
  refine CIf.t (by simpa using hk) ⟨by omega, _, atRow hk, _, _, _, _, _, _, _, rfl, (cTest .sh l[k] (ht _ (List.getElem_mem hk))).call ⟨_, rfl, CIf.mk (fun a => ?_) (fun a => hy (by simpa using a) _)⟩⟩
  rw [hno (by simpa using a)]; rfl

theorem cRefTests (fl : Fl) (l : List Test) (hl : l.length ≤ 1000000) (ht : ∀ t ∈ l, t.list.length ≤ 1000000) : Pure Try.prog 87 [.list 6 fl (l.map Test.pv)] (pB (l.all testB)) := by
  refine PureK.of (G_ponderref06_tests.c ?_)
  refine allLoop (p := testB) (l := l) (f := 0) rfl (by omega) (fun _ _ _ h => h.elim) (fun k hk u next hy hno => ?_) (fun u next ha => CIf.f (by simp) (by rw [ha]; rfl))
  refine CIf.t (by simpa using hk) ⟨by omega, _, atRow hk, _, _, _, _, _, _, _, rfl, (cRefTest .sh l[k] (ht _ (List.getElem_mem hk))).call ⟨_, rfl, CIf.mk (fun a => ?_) (fun a => hy (by simpa using a) _)⟩⟩
  rw [hno (by simpa using a)]; rfl

theorem cWordA (a : Atom) : Pure Try.prog 86 [.agg a.pv] (pB (wordA a)) := by
  refine PureK.of (G_shape_word.c ?_)
  refine CIf.mk (fun h => ?_) (fun h => ?_) <;> simp_all [wordA, wk, wk1]

theorem cOther (k : Int) : Pure Try.prog 69 [pI k] (pB (otherB k)) := by
  refine PureK.of (G_shape_other.c ?_)
  refine CIf.mk (fun h => ?_) (fun h => CIf.mk (fun h2 => ?_) (fun h2 => ?_)) <;> simp [otherB, wk, wk1, *]

theorem cTerm (t : Term) : Pure Try.prog 68 [.agg t.pv] (pB (termB t)) := by
  refine PureK.of (G_shape_term.c ?_)
  refine CIf.mk (fun h => ?_) (fun h => CIf.mk (fun h2 => ?_) (fun h2 => (cAtom t.a).call ⟨_, rfl, CIf.mk (fun h3 => ?_) (fun h3 => CIf.mk (fun h4 => (cEmpty t.b).call ⟨_, rfl, ?_⟩)
    (fun h4 => (cAtom t.b).call ⟨_, rfl, CIf.mk (fun h5 => (cWordA t.a).call ⟨_, rfl, CIf.mk (fun h6 => (cWordA t.b).call ⟨_, rfl, ?_⟩) (fun h6 => ?_)⟩) (fun h5 => ?_)⟩))⟩))
  · have : ¬ 0 ≤ t.op := by simp at h; omega
    simp [termB, this, wk, wk1]
  · have : ¬ t.op ≤ 3 := by simp at h2; omega
    simp [termB, this, wk, wk1]
  all_goals
    have e1 : 0 ≤ t.op := by simp at h; omega
    have e2 : t.op ≤ 3 := by simp at h2; omega
    grind [termB, wk, wk1]

theorem cAct (a : Actn) : Pure Try.prog 43 [.agg a.pv] (pB (actB a)) := by
  refine PureK.of (G_shape_act.c ?_)
  refine (cWord a.id).call ⟨_, rfl, CIf.mk (fun h1 => ?_) (fun h1 => (cAtom a.attr).call ⟨_, rfl, CIf.mk (fun h2 => ?_) (fun h2 => (cTerm a.value).call ⟨_, rfl, CIf.mk (fun h3 => ?_) (fun h3 => CIf.mk (fun h4 => ?_) (fun h4 => CIf.mk (fun h5 => ?_)
    (fun h5 => (cOther a.pref).call ⟨_, rfl, CIf.mk (fun h6 => (cAtom a.other).call ⟨_, rfl, ?_⟩) (fun h6 => (cEmpty a.other).call ⟨_, rfl, ?_⟩)⟩)))⟩)⟩)⟩
  · simp_all [actB, wk, wk1]
  · simp_all [actB, wk, wk1]
  · simp_all [actB, wk, wk1]
  · have : ¬ 1 ≤ a.pref := by simp at h4; omega
    simp [actB, this, wk, wk1]
  · have : ¬ a.pref ≤ 10 := by simp at h5; omega
    simp [actB, this, wk, wk1]
  all_goals
    have e1 : 1 ≤ a.pref := by simp at h4; omega
    have e2 : a.pref ≤ 10 := by simp at h5; omega
    simp_all [actB, wk, wk1]

theorem atom_word {a : Atom} (h : atomB a = true) : (a.sym.k == 3) = wordA a := by
  unfold atomB at h
  unfold wordA
  cases hv : strEq a.var ⟨#[]⟩ with
  | true => simp
  | false =>
    rw [hv] at h
    simp only [cond_false, Bool.and_eq_true, noneB] at h
    have : a.sym.k = 0 := by simpa using h.2.1
    simp [this]

theorem cRefAct (a : Actn) : Pure Try.prog 47 [.agg a.pv] (pB (actB a)) := by
  refine PureK.of (G_ponderref06_act.c ?_)
  refine (cRefWord a.id).call ⟨_, rfl, CIf.mk (fun h1 => ?_) (fun h1 => (cRefAtom a.attr).call ⟨_, rfl, CIf.mk (fun h2 => ?_) (fun h2 => (cRefAtom a.value.a).call ⟨_, rfl, CIf.mk (fun h3 => ?_) (fun h3 => CIf.mk (fun h4 => ?_) (fun h4 => CIf.mk (fun h5 => ?_) (fun h5 => CIf.mk (fun h6 => ?_) (fun h6 => CIf.mk (fun h7 => ?_) (fun h7 => ?_)))))⟩)⟩)⟩
  · simp_all [actB, wk, wk1]
  · simp_all [actB, wk, wk1]
  · simp_all [actB, termB, wk, wk1]
  · have : ¬ 0 ≤ a.value.op := by simp at h4; omega
    simp [actB, termB, this, wk, wk1]
  · have : ¬ a.value.op ≤ 3 := by simp at h5; omega
    simp [actB, termB, this, wk, wk1]
  · have : ¬ 1 ≤ a.pref := by simp at h6; omega
    simp [actB, this, wk, wk1]
  · have : ¬ a.pref ≤ 10 := by simp at h7; omega
    simp [actB, this, wk, wk1]
  · have e4 : 0 ≤ a.value.op := by simp at h4; omega
    have e5 : a.value.op ≤ 3 := by simp at h5; omega
    have e6 : 1 ≤ a.pref := by simp at h6; omega
    have e7 : a.pref ≤ 10 := by simp at h7; omega
    have e1 : wordB a.id = true := by simpa using h1
    have e2 : atomB a.attr = true := by simpa using h2
    have e3 : atomB a.value.a = true := by simpa using h3
    refine ⟨fun _ _ => termB a.value = true, ?_, ?_⟩
    · refine CIf.mk (fun a1 => CIf.mk (fun a2 => ?_) (fun a2 => ?_)) (fun a1 => (cRefAtom a.value.b).call ⟨_, rfl, CIf.mk (fun a2 => ?_) (fun a2 => CIf.mk (fun a3 => ?_) (fun a3 => CIf.mk (fun a4 => ?_) (fun a4 => ?_)))⟩)
      · have : emptyB a.value.b = false := nb a2
        simp [actB, termB, a1, this, wk, wk1]
      · have : emptyB a.value.b = true := nt a2
        simp [termB, e4, e5, e3, a1, this]
      · have : atomB a.value.b = false := by simpa using a2
        simp [actB, termB, a1, this, wk, wk1]
      · rw [atom_word e3] at a3
        simp [actB, termB, a1, a3, wk, wk1]
      · have b1 : atomB a.value.b = true := by simpa using a2
        rw [atom_word b1] at a4
        simp [actB, termB, a1, a4, wk, wk1]
      · have b1 : atomB a.value.b = true := by simpa using a2
        rw [atom_word e3] at a3
        rw [atom_word b1] at a4
        simp [termB, e4, e5, e3, a1, a3, a4, b1]
    · rintro _ u ht
      have ho : otherB a.pref = decide (a.pref ≥ 8) := by
        simp only [otherB]
        rw [Bool.eq_iff_iff]
        simp; omega
      refine CIf.mk (fun a1 => (cRefAtom a.other).call ⟨_, rfl, ?_⟩) (fun a1 => ?_)
      · simp [actB, e1, e2, ht, e6, e7, ho, a1, wk, wk1]
      · have : emptyB a.other = (strEq a.other.var ⟨#[]⟩ && ((a.other.sym.k == 0) && (strEq a.other.sym.t ⟨#[]⟩ && ((a.other.sym.n == 0) && true)))) := rfl
        simp only [actB, e1, e2, ht, e6, e7, ho, a1, this, wk, wk1]
        simp

end Go.Proofs.Ytfjemjnbemdkgaa

/-
  Productions that may be: conditions, the walk, forms.
-/
namespace Go.Proofs.Ytfjemjnbemdkgaa
open Go.Eng Go.RowKit
set_option linter.unusedVariables false
set_option linter.unusedSimpArgs false
set_option linter.unnecessarySimpa false

theorem gt0 {n : Nat} {b : Bool} (h : decide (((n : Nat) : Int) > 0) = b) : decide (0 < n) = b := by rw [← h]; simp
theorem eq0 {n : Nat} {b : Bool} (h : (((n : Nat) : Int) == 0) = b) : decide (n = 0) = b := by
  rw [← h, Bool.eq_iff_iff]; simp
theorem gt4 {n : Nat} {b : Bool} (h : decide (((n : Nat) : Int) > 4) = b) : decide (4 < n) = b := by
  rw [← h, Bool.eq_iff_iff]; simp; omega

theorem cCondE (c : Cond) (deep : Int) (hl : lightC c) : Pure Try.prog 42 [.agg c.pv, pI deep] (pI (condE c deep)) := by
  obtain ⟨_, ha, hv, hta, htv, _⟩ := (lightC_eq c).1 hl
  rw [Cond.pv_eq]
  refine PureK.of (G_shape_cond.c ?_)
  have e3 : c.kind == 3 → c.kind = 3 := fun h => by simpa using h
  refine ⟨fun _ _ => (c.kind == 3) = false ∧ ((c.kind == 1) || (c.kind == 2)) = true, ?_, ?_⟩
  · refine CIf.mk (fun h3 => ?_) (fun h3 => ?_)
    · refine CIf.mk (fun h => ?_) (fun h => CIf.mk (fun h1 => ?_) (fun h1 => CIf.mk (fun h2 => ?_) (fun h2 => CIf.mk (fun h4 => ?_) (fun h4 => CIf.mk (fun h5 => ?_) (fun h5 => CIf.mk (fun h6 => ?_) (fun h6 => CIf.mk (fun h7 => ?_) (fun h7 => ?_)))))))
      · simp [condE, h3, h, wk, wk1]
      · simp [condE, h3, nb h1, wk, wk1]
      · rw [List.length_map] at h2; simp only [condE, h3, gt0 h2, wk, wk1]; simp
      · rw [List.length_map] at h4; simp only [condE, h3, gt0 h4, wk, wk1]; simp
      · simp [condE, h3, h5, wk, wk1]
      · rw [List.length_map] at h6; simp only [condE, h3, eq0 h6, wk, wk1]; simp
      · rw [List.length_map] at h2 h4 h6
        have : decide (3 ≤ deep) = true := h7
        simp only [condE, h3, h, nt h1, gt0 h2, gt0 h4, h5, eq0 h6, this, wk, wk1]; rfl
      · rw [List.length_map] at h2 h4 h6
        have : decide (3 ≤ deep) = false := h7
        simp only [condE, h3, h, nt h1, gt0 h2, gt0 h4, h5, eq0 h6, this, wk, wk1]; rfl
    · refine CIf.mk (fun h1 => CIf.mk (fun h2 => ⟨h3, by simp [h1]⟩) (fun h2 => by rw [h1] at h2; cases h2)) (fun h1 => CIf.mk (fun h2 => ⟨h3, by simp [h2]⟩) (fun h2 => ?_))
      simp [condE, h3, h1, h2, wk, wk1]
  · rintro _ u ⟨h3, h12⟩
    refine CIf.mk (fun h => ?_) (fun h => (cWord c.id).call ⟨_, rfl, CIf.mk (fun h1 => ?_) (fun h1 => CIf.mk (fun h2 => ?_) (fun h2 => CIf.mk (fun h4 => ?_) (fun h4 => CIf.mk (fun h5 => ?_) (fun h5 => (cTests .sh c.attr (by omega) (lightTs hta)).call ⟨_, rfl, CIf.mk (fun h6 => ?_) (fun h6 => (cTests .sh c.value (by omega) (lightTs htv)).call ⟨_, rfl, CIf.mk (fun h7 => ?_) (fun h7 => ?_)⟩)⟩))))⟩)
    · rw [List.length_map] at h; simp only [condE, h3, h12, gt0 h, wk, wk1]; rfl
    · simp only [condE, h3, h12, nb h1, wk, wk1]; simp
    · rw [List.length_map] at h2; simp only [condE, h3, h12, eq0 h2, wk, wk1]; simp
    all_goals rw [List.length_map] at h h2 h4
    · simp only [condE, h3, h12, gt0 h, nt h1, eq0 h2, gt4 h4, wk, wk1]; simp
    all_goals rw [List.length_map] at h5
    · simp only [condE, h3, h12, gt0 h, nt h1, eq0 h2, gt4 h4, gt4 h5, wk, wk1]; simp
    · simp only [condE, h3, h12, gt0 h, nt h1, eq0 h2, gt4 h4, gt4 h5, nb h6, wk, wk1]; simp
    · simp only [condE, h3, h12, gt0 h, nt h1, eq0 h2, gt4 h4, gt4 h5, nt h6, nb h7, wk, wk1]; simp
    · simp only [condE, h3, h12, gt0 h, nt h1, eq0 h2, gt4 h4, gt4 h5, nt h6, nt h7, wk, wk1]; simp

theorem cRefCondE (c : Cond) (deep : Int) (hl : lightC c) : Pure Try.prog 72 [.agg c.pv, pI deep] (pI (condE c deep)) := by
  obtain ⟨_, ha, hv, hta, htv, _⟩ := (lightC_eq c).1 hl
  rw [Cond.pv_eq]
  refine PureK.of (G_ponderref06_cond.c ?_)
  refine CIf.mk (fun k1 => ?_) (fun k1 => CIf.mk (fun k2 => ?_) (fun k2 => CIf.mk (fun h3 => ?_) (fun h3 => ?_)))
  · have a1 : (c.kind == 3) = false := by simp at k1 ⊢; omega
    have a2 : ((c.kind == 1) || (c.kind == 2)) = false := by simp at k1 ⊢; omega
    simp only [condE, a1, a2, wk, wk1]; rfl
  · have a1 : (c.kind == 3) = false := by simp at k2 ⊢; omega
    have a2 : ((c.kind == 1) || (c.kind == 2)) = false := by simp at k2 ⊢; omega
    simp only [condE, a1, a2, wk, wk1]; rfl
  · refine CIf.mk (fun h => ?_) (fun h => CIf.mk (fun h1 => ?_) (fun h1 => CIf.mk (fun h2 => ?_) (fun h2 => CIf.mk (fun h4 => ?_) (fun h4 => CIf.mk (fun h5 => ?_) (fun h5 => CIf.mk (fun h6 => ?_) (fun h6 => CIf.mk (fun h7 => ?_) (fun h7 => ?_)))))))
    · simp [condE, h3, h, wk, wk1]
    · simp [condE, h3, nb h1, wk, wk1]
    · rw [List.length_map] at h2; simp only [condE, h3, gt0 h2, wk, wk1]; simp
    · rw [List.length_map] at h4; simp only [condE, h3, gt0 h4, wk, wk1]; simp
    · simp [condE, h3, h5, wk, wk1]
    · rw [List.length_map] at h6; simp only [condE, h3, eq0 h6, wk, wk1]; simp
    · rw [List.length_map] at h2 h4 h6
      have : decide (3 ≤ deep) = true := h7
      simp only [condE, h3, h, nt h1, gt0 h2, gt0 h4, h5, eq0 h6, this, wk, wk1]; rfl
    · rw [List.length_map] at h2 h4 h6
      have : decide (3 ≤ deep) = false := h7
      simp only [condE, h3, h, nt h1, gt0 h2, gt0 h4, h5, eq0 h6, this, wk, wk1]; rfl
  · have h12 : ((c.kind == 1) || (c.kind == 2)) = true := by simp at k1 k2 h3 ⊢; omega
    refine CIf.mk (fun h => ?_) (fun h => (cRefWord c.id).call ⟨_, rfl, CIf.mk (fun h1 => ?_) (fun h1 => CIf.mk (fun h2 => ?_) (fun h2 => CIf.mk (fun h4 => ?_) (fun h4 => CIf.mk (fun h5 => ?_) (fun h5 => (cRefTests .sh c.attr (by omega) (lightTs hta)).call ⟨_, rfl, CIf.mk (fun h6 => ?_) (fun h6 => (cRefTests .sh c.value (by omega) (lightTs htv)).call ⟨_, rfl, CIf.mk (fun h7 => ?_) (fun h7 => ?_)⟩)⟩))))⟩)
    · rw [List.length_map] at h; simp only [condE, h3, h12, gt0 h, wk, wk1]; rfl
    · simp only [condE, h3, h12, nb h1, wk, wk1]; simp
    · rw [List.length_map] at h2; simp only [condE, h3, h12, eq0 h2, wk, wk1]; simp
    all_goals rw [List.length_map] at h h2 h4
    · simp only [condE, h3, h12, gt0 h, nt h1, eq0 h2, gt4 h4, wk, wk1]; simp
    all_goals rw [List.length_map] at h5
    · simp only [condE, h3, h12, gt0 h, nt h1, eq0 h2, gt4 h4, gt4 h5, wk, wk1]; simp
    · simp only [condE, h3, h12, gt0 h, nt h1, eq0 h2, gt4 h4, gt4 h5, nb h6, wk, wk1]; simp
    · simp only [condE, h3, h12, gt0 h, nt h1, eq0 h2, gt4 h4, gt4 h5, nt h6, nb h7, wk, wk1]; simp
    · simp only [condE, h3, h12, gt0 h, nt h1, eq0 h2, gt4 h4, gt4 h5, nt h6, nt h7, wk, wk1]; simp

theorem cRefSize : ∀ (n : Nat) (fl : Fl) (l : List Cond), sizeL l ≤ n → sizeL l ≤ 1000000 → Pure Try.prog 45 [.list 7 fl (l.map Cond.pv)] (pI (sizeL l : Nat)) := by
  intro n
  induction n with
  | zero =>
    intro fl l h _
    have : l = [] := by
      cases l with
      | nil => rfl
      | cons c l => simp [sizeL, sizeC_eq] at h
    subst this
    refine PureK.of (G_ponderref06_Size.c ?_)
    exact LoopI.each2 (n := 0) (by omega) (fun k x u => x = 0) rfl (fun k x u next hk => by omega) (fun x u next hx => by subst hx; exact CIf.f (by simp) rfl)
  | succ n ih =>
    intro fl l h h6
    refine PureK.of (G_ponderref06_Size.c ?_)
    have hll := sizeL_len l
    refine LoopI.each2 (n := l.length) (by omega) (fun k x u => x = ((sizeL (l.take k) : Nat) : Int)) (by simp [sizeL]) ?_ ?_
    · rintro k _ u next hk rfl hnext
      have hm := sizeL_mem (List.getElem_mem hk)
      have hs := sizeL_split l (k + 1)
      rw [sizeL_take hk] at hs
      refine CIf.t (by simpa using hk) ⟨by omega, _, atRow hk, .sh, l[k].conds.map Cond.pv, by rw [Cond.pv_eq]; rfl, (ih .sh l[k].conds (by omega) (by omega)).call ⟨_, rfl, ?_⟩⟩
      dsimp only
      rw [wrap_id (x := (1 : Int) + _) (by omega) (by omega), wrap_id (x := ((sizeL (l.take k) : Nat) : Int) + _) (by omega) (by omega)]
      exact hnext _ _ (by rw [sizeL_take hk]; omega)
    · rintro _ u next rfl
      refine CIf.f (by simp) ?_
      rw [List.take_length]; rfl

/-- The first that is wrong, as the document tells it. -/
def condsE (l : List Cond) (a d : Nat) : PV := match firstE (preL l a d) with
  | some (x, e) => .tup [pI (x : Nat), pI e]
  | none => .tup [pI (-1), pI 0]

theorem cRefConds : ∀ (n : Nat) (fl : Fl) (l : List Cond) (a d : Nat), sizeL l ≤ n → lightL l → a + sizeL l ≤ 1000000 → d + sizeL l ≤ 1000000 → Pure Try.prog 46 [.list 7 fl (l.map Cond.pv), pI (a : Nat), pI (d : Nat)] (condsE l a d) := by
  intro n
  induction n with
  | zero =>
    intro fl l a d h _ _ _
    have : l = [] := by
      cases l with
      | nil => rfl
      | cons c l => simp [sizeL, sizeC_eq] at h
    subst this
    refine PureK.of (G_ponderref06_conds.c ?_)
    exact LoopI.each2 (n := 0) (by omega) (fun k x u => True) trivial (fun k x u next hk => by omega) (fun x u next hx => CIf.f (by simp) rfl)
  | succ n ih =>
    intro fl l a d h hlt ha hd
    refine PureK.of (G_ponderref06_conds.c ?_)
    have hll := sizeL_len l
    refine LoopI.each2 (n := l.length) (by omega) (fun k x u => x = ((a + sizeL (l.take k) : Nat) : Int) ∧ firstE (preL (l.take k) a d) = none) ⟨by simp [sizeL], rfl⟩ ?_ ?_
    · rintro k _ u next hk ⟨rfl, hf⟩ hnext
      have hm := sizeL_mem (List.getElem_mem hk)
      have hs := sizeL_split l (k + 1)
      rw [sizeL_take hk] at hs
      have hlk := lightL_iff.1 hlt _ (List.getElem_mem hk)
      have hpre := preL_at hk a d
      refine CIf.t (by simpa using hk) ⟨by omega, _, atRow hk, _, _, _, _, _, _, _, _, _, _, by rw [Cond.pv_eq]; rfl, ?_⟩
      have hc := cRefCondE l[k] d hlk
      rw [Cond.pv_eq] at hc
      refine hc.call ⟨_, rfl, CIf.mk (fun h1 => ?_) (fun h1 => ?_)⟩
      · have h1 : (condE l[k] d == 0) = false := by simpa using h1
        have : firstE (preL l a d) = some (a + sizeL (l.take k), condE l[k] d) := by
          rw [hpre, List.append_assoc, firstE_append, hf, Option.none_or, List.cons_append, firstE, h1]; rfl
        simp only [condsE, this]; rfl
      · have h1 : (condE l[k] d == 0) = true := by simpa using h1
        refine ⟨by omega, _, atRow hk, .sh, l[k].conds.map Cond.pv, by rw [Cond.pv_eq]; rfl, ?_⟩
        have ihk := ih .sh l[k].conds (a + sizeL (l.take k) + 1) (d + 1) (by omega) ((lightC_eq _).1 hlk).2.2.2.2.2 (by omega) (by omega)
        rw [wrap_id (by omega) (by omega), wrap_id (by omega) (by omega)]
        refine ihk.call ?_
        cases hfe : firstE (preL l[k].conds (a + sizeL (l.take k) + 1) (d + 1)) with
        | some r =>
          obtain ⟨x, e⟩ := r
          have hne := firstE_ne hfe
          have : firstE (preL l a d) = some (x, e) := by
            rw [hpre, List.append_assoc, firstE_append, hf, Option.none_or, List.cons_append, firstE, h1, cond_true, firstE_append, hfe]; rfl
          simp only [condsE, hfe, this]
          exact ⟨_, _, rfl, CIf.t (by simpa using hne) rfl⟩
        | none =>
          simp only [condsE, hfe]
          refine ⟨_, _, rfl, CIf.f rfl ⟨by omega, _, atRow hk, .sh, l[k].conds.map Cond.pv, by rw [Cond.pv_eq]; rfl, (cRefSize _ .sh l[k].conds (Nat.le_refl _) (by omega)).call ⟨_, rfl, ?_⟩⟩⟩
          rw [wrap_id (x := (1 : Int) + _) (by omega) (by omega), wrap_id (x := ((a + sizeL (l.take k) : Nat) : Int) + _) (by omega) (by omega)]
          refine hnext _ _ ⟨by rw [sizeL_take hk]; omega, ?_⟩
          rw [preL_take hk, firstE_append, hf, Option.none_or, firstE, h1, cond_true]
          exact hfe
    · rintro _ u next ⟨rfl, hf⟩
      refine CIf.f (by simp) ?_
      rw [List.take_length] at hf
      simp only [condsE, hf]; rfl

theorem cWalk (fy : Fn) (ya yb : List PV) (hy : fnOk fy True) (I : Nat → Mem → Prop) (S : Mem → Prop) : ∀ (n : Nat) (fl : Fl) (l : List Cond) (a d j : Nat) (μ : Mem), sizeL l ≤ n → a + sizeL l ≤ 1000000 → d + sizeL l ≤ 1000000 → I j μ →
    (∀ (k : Nat) (x : Nat × Nat × Cond) (μ : Mem), (preL l a d)[k]? = some x → I (j + k) μ → CallVP Try.prog (.fn fy ya yb) [pI (x.1 : Nat), pI (x.2.1 : Nat), .agg x.2.2.pv] μ fun v μ' => (v = pB true ∧ I (j + k + 1) μ') ∨ (v = pB false ∧ S μ')) →
    CallP Try.prog 39 [.list 7 fl (l.map Cond.pv), pI (a : Nat), pI (d : Nat), .fn fy ya yb] μ fun p μ' => (p = .tup [pI ((a + sizeL l : Nat) : Int), pB true] ∧ I (j + sizeL l) μ') ∨ ∃ x : Int, p = .tup [pI x, pB false] ∧ S μ' := by
  intro n
  induction n with
  | zero =>
    intro fl l a d j μ h _ _ hI _
    have : l = [] := by
      cases l with
      | nil => rfl
      | cons c l => simp [sizeL, sizeC_eq] at h
    subst this
    refine G_shape_walk.c ?_
    exact LoopI.each2 (n := 0) (by omega) (fun k x u => x = (a : Int) ∧ I j u) ⟨rfl, hI⟩ (fun k x u next hk => by omega) (fun x u next hx => by obtain ⟨rfl, hx⟩ := hx; exact CIf.f (by simp) (.inl ⟨rfl, hx⟩))
  | succ n ih =>
    intro fl l a d j μ h ha hd hI hstep
    refine G_shape_walk.c ?_
    have hll := sizeL_len l
    refine LoopI.each2 (n := l.length) (by omega) (fun k x u => x = ((a + sizeL (l.take k) : Nat) : Int) ∧ I (j + sizeL (l.take k)) u) ⟨by simp [sizeL], by simpa [sizeL] using hI⟩ ?_ ?_
    · rintro k _ u next hk ⟨rfl, hIk⟩ hnext
      have hm := sizeL_mem (List.getElem_mem hk)
      have hs := sizeL_split l (k + 1)
      rw [sizeL_take hk] at hs
      have hpre := preL_at hk a d
      have hpl := preL_len (l.take k) a d
      refine CIf.t (by simpa using hk) ⟨by omega, _, atRow hk, _, _, _, _, _, _, _, _, _, _, by rw [Cond.pv_eq]; rfl, ?_⟩
      have h0 := hstep (sizeL (l.take k)) (a + sizeL (l.take k), d, l[k]) u (by
        rw [hpre, List.append_assoc, List.getElem?_append_right (by omega), hpl]; simp) hIk
      rw [Cond.pv_eq] at h0
      refine h0.mono ?_
      rintro v μ1 (⟨rfl, hI1⟩ | ⟨rfl, hS⟩)
      · refine ⟨_, rfl, CIf.f rfl ?_⟩
        rw [wrap_id (by omega) (by omega), wrap_id (by omega) (by omega)]
        have ihk := ih .sh l[k].conds (a + sizeL (l.take k) + 1) (d + 1) (j + sizeL (l.take k) + 1) μ1 (by omega) (by omega) (by omega) hI1 (fun k' x μ' hx hI' => by
          have hlen := preL_len l[k].conds (a + sizeL (l.take k) + 1) (d + 1)
          have hk' : k' < sizeL l[k].conds := by rw [← hlen]; exact (List.getElem?_eq_some_iff.1 hx).1
          have := hstep (sizeL (l.take k) + 1 + k') x μ' (by
            rw [hpre, List.append_assoc, List.getElem?_append_right (by omega), hpl]
            have : sizeL (l.take k) + 1 + k' - sizeL (l.take k) = k' + 1 := by omega
            rw [this, List.cons_append, List.getElem?_cons_succ, List.getElem?_append_left (by omega)]
            exact hx) (by rw [← Nat.add_assoc, ← Nat.add_assoc]; exact hI')
          rw [← Nat.add_assoc, ← Nat.add_assoc] at this
          exact this)
        refine CallP.mono ihk ?_
        rintro v μ2 (⟨rfl, hI2⟩ | ⟨x, rfl, hS⟩)
        · refine ⟨_, _, rfl, CIf.f rfl (hnext _ _ ⟨by rw [sizeL_take hk]; omega, ?_⟩)⟩
          rw [sizeL_take hk, ← Nat.add_assoc, ← Nat.add_assoc]; exact hI2
        · exact ⟨_, _, rfl, CIf.t rfl (.inr ⟨x, rfl, hS⟩)⟩
      · exact ⟨_, rfl, CIf.t rfl (.inr ⟨_, rfl, hS⟩)⟩
    · rintro _ u next ⟨rfl, hIk⟩
      refine CIf.f (by simp) (.inl ?_)
      rw [List.take_length] at hIk ⊢
      exact ⟨rfl, hIk⟩

end Go.Proofs.Ytfjemjnbemdkgaa

/-
  Productions that may be: forms.
-/
namespace Go.Proofs.Ytfjemjnbemdkgaa
open Go.Eng Go.RowKit
set_option linter.unusedVariables false
set_option linter.unusedSimpArgs false
set_option linter.unnecessarySimpa false

theorem rdM_one {μ : Mem} {b : Nat} {T : TypeId} {p : PV} (h : μ b = some (.cells T [p])) : rdM μ b 0 1 = some [p] := by simp [rdM, h]

theorem wrAt {μ : Mem} {b : Nat} {T : TypeId} {p q : PV} : (μ.set b (some (.cells T (wrL [p] 0 [q])))) b = some (.cells T [q]) := by simp [wrL]
theorem rdM_wr {μ : Mem} {b : Nat} {T : TypeId} {p q : PV} : rdM (μ.set b (some (.cells T (wrL [p] 0 [q])))) b 0 1 = some [q] := rdM_one wrAt

@[reducible] def pairP (x : Int × Int) : PV := .tup [pI x.1, pI x.2]

/-- The first action that is wrong: a loop. -/
theorem actsLoop {l : List Actn} {body : (Int → Mem → Prop) → Int → Mem → Prop} {u : Mem} {A : Mem → Prop} (hl : l.length ≤ 1000000) (h0 : A u)
    (hin : ∀ (k : Nat) (hk : k < l.length) (u : Mem) (next : Int → Mem → Prop), A u → (actB l[k] = true → ∀ u', A u' → next (IntKind.wrap .i64 ((k : Int) + 1)) u') → (actB l[k] = false → firstA 0 l = some k) → body next (k : Int) u)
    (hout : ∀ (u : Mem) (next : Int → Mem → Prop), A u → firstA 0 l = none → body next (l.length : Int) u) : LoopI body 0 u := by
  refine LoopI.each (n := l.length) (by omega) (fun k u => A u ∧ firstA 0 (l.take k) = none) ⟨h0, rfl⟩ ?_ ?_
  · rintro k u next hk ⟨hA, hf⟩ hnext
    exact hin k hk u next hA (fun ha u' hA' => hnext u' ⟨hA', by rw [firstA_take hk hf, ha]; rfl⟩) (fun ha => by have := firstA_hit hk hf ha; simpa using this)
  · rintro u next ⟨hA, hf⟩
    rw [List.take_length] at hf
    exact hout u next hA hf

theorem cRefShape (fc fa : Fl) (p : Prod) (hl : lightL p.conds) (hs : sizeL p.conds ≤ 1000000) (ha : p.acts.length ≤ 1000000) : Pure Try.prog 14 [.agg [pS p.name, .list 7 fc (p.conds.map Cond.pv), .list 19 fa (p.acts.map Actn.pv)]] (pairP (shapeE p)) := by
  refine PureK.of (G_ponderref06_Shape.c ?_)
  refine (cRefWord p.name).call ⟨_, rfl, CIf.mk (fun h1 => ?_) (fun h1 => (cRefSize _ fc p.conds (Nat.le_refl _) hs).call ⟨_, rfl, CIf.mk (fun h2 => ?_) (fun h2 => CIf.mk (fun h3 => ?_) (fun h3 => CIf.mk (fun h4 => ?_) (fun h4 => CIf.mk (fun h5 => ?_) (fun h5 => ?_))))⟩)⟩
  · simp [shapeE, nb h1, wk, wk1, wk2]
  all_goals have e1 : wordB p.name = true := nt h1
  · have : sizeL p.conds < 1 := by have := of_decide_eq_true h2; omega
    simp [shapeE, e1, this, wk, wk1, wk2]
  · have : 16 < sizeL p.conds := by simp at h3; omega
    simp [shapeE, e1, this, wk, wk1, wk2]
  · have : p.acts.length < 1 := by have := of_decide_eq_true h4; simp only [List.length_map] at this; omega
    simp [shapeE, e1, this, wk, wk1, wk2]
  · have : 16 < p.acts.length := by simp at h5; omega
    simp [shapeE, e1, this, wk, wk1, wk2]
  · have e2 : ¬ sizeL p.conds < 1 := by have := of_decide_eq_false h2; omega
    have e3 : ¬ 16 < sizeL p.conds := by simp at h3; omega
    have e4 : ¬ p.acts.length < 1 := by have := of_decide_eq_false h4; simp only [List.length_map] at this; omega
    have e5 : ¬ 16 < p.acts.length := by simp at h5; omega
    refine (cRefConds _ fc p.conds 0 0 (Nat.le_refl _) hl (by omega) (by omega)).call ?_
    have hsh : shapeE p = shapeT p := by simp [shapeE, e1, e2, e3, e4, e5]
    cases hf : firstE (preL p.conds 0 0) with
    | some r =>
      obtain ⟨x, e⟩ := r
      have hne := firstE_ne hf
      simp only [condsE, hf]
      refine ⟨_, _, rfl, CIf.t (by simpa using hne) ?_⟩
      rw [hsh, shapeT_e hf]; rfl
    | none =>
      simp only [condsE, hf]
      refine ⟨_, _, rfl, CIf.f rfl ?_⟩
      refine actsLoop (l := p.acts) (A := fun _ => True) ha trivial (fun k hk u next _ hy hno => ?_) (fun u next _ hfa => ?_)
      · refine CIf.t (by simpa using hk) ⟨by omega, _, atRow hk, _, _, _, _, _, _, _, _, _, _, _, _, _, _, _, _, _, _, _, rfl, (cRefAct p.acts[k]).call ⟨_, rfl, CIf.mk (fun a => ?_) (fun a => hy (nt a) _ trivial)⟩⟩
        rw [hsh, shapeT_a hf (hno (nb a)), wrap_id (by omega) (by omega)]
        simp [wk, wk1, wk2]
      · refine CIf.f (by simp) ?_
        rw [hsh, shapeT_ok hf hfa]; rfl

theorem cShape (fc fa : Fl) (p : Prod) (hl : lightL p.conds) (hs : sizeL p.conds ≤ 1000000) (ha : p.acts.length ≤ 1000000) : Pure Try.prog 13 [.agg [pS p.name, .list 7 fc (p.conds.map Cond.pv), .list 19 fa (p.acts.map Actn.pv)]] (pairP (shapeE p)) := by
  refine PureK.of (G_shape_Shape.c ?_)
  refine (cWord p.name).call ⟨_, rfl, CIf.mk (fun h1 => ?_) (fun h1 => ?_)⟩
  · simp [shapeE, nb h1, wk, wk1, wk2]
  have e1 : wordB p.name = true := nt h1
  intro b4 hb4
  refine ⟨_, _, Mem.set_same _ _ _, by simp, ?_⟩
  rw [Mem.set_set]
  have hpl := preL_len p.conds 0 0
  refine CallP.mono (cWalk (.func 40) [] [pP b4 0] trivial (fun k μ => μ b4 = some (.cells 3 [pI (k : Nat)]) ∧ k ≤ 16) (fun μ => μ b4 = some (.cells 3 [pI 17]) ∧ 16 < sizeL p.conds) _ fc p.conds 0 0 0 _ (Nat.le_refl _) (by omega) (by omega) ⟨by simp [Mem.set_same, wrL], by omega⟩ (fun k x μ hx hI => ?_)) ?_
  · rw [Nat.zero_add] at hI ⊢
    have hx1 := preL_count _ _ _ _ _ hx
    have hk : k < sizeL p.conds := by rw [← hpl]; exact (List.getElem?_eq_some_iff.1 hx).1
    show CallP _ _ _ _ _
    rw [Cond.pv_eq]
    refine G_shape_Shape_1.c ?_
    refine ⟨_, _, hI.1, by simp, _, rdM_wr, ?_⟩
    rw [hx1, Nat.zero_add, wrap_id (by omega) (by omega)]
    by_cases h16 : k + 1 ≤ 16
    · exact .inl ⟨by simp; omega, by rw [wrAt]; rfl, h16⟩
    · have : k = 16 := by omega
      subst this
      exact .inr ⟨by simp, by rw [wrAt]; rfl, hk⟩
  rintro v μ1 hv
  have hres : ∃ (x : Int) (q : Bool) (m : Nat), v = .tup [pI x, pB q] ∧ μ1 b4 = some (.cells 3 [pI (m : Nat)]) ∧ (m ≤ 16 → m = sizeL p.conds) ∧ (16 < m → 16 < sizeL p.conds) := by
    rcases hv with ⟨rfl, h1, h2⟩ | ⟨x, rfl, h1, h2⟩
    · rw [Nat.zero_add] at h1 h2
      exact ⟨_, _, _, rfl, h1, fun _ => rfl, fun h => by omega⟩
    · exact ⟨_, _, 17, rfl, h1, fun h => by omega, fun _ => h2⟩
  obtain ⟨x, q, m, rfl, hm1, hm2, hm3⟩ := hres
  refine ⟨_, _, rfl, _, rdM_one hm1, CIf.mk (fun h2 => ?_) (fun h2 => ⟨_, rdM_one hm1, CIf.mk (fun h3 => ?_) (fun h3 => CIf.mk (fun h4 => ?_) (fun h4 => CIf.mk (fun h5 => ?_) (fun h5 => ?_)))⟩)⟩
  · have : sizeL p.conds < 1 := by have := of_decide_eq_true h2; have := hm2 (by omega); omega
    simp [shapeE, e1, this, wk, wk1, wk2]
  · have : 16 < sizeL p.conds := hm3 (by simp at h3; omega)
    simp [shapeE, e1, this, wk, wk1, wk2]
  · have : p.acts.length < 1 := by have := of_decide_eq_true h4; simp only [List.length_map] at this; omega
    simp [shapeE, e1, this, wk, wk1, wk2]
  · have : 16 < p.acts.length := by simp at h5; omega
    simp [shapeE, e1, this, wk, wk1, wk2]
  have hmm : m = sizeL p.conds := hm2 (by simp at h3; omega)
  subst hmm
  have e2 : ¬ sizeL p.conds < 1 := by have := of_decide_eq_false h2; omega
  have e3 : ¬ 16 < sizeL p.conds := by simp at h3; omega
  have e4 : ¬ p.acts.length < 1 := by have := of_decide_eq_false h4; simp only [List.length_map] at this; omega
  have e5 : ¬ 16 < p.acts.length := by simp at h5; omega
  have hsh : shapeE p = shapeT p := by simp [shapeE, e1, e2, e3, e4, e5]
  intro b5 hb5 b6 hb6
  have n54 : b5 ≠ b4 := by rintro rfl; rw [hm1] at hb5; cases hb5
  have n65 : b6 ≠ b5 := by rintro rfl; rw [Mem.set_same] at hb6; cases hb6
  have n64 : b6 ≠ b4 := by rintro rfl; rw [Mem.set_ne _ _ (Ne.symm n54)] at hb6; rw [hm1] at hb6; cases hb6
  refine ⟨_, _, by rw [Mem.set_ne _ _ (Ne.symm n65)]; exact Mem.set_same _ _ _, by simp, ?_⟩
  refine ⟨_, _, by rw [Mem.set_ne _ _ n65]; exact Mem.set_same _ _ _, by simp, ?_⟩
  refine CallP.mono (cWalk (.func 41) [] [pP b6 0, pP b5 0] trivial (fun k μ => μ b4 = some (.cells 3 [pI (sizeL p.conds : Nat)]) ∧ μ b5 = some (.cells 3 [pI (-1)]) ∧ μ b6 = some (.cells 28 [pI 0]) ∧ firstE ((preL p.conds 0 0).take k) = none)
    (fun μ => ∃ a e, μ b5 = some (.cells 3 [pI (a : Nat)]) ∧ μ b6 = some (.cells 28 [pI e]) ∧ firstE (preL p.conds 0 0) = some (a, e)) _ fc p.conds 0 0 0 _ (Nat.le_refl _) (by omega) (by omega) ?_ (fun k x μ hx hI => ?_)) ?_
  · refine ⟨?_, ?_, by simp [wrL], rfl⟩
    · rw [Mem.set_ne _ _ (Ne.symm n64), Mem.set_ne _ _ (Ne.symm n54), Mem.set_ne _ _ (Ne.symm n64), Mem.set_ne _ _ (Ne.symm n54)]; exact hm1
    · rw [Mem.set_ne _ _ (Ne.symm n65), Mem.set_same]; simp [wrL]
  · rw [Nat.zero_add] at hI ⊢
    obtain ⟨i4, i5, i6, hfk⟩ := hI
    have hlx := lightL_pre _ _ _ x hl (List.mem_of_getElem? hx)
    have htk := firstE_take hx hfk
    show CallP _ _ _ _ _
    have hc := cCondE x.2.2 x.2.1 hlx
    rw [Cond.pv_eq] at hc ⊢
    refine G_shape_Shape_2.c (hc.call ⟨_, rfl, _, _, i6, by simp, _, rdM_wr, CIf.mk (fun h => ?_) (fun h => ?_)⟩)
    · have hne : (condE x.2.2 x.2.1 == 0) = false := by simpa using h
      refine ⟨_, _, by rw [Mem.set_ne _ _ (Ne.symm n65)]; exact i5, by simp, _, rdM_one (by rw [Mem.set_ne _ _ n65]; exact wrAt), .inr ⟨by rw [hne], x.1, condE x.2.2 x.2.1, ?_, ?_, ?_⟩⟩
      · exact wrAt
      · rw [Mem.set_ne _ _ n65]; exact wrAt
      · rw [hne] at htk; exact firstE_stop htk
    · have he : (condE x.2.2 x.2.1 == 0) = true := by simpa using h
      have he0 : condE x.2.2 x.2.1 = 0 := by simpa using he
      refine ⟨_, rdM_wr, .inl ⟨by rw [he], ?_, ?_, ?_, ?_⟩⟩
      · rw [Mem.set_ne _ _ (Ne.symm n64)]; exact i4
      · rw [Mem.set_ne _ _ (Ne.symm n65)]; exact i5
      · rw [wrAt, he0]
      · rw [htk, he]; rfl
  rintro v μ2 hv
  rcases hv with ⟨rfl, i4, i5, i6, hfk⟩ | ⟨x, rfl, a, e, i5, i6, hfe⟩
  · rw [Nat.zero_add, ← hpl, List.take_length] at hfk
    refine ⟨_, _, rfl, _, rdM_one i6, CIf.f rfl ?_⟩
    refine actsLoop (l := p.acts) (A := fun μ => μ b4 = some (.cells 3 [pI (sizeL p.conds : Nat)])) ha i4 (fun k hk u next hA hy hno => ?_) (fun u next _ hf => ?_)
    · refine CIf.t (by simpa using hk) ⟨by omega, _, atRow hk, _, _, _, _, _, _, _, _, _, _, _, _, _, _, _, _, _, _, _, rfl, (cAct p.acts[k]).call ⟨_, rfl, CIf.mk (fun a => ⟨_, rdM_one hA, ?_⟩) (fun a => hy (nt a) _ hA)⟩⟩
      rw [hsh, shapeT_a hfk (hno (nb a)), wrap_id (by omega) (by omega)]
      simp [wk, wk1, wk2]
    · refine CIf.f (by simp) ?_
      rw [hsh, shapeT_ok hfk hf]; rfl
  · have hne := firstE_ne hfe
    refine ⟨_, _, rfl, _, rdM_one i6, CIf.t (by simpa using hne) ⟨_, rdM_one i5, _, rdM_one i6, ?_⟩⟩
    rw [hsh, shapeT_e hfe]; rfl

end Go.Proofs.Ytfjemjnbemdkgaa

/-
  Which variables are known: the program's way.
-/
namespace Go.Proofs.Ytfjemjnbemdkgaa
open Go.Eng Go.RowKit
set_option linter.unusedVariables false
set_option linter.unusedSimpArgs false
set_option linter.unnecessarySimpa false

def tipL (fl : Fl) : List Nat := match fl with | .tip b _ => [b] | _ => []
theorem mem_tipL {fl : Fl} {x : Nat} : x ∈ tipL fl ↔ fl.at x := by cases fl <;> simp [tipL, Fl.at]

abbrev tyKnown : TypeId := 108
abbrev tyString : TypeId := 9

/-- The row of names: nil as it was laid, or a slice of its own. -/
def RowIn (μ : Mem) (p : PV) (row : List ByteArray) (F : List Nat) : Prop := (p = .list 1 .nil [] ∧ row = [] ∧ F = []) ∨ OwnV tyString 1 μ p (rowsS row) F

theorem RowIn.at_ {μ : Mem} {p : PV} {row : List ByteArray} {F : List Nat} (h : RowIn μ p row F) : ∀ x ∈ F, μ x ≠ none := by
  rcases h with ⟨_, _, rfl⟩ | h
  · intro x hx; cases hx
  · exact h.at_
theorem RowIn.same {μ μ' : Mem} {p : PV} {row : List ByteArray} {F : List Nat} (h : RowIn μ p row F) (hk : ∀ x ∈ F, μ' x = μ x) : RowIn μ' p row F := by
  rcases h with h | h
  · exact .inl h
  · exact .inr (h.same hk)
theorem RowIn.view {μ : Mem} {p : PV} {row : List ByteArray} {F : List Nat} (h : RowIn μ p row F) : BorV μ p (.list 1 .sh (rowsS row)) := by
  rcases h with ⟨rfl, rfl, _⟩ | h
  · exact .wk (.list 1 .nil [])
  · exact h.view (rowsS_each _) (rowsS_cell _)

/-- What is known, as it lies in memory: its members, and its row. -/
structure KnIn (μ : Mem) (k : Nat) (K row : List ByteArray) (F : List Nat) : Prop where
  ex : ∃ b L p Fs Fr, μ k = some (.cells tyKnown [pP b 0, p]) ∧ NSet μ b L Fs ∧ Up cmpS L ∧ (∀ y, y ∈ L ↔ y ∈ K) ∧ L.length ≤ K.length ∧ RowIn μ p row Fr ∧ k ∉ Fs ∧ (∀ x ∈ Fr, x ≠ k ∧ x ∉ Fs) ∧ F = k :: (Fs ++ Fr)
  row : row.length ≤ K.length

theorem KnIn.at_ {μ : Mem} {k : Nat} {K row : List ByteArray} {F : List Nat} (h : KnIn μ k K row F) : ∀ x ∈ F, μ x ≠ none := by
  obtain ⟨b, L, p, Fs, Fr, h1, h2, _, _, _, h3, _, _, rfl⟩ := h.ex
  intro x hx
  simp only [List.mem_cons, List.mem_append] at hx
  rcases hx with rfl | hx | hx
  · rw [h1]; simp
  · exact h2.at_.2 x hx
  · exact h3.at_ x hx

theorem KnIn.same {μ μ' : Mem} {k : Nat} {K row : List ByteArray} {F : List Nat} (h : KnIn μ k K row F) (hk : ∀ x ∈ F, μ' x = μ x) : KnIn μ' k K row F := by
  obtain ⟨b, L, p, Fs, Fr, h1, h2, h3, h4, h5, h6, h7, h8, rfl⟩ := h.ex
  exact ⟨⟨b, L, p, Fs, Fr, by rw [hk k (by simp)]; exact h1, h2.same fun x hx => hk x (by simp [hx]), h3, h4, h5, h6.same fun x hx => hk x (by simp [hx]), h7, h8, rfl⟩, h.row⟩

/-- nil as a slice of its own. -/
theorem KnIn.raw {μ : Mem} {k : Nat} {K row : List ByteArray} {F : List Nat} (h : KnIn μ k K row F) : ∃ μ', GU μ μ' ∧ Mv μ μ' F F ∧ ∃ b L p Fs Fr, μ' k = some (.cells tyKnown [pP b 0, p]) ∧ NSet μ' b L Fs ∧ Up cmpS L ∧ (∀ y, y ∈ L ↔ y ∈ K) ∧ L.length ≤ K.length ∧ OwnV tyString 1 μ' p (rowsS row) Fr ∧ k ∉ Fs ∧ (∀ x ∈ Fr, x ≠ k ∧ x ∉ Fs) ∧ F = k :: (Fs ++ Fr) := by
  obtain ⟨b, L, p, Fs, Fr, h1, h2, h3, h4, h5, h6, h7, h8, rfl⟩ := h.ex
  rcases h6 with ⟨rfl, rfl, rfl⟩ | h6
  · refine ⟨μ.set k (some (.cells tyKnown [pP b 0, .raw (.slice none 0 0)])), GU.bor (μ1 := M0) (fun _ _ h => by cases h) fun x o hx => ⟨rfl, ?_⟩, (Mv.set (.inl (by simp))).sub (by simp), b, L, _, Fs, [], Mem.set_same _ _ _, h2.same fun x hx => Mem.set_ne _ _ (fun e => h7 (e ▸ hx)), h3, h4, h5, .inl ⟨rfl, rfl, rfl⟩, h7, h8, rfl⟩
    by_cases e : x = k
    · subst e
      rw [Mem.set_same] at hx; cases hx
      exact .inr ⟨tyKnown, _, _, rfl, h1, BorL.cons (.same _) (BorL.cons (.nil 1 []) (BorL.nil _))⟩
    · rw [Mem.set_ne _ _ e] at hx; exact .inl hx
  · exact ⟨μ, GU.refl μ, Mv.refl _ _, b, L, p, Fs, Fr, h1, h2, h3, h4, h5, h6, h7, h8, rfl⟩

theorem cMet {μ : Mem} {k : Nat} {K row : List ByteArray} {F : List Nat} (h : KnIn μ k K row F) (hl : K.length ≤ 100000) (v : ByteArray) {R : PV → Mem → Prop} (hk : ∀ μ' F', KnIn μ' k (K ++ newK K v) (row ++ newK K v) F' → Mv μ μ' F F' → R (.tup []) μ') : CallP Try.prog 101 [pP k 0, pS v] μ R := by
  have hrow := h.row
  obtain ⟨μ0, hG, hm0, b, L, p, Fs, Fr, h1, h2, h3, h4, h5, h6, h7, h8, rfl⟩ := h.raw
  refine CallP.pre hG (G_shape_known_met.c ?_)
  refine ⟨_, rdM_at h1 (by simp), cPut h2 h3 (by omega) v fun μ1 L1 F1 t ht i1 i2 i3 i4 i5 => ⟨_, rfl, ?_⟩⟩
  have hkF : μ1 k = μ0 k := i5.keep k (by rw [h1]; simp) h7
  have hFr : ∀ x ∈ Fr, μ1 x = μ0 x := fun x hx => i5.keep x (h6.at_ x hx) (h8 x hx).2
  have h6' := h6.same hFr
  have h1' := hkF.trans h1
  have hkF1 : k ∉ F1 := fun hm => (i5.grow k hm).elim h7 fun e => by rw [h1] at e; cases e
  have hrF1 : ∀ x ∈ Fr, x ∉ F1 := fun x hx hm => (i5.grow x hm).elim (h8 x hx).2 (h6.at_ x hx)
  have hm1 : Mv μ0 μ1 (k :: (Fs ++ Fr)) (k :: (F1 ++ Fr)) := by
    refine (i5.wide (G := k :: (Fs ++ Fr)) fun x hx => by simp [hx]).sub fun x hx => ?_
    simp only [List.mem_cons, List.mem_append] at hx ⊢
    rcases hx with h | h | h
    · exact .inr (.inl h)
    · exact .inl h
    · exact .inr (.inr (.inr h))
  refine CIf.mk (fun e => ?_) (fun e => ?_)
  · have hn : v ∉ K := fun hv => ht.1 e ((h4 v).2 hv)
    have hb : hasB K v = false := by
      cases hb : hasB K v with
      | false => rfl
      | true => exact absurd (hasB_iff.1 hb) hn
    have hnew : newK K v = [v] := by unfold newK; rw [hb]; rfl
    rw [hnew] at hk
    obtain ⟨a, c, rfl, happ⟩ := h6'.app (rowsS_each row)
    refine ⟨_, _, _, rdM_at h1' (by simp), ?_⟩
    simp only [rowsS_len] at happ
    rw [rowsS_len]
    refine happ [pS v] 16 _ rfl rfl (by omega) (by omega) fun b' c' rest μ2 hb' hrest hc' hm2 => ?_
    have nk : b' ≠ k := by
      rintro rfl
      rcases hm2.grow b' (by simp) with h | h
      · exact (h8 b' h).1 rfl
      · rw [h1'] at h; cases h
    have nF : b' ∉ F1 := fun hx => by
      rcases hm2.grow b' (by simp) with h | h
      · exact hrF1 b' h hx
      · exact i1.at_.2 b' hx h
    have hk2 : μ2 k = μ1 k := hm2.keep k (by rw [h1']; simp) fun hx => (h8 k hx).1 rfl
    refine ⟨_, _, hk2.trans h1', by simp, ?_⟩
    have hw : wrL [pP b 0, .raw (.slice a (rowsS row).length c)] (0 + 1) [PV.raw (.slice (some ⟨b', 0, none⟩) (row.length + 1) c')] = [pP b 0, .raw (.slice (some ⟨b', 0, none⟩) (row.length + 1) c')] := by simp [wrL]
    rw [hw]
    have hm2' : Mv μ1 μ2 (k :: (F1 ++ Fr)) (k :: (F1 ++ [b'])) := by
      refine (hm2.wide (G := k :: (F1 ++ Fr)) fun x hx => by simp [hx]).sub fun x hx => ?_
      simp only [List.mem_cons, List.mem_append, List.not_mem_nil, or_false] at hx ⊢
      rcases hx with h | h | h
      · exact .inr (.inl h)
      · exact .inr (.inr (.inl h))
      · exact .inl h
    refine hk _ (k :: (F1 ++ [b'])) ⟨⟨b, L1, _, F1, [b'], Mem.set_same _ _ _, i1.same fun x hx => ?_, i2, fun y => ?_, by rw [e] at i4; simp at i4 ⊢; omega, .inr (.inr ⟨b', c', rest, ?_, rfl, ?_, ?_, ?_⟩), hkF1, fun x hx => ?_, rfl⟩, by simp; omega⟩ (hm0.trans (hm1.trans (hm2'.trans ((Mv.set (.inl (by simp))).sub (by simp)))))
    · rw [Mem.set_ne _ _ (show x ≠ k from fun e => hkF1 (e ▸ hx))]
      exact hm2.keep x (i1.at_.2 x hx) fun hx' => hrF1 x hx' hx
    · rw [i3, h4]; simp [or_comm]
    · simp
    · rw [Mem.set_ne _ _ nk, hb']; simp [rowsS]
    · simpa using hrest
    · simpa using hc'
    · simp at hx; subst hx; exact ⟨nk, nF⟩
  · have hv : v ∈ K := by
      refine Classical.byContradiction fun hn => ?_
      have := ht.2 fun hv => hn ((h4 v).1 hv)
      rw [e] at this; cases this
    have hnew : newK K v = [] := by unfold newK; rw [hasB_iff.2 hv]; rfl
    rw [hnew, List.append_nil, List.append_nil] at hk
    refine hk μ1 (k :: (F1 ++ Fr)) ⟨⟨b, L1, p, F1, Fr, h1', i1, i2, fun y => ?_, ?_, .inr h6', hkF1, fun x hx => ⟨(h8 x hx).1, hrF1 x hx⟩, rfl⟩, hrow⟩ (hm0.trans hm1)
    · rw [i3, h4]; exact ⟨fun h => h.elim (fun e => e ▸ hv) id, .inr⟩
    · rw [e] at i4; simp at i4; omega

theorem cHas {μ : Mem} {k : Nat} {K row : List ByteArray} {F : List Nat} (h : KnIn μ k K row F) (hl : K.length ≤ 100000) (v : ByteArray) {R : PV → Mem → Prop} (hk : R (pB (hasB K v)) μ) : CallP Try.prog 93 [pP k 0, pS v] μ R := by
  obtain ⟨b, L, p, Fs, Fr, h1, h2, h3, h4, h5, h6, h7, h8, rfl⟩ := h.ex
  refine G_shape_known_has.c ?_
  refine ⟨_, rdM_at h1 (by simp), cPlace h2 h3 (by omega) v fun i t hf => ⟨_, _, rfl, ?_⟩⟩
  have : t = hasB K v := by
    have e : t = true ↔ hasB K v = true := by rw [hf.mem cmpS_ok, h4, hasB_iff]
    exact Bool.eq_iff_iff.2 e
  rw [this]; exact hk

theorem cInner {μ : Mem} {k : Nat} {K row : List ByteArray} {F : List Nat} (h : KnIn μ k K row F) {R : PV → Mem → Prop} (hk : ∀ μ' k2 F1 F2, KnIn μ' k K row F1 → KnIn μ' k2 K [] F2 → (∀ x ∈ F2, x ∉ F1) → Mv μ μ' F (F1 ++ F2) → R (pP k2 0) μ') : CallP Try.prog 91 [pP k 0] μ R := by
  have hat := h.at_
  obtain ⟨b, L, p, Fs, Fr, h1, h2, h3, h4, h5, h6, h7, h8, rfl⟩ := h.ex
  refine G_shape_known_inner.c ?_
  refine ⟨_, rdM_at h1 (by simp), cClone h2 fun μ1 b2 hb2 hne i1 i2 i3 => ⟨_, rfl, fun k2 hk2 => ?_⟩⟩
  have hkF : μ1 k = μ k := i3.keep k (by rw [h1]; simp) h7
  have hk1 : μ1 k ≠ none := by rw [hkF, h1]; simp
  have htip : ∀ x ∈ Fr, μ1 x = μ x := fun x hx => i3.keep x (hat x (by simp [hx])) (h8 x hx).2
  have n1 : ∀ x, μ1 x ≠ none → x ≠ k2 := fun x hx e => hx (e ▸ hk2)
  have nb2 : b2 ≠ k := by
    rintro rfl
    rcases hb2 with h | h
    · exact h7 h
    · rw [h1] at h; cases h
  have hbk : b ≠ k := by rintro rfl; exact h7 h2.at_.1
  have ntip : ∀ x ∈ Fr, x ≠ b ∧ x ≠ b2 := fun x hx => ⟨fun e => (h8 x hx).2 (e ▸ h2.at_.1), fun e => by
    subst e
    rcases hb2 with h | h
    · exact (h8 x hx).2 h
    · exact hat x (by simp [hx]) h⟩
  have tip1 : ∀ x ∈ Fr, μ1 x ≠ none := fun x hx => by rw [htip x hx]; exact hat x (by simp [hx])
  refine hk _ k2 (k :: ([b] ++ Fr)) (k2 :: ([b2] ++ [])) ⟨⟨b, L, p, [b], Fr, ?_, i1.same fun x hx => ?_, h3, h4, h5, h6.same fun x hx => ?_, by simp [Ne.symm hbk], fun x hx => ⟨(h8 x hx).1, by simp [(ntip x hx).1]⟩, rfl⟩, h.row⟩ ⟨⟨b2, L, _, [b2], [], Mem.set_same _ _ _, i2.same fun x hx => ?_, h3, h4, h5, .inl ⟨rfl, rfl, rfl⟩, ?_, fun x hx => by simp at hx, rfl⟩, by simp⟩ (fun x hx => ?_) ?_
  · rw [Mem.set_ne _ _ (n1 k hk1), hkF]; exact h1
  · exact Mem.set_ne _ _ (n1 x (i1.at_.2 x hx))
  · rw [Mem.set_ne _ _ (n1 x (tip1 x hx))]; exact htip x hx
  · exact Mem.set_ne _ _ (n1 x (i2.at_.2 x hx))
  · simp only [List.mem_singleton]; rintro rfl; exact i2.at_.2 k2 (by simp) hk2
  · simp only [List.append_nil, List.mem_cons, List.not_mem_nil, or_false] at hx
    intro hx'
    simp only [List.mem_cons, List.mem_append, List.not_mem_nil, or_false] at hx'
    rcases hx with rfl | rfl
    · rcases hx' with e | e | e
      · exact hk1 (e ▸ hk2)
      · exact i1.at_.2 x (by simp [e]) hk2
      · exact tip1 x e hk2
    · rcases hx' with e | e | e
      · exact nb2 e
      · exact hne e
      · exact (ntip x e).2 rfl
  · refine ((i3.wide (G := k :: (Fs ++ Fr)) fun x hx => by simp [hx]).trans (Mv.set (.inr hk2))).sub fun x hx => ?_
    simp only [List.append_nil, List.mem_cons, List.mem_append, List.not_mem_nil, or_false] at hx ⊢
    rcases hx with (rfl | rfl | hx) | rfl | rfl
    · simp
    · simp
    · simp [hx]
    · simp
    · simp

theorem cField {μ : Mem} {k : Nat} {K row : List ByteArray} {F : List Nat} (h : KnIn μ k K row F) (fl : Fl) (ts : List Test) (hl : K.length + ts.length ≤ 100000) {R : PV → Mem → Prop}
    (hok : ∀ μ' F' K' e, metL K ts = some K' → K' = K ++ e → e.length ≤ ts.length → KnIn μ' k K' (row ++ e) F' → Mv μ μ' F F' → R (pB true) μ') (hno : ∀ μ' F', metL K ts = none → Mv μ μ' F F' → R (pB false) μ') : CallP Try.prog 102 [pP k 0, .list 6 fl (ts.map Test.pv)] μ R := by
  refine G_shape_known_field.c ?_
  refine LoopI.each (n := ts.length) (by omega) (fun i u => ∃ Ki e Fi, metL K (ts.take i) = some Ki ∧ Ki = K ++ e ∧ e.length ≤ i ∧ KnIn u k Ki (row ++ e) Fi ∧ Mv μ u F Fi) ⟨K, [], F, by simp [metL], by simp, by simp, by simpa using h, Mv.refl _ _⟩ ?_ ?_
  · rintro i u next hi ⟨Ki, e, Fi, i1, rfl, i2, i3, i4⟩ hnext
    have hlen : (K ++ e).length ≤ 100000 := by rw [List.length_append]; omega
    refine CIf.t (by simpa using hi) ⟨by omega, _, atRow hi, _, _, _, _, _, _, _, rfl, ?_⟩
    have hT := metL_take hi i1
    have same : metT (K ++ e) ts[i] = some (K ++ e) → ∀ u', u' = u → next (IntKind.wrap .i64 ((i : Int) + 1)) u' := fun hm u' hu' => by
      subst hu'
      exact hnext _ ⟨K ++ e, e, Fi, by rw [hT, hm], rfl, by omega, i3, i4⟩
    refine CIf.mk (fun h8 => same (by simp [metT, h8]) _ rfl) (fun h8 => CIf.mk (fun hv => same (by simp [metT, hv]) _ rfl) (fun hv => CIf.mk (fun h1 => ?_) (fun h1 => ?_)))
    · refine cMet i3 hlen ts[i].var fun μ' F' j1 j2 => ⟨rfl, hnext _ ⟨K ++ (e ++ newK (K ++ e) ts[i].var), e ++ newK (K ++ e) ts[i].var, F', ?_, rfl, ?_, by rw [List.append_assoc, List.append_assoc] at j1; exact j1, i4.trans j2⟩⟩
      · rw [hT]; simp [metT, h8, hv, h1]
      · have := newK_len (K ++ e) ts[i].var; rw [List.length_append]; omega
    · refine cHas i3 hlen ts[i].var ⟨_, rfl, CIf.mk (fun hh => ?_) (fun hh => ?_)⟩
      · refine hno u Fi (metL_stop hi i1 ?_) i4
        have hh : hasB (K ++ e) ts[i].var = false := nb hh
        simp [metT, h8, hv, h1, hh]
      · have hh : hasB (K ++ e) ts[i].var = true := nt hh
        exact same (by simp [metT, h8, hv, h1, hh]) _ rfl
  · rintro u next ⟨Ki, e, Fi, i1, rfl, i2, i3, i4⟩
    rw [List.take_length] at i1
    exact CIf.f (by simp) (hok u Fi _ e i1 rfl i2 i3 i4)

theorem cOne {μ : Mem} {k : Nat} {K row : List ByteArray} {F : List Nat} (h : KnIn μ k K row F) (c : Cond) (hc : okC c) (hl : K.length ≤ 10000) {R : PV → Mem → Prop}
    (hok : ∀ μ' F' K' e, metC K c = some K' → K' = K ++ e → e.length ≤ 9 → KnIn μ' k K' (row ++ e) F' → Mv μ μ' F F' → R (pB true) μ') (hno : ∀ μ' F', metC K c = none → Mv μ μ' F F' → R (pB false) μ') : CallP Try.prog 92 [pP k 0, .agg c.pv] μ R := by
  obtain ⟨_, ha, hv, _, _, _⟩ := (okC_eq c).1 hc
  rw [Cond.pv_eq]
  refine G_shape_known_one.c ?_
  have go : ∀ (u : Mem) (e : List ByteArray) (F1 : List Nat), K ++ e = (bif c.goal then K ++ newK K c.id else K) → e.length ≤ 1 → KnIn u k (K ++ e) (row ++ e) F1 → Mv μ u F F1 →
      CallP Try.prog 93 [pP k 0, pS c.id] u fun v_1 u_2 => ∃ x14, v_1 = pB x14 ∧ CIf x14 (CallP Try.prog 102 [pP k 0, .list 6 .sh (c.attr.map Test.pv)] u_2 fun v_2 u_3 => ∃ x19, v_2 = pB x19 ∧ CIf x19 (CallP Try.prog 102 [pP k 0, .list 6 .sh (c.value.map Test.pv)] u_3 fun v_3 u_4 => ∃ x25, v_3 = pB x25 ∧ R (pB x25) u_4) (R (pB false) u_3)) (R (pB false) u_2) := by
    intro u e F1 he hle i1 i2
    have hm : metC K c = (bif hasB (K ++ e) c.id then (metL (K ++ e) c.attr).bind fun K1 => metL K1 c.value else none) := by unfold metC; rw [← he]
    have hlen : (K ++ e).length ≤ 10001 := by rw [List.length_append]; omega
    refine cHas i1 (by omega) c.id ⟨_, rfl, CIf.mk (fun hh => ?_) (fun hh => hno u F1 (by rw [hm, hh]; rfl) i2)⟩
    rw [hh] at hm
    refine cField i1 .sh c.attr (by omega) (fun μ1 F2 K1 e1 j1 j2 j3 j4 j5 => ⟨_, rfl, CIf.t rfl ?_⟩) (fun μ1 F2 j1 j5 => ⟨_, rfl, CIf.f rfl (hno μ1 F2 (by rw [hm, j1]; rfl) (i2.trans j5))⟩)
    subst j2
    refine cField j4 .sh c.value (by rw [List.length_append]; omega) (fun μ2 F3 K2 e2 l1 l2 l3 l4 l5 => ⟨_, rfl, ?_⟩) (fun μ2 F3 l1 l5 => ⟨_, rfl, hno μ2 F3 (by rw [hm]; simp only [cond_true, j1, Option.bind_some]; exact l1) (i2.trans (j5.trans l5))⟩)
    refine hok μ2 F3 K2 (e ++ e1 ++ e2) (by rw [hm]; simp only [cond_true, j1, Option.bind_some]; exact l1) (by rw [l2]; simp) (by simp; omega) ?_ (i2.trans (j5.trans l5))
    simpa using l4
  refine CJoin.of fun J hJ => CIf.mk (fun hg => ?_) (fun hg => ?_)
  · refine cMet h (by omega) c.id fun μ1 F1 j1 j2 => ⟨rfl, hJ _ _ (go μ1 _ F1 (by rw [hg]; rfl) (newK_len K c.id) j1 j2)⟩
  · exact hJ _ _ (go μ [] F (by rw [hg]; simp) (by simp) (by simpa using h) (Mv.refl _ _))

/-- What another known is does not matter for this one. -/
theorem KnIn.beside {μ μ' μ'' : Mem} {k : Nat} {K row : List ByteArray} {F F1 F2 F2' : List Nat} (h : KnIn μ' k K row F1) (hd : ∀ x ∈ F2, x ∉ F1) (hm : Mv μ μ' F (F1 ++ F2)) (hm' : Mv μ' μ'' F2 F2') : KnIn μ'' k K row F1 ∧ Mv μ μ'' F F1 := by
  refine ⟨h.same fun x hx => hm'.keep x (h.at_ x hx) fun hx' => hd x hx' hx, ?_⟩
  refine (hm.trans (hm'.wide (G := F1 ++ F2) fun x hx => by simp [hx])).sub fun x hx => by simp [hx]

theorem cKConds : ∀ (n : Nat) {μ : Mem} {k : Nat} {K row : List ByteArray} {F : List Nat} (h : KnIn μ k K row F) (fl : Fl) (l : List Cond) (at_ : Nat), sizeL l ≤ n → okL l → K.length ≤ 9 * at_ → at_ + sizeL l ≤ 1000 → ∀ {R : PV → Mem → Prop},
    (∀ μ' F' K' e, knowL l at_ K = .ok K' → K' = K ++ e → K'.length ≤ 9 * (at_ + sizeL l) → KnIn μ' k K' (row ++ e) F' → Mv μ μ' F F' → R (.tup [pI ((at_ + sizeL l : Nat) : Int), pB true]) μ') → (∀ μ' F' (e : Nat), knowL l at_ K = .error e → Mv μ μ' F F' → R (.tup [pI (e : Int), pB false]) μ') →
    CallP Try.prog 76 [pP k 0, .list 7 fl (l.map Cond.pv), pI (at_ : Nat)] μ R := by
  intro n
  induction n with
  | zero =>
    intro μ k K row F h fl l at_ hn _ _ _ R hok _
    have : l = [] := by
      cases l with
      | nil => rfl
      | cons c l => simp [sizeL, sizeC_eq] at hn
    subst this
    refine G_shape_known_conds.c ?_
    exact LoopI.each2 (n := 0) (by omega) (fun i x u => x = ((at_ : Nat) : Int) ∧ u = μ) ⟨rfl, rfl⟩ (fun i x u next hi => by omega) (fun x u next hx => by
      obtain ⟨rfl, rfl⟩ := hx
      exact CIf.f (by simp) (hok u F K [] rfl (by simp) (by simp [sizeL]; omega) (by simpa using h) (Mv.refl _ _)))
  | succ n ih =>
    intro μ k K row F h fl l at_ hn hokl hK hsz R hok herr
    refine G_shape_known_conds.c ?_
    have hll := sizeL_len l
    refine LoopI.each2 (n := l.length) (by omega) (fun i x u => x = ((at_ + sizeL (l.take i) : Nat) : Int) ∧ ∃ Ki e Fi, knowL (l.take i) at_ K = .ok Ki ∧ Ki = K ++ e ∧ Ki.length ≤ 9 * (at_ + sizeL (l.take i)) ∧ KnIn u k Ki (row ++ e) Fi ∧ Mv μ u F Fi) ⟨by simp [sizeL], K, [], F, by simp [knowL], by simp, by simp [sizeL]; omega, by simpa using h, Mv.refl _ _⟩ ?_ ?_
    · rintro i _ u next hi ⟨rfl, Ki, e, Fi, i1, rfl, i2, i3, i4⟩ hnext
      have hm := sizeL_mem (List.getElem_mem hi)
      have hs := sizeL_split l (i + 1)
      have hst := sizeL_take hi
      rw [hst] at hs
      have hokc := okL_iff.1 hokl l[i] (List.getElem_mem hi)
      obtain ⟨hkind, _, _, _, _, hokcs⟩ := (okC_eq _).1 hokc
      have hT := knowL_take hi i1
      have hC := knowC_eq l[i] (at_ + sizeL (l.take i)) (K ++ e)
      have hrow : rowM l[i].pv 0 7 = some [pI l[i].kind, pB l[i].goal, pS l[i].id, .list 6 .sh (l[i].attr.map Test.pv), .list 6 .sh (l[i].value.map Test.pv), pB l[i].acc, .list 7 .sh (l[i].conds.map Cond.pv)] := by rw [Cond.pv_eq]; rfl
      refine CIf.t (by simpa using hi) ⟨by omega, _, atRow hi, _, _, _, _, _, _, _, _, _, _, hrow, ?_⟩
      dsimp only
      have hat1 : IntKind.wrap .i64 (((at_ + sizeL (l.take i) : Nat) : Int) + 1) = ((at_ + sizeL (l.take i) + 1 : Nat) : Int) := by rw [wrap_id (by omega) (by omega)]; omega
      refine CJoin.of fun J hJ => CIf.mk (fun hp => ?_) (fun hp => ?_)
      · have hk1 : (l[i].kind == 1) = false := by simpa using hp
        refine cInner i3 fun μ1 k2 F1 F2 j1 j2 j3 j4 => ⟨_, rfl, hJ _ _ (CIf.mk (fun h3 => ?_) (fun h3 => ?_))⟩
        · rw [hat1]
          rw [h3] at hC
          refine ih j2 .sh l[i].conds (at_ + sizeL (l.take i) + 1) (by omega) hokcs (by omega) (by omega) (fun μ2 F3 K2 e2 l1 l2 l3 l4 l5 => ⟨_, _, rfl, CIf.f rfl ?_⟩) (fun μ2 F3 e2 l1 l5 => ⟨_, _, rfl, CIf.t rfl (herr μ2 _ e2 (knowL_stop hi i1 (by rw [hC, l1]; rfl)) (i4.trans (j1.beside j3 j4 l5).2))⟩)
          obtain ⟨b1, b2⟩ := j1.beside j3 j4 l5
          refine hnext _ _ ⟨?_, K ++ e, e, F1, ?_, rfl, ?_, b1, i4.trans b2⟩
          · rw [hst]; congr 1; omega
          · rw [hT, hC, l1]; rfl
          · rw [hst]; omega
        · rw [h3, hk1] at hC
          have hcs : l[i].conds.length = 0 := by
            rcases hkind with h | h
            · rw [h] at h3; simp at h3
            · exact h.2
          have hcs0 : l[i].conds = [] := List.eq_nil_of_length_eq_zero hcs
          have hsz0 : sizeL l[i].conds = 0 := by rw [hcs0]; rfl
          have hpv : PV.agg [pI l[i].kind, pB l[i].goal, pS l[i].id, .list 6 .sh (l[i].attr.map Test.pv), .list 6 .sh (l[i].value.map Test.pv), pB l[i].acc, .list 7 .sh (l[i].conds.map Cond.pv)] = .agg l[i].pv := by rw [Cond.pv_eq]
          rw [hpv]
          refine cOne j2 l[i] hokc (by omega) (fun μ2 F3 K2 e2 l1 l2 l3 l4 l5 => ⟨_, rfl, CIf.f rfl ?_⟩) (fun μ2 F3 l1 l5 => ⟨_, rfl, CIf.t rfl (herr μ2 _ _ (knowL_stop hi i1 (by rw [hC, l1]; rfl)) (i4.trans (j1.beside j3 j4 l5).2))⟩)
          obtain ⟨b1, b2⟩ := j1.beside j3 j4 l5
          rw [hat1]
          refine hnext _ _ ⟨?_, K ++ e, e, F1, ?_, rfl, ?_, b1, i4.trans b2⟩
          · rw [hst]; congr 1; omega
          · rw [hT, hC, l1]; rfl
          · rw [hst]; omega
      · have hk1 : l[i].kind = 1 := by simpa using hp
        have h3 : (l[i].kind == 3) = false := by rw [hk1]; rfl
        refine hJ _ _ (CIf.f h3 ?_)
        rw [h3, show (l[i].kind == 1) = true by rw [hk1]; rfl] at hC
        have hcs : l[i].conds.length = 0 := by
          rcases hkind with h | h
          · rw [hk1] at h; cases h
          · exact h.2
        have hcs0 : l[i].conds = [] := List.eq_nil_of_length_eq_zero hcs
        have hsz0 : sizeL l[i].conds = 0 := by rw [hcs0]; rfl
        have hpv : PV.agg [pI l[i].kind, pB l[i].goal, pS l[i].id, .list 6 .sh (l[i].attr.map Test.pv), .list 6 .sh (l[i].value.map Test.pv), pB l[i].acc, .list 7 .sh (l[i].conds.map Cond.pv)] = .agg l[i].pv := by rw [Cond.pv_eq]
        rw [hpv]
        refine cOne i3 l[i] hokc (by omega) (fun μ2 F3 K2 e2 l1 l2 l3 l4 l5 => ⟨_, rfl, CIf.f rfl ?_⟩) (fun μ2 F3 l1 l5 => ⟨_, rfl, CIf.t rfl (herr μ2 _ _ (knowL_stop hi i1 (by rw [hC, l1]; rfl)) (i4.trans l5))⟩)
        rw [hat1]
        refine hnext _ _ ⟨?_, K2, e ++ e2, F3, ?_, by rw [l2, List.append_assoc], ?_, by rw [← List.append_assoc]; exact l4, i4.trans l5⟩
        · rw [hst]; congr 1; omega
        · rw [hT, hC, l1]; rfl
        · rw [hst, l2, List.length_append]; omega
    · rintro _ u next ⟨rfl, Ki, e, Fi, i1, rfl, i2, i3, i4⟩
      rw [List.take_length] at i1 i2
      refine CIf.f (by simp) ?_
      dsimp only
      rw [List.take_length]
      exact hok u Fi _ e i1 rfl i2 i3 i4

theorem cLacks {μ : Mem} {k : Nat} {K row : List ByteArray} {F : List Nat} (h : KnIn μ k K row F) (hl : K.length ≤ 100000) (a : Atom) {R : PV → Mem → Prop} (hk : R (pB (lackB K a)) μ) : CallP Try.prog 77 [pP k 0, .agg a.pv] μ R := by
  refine G_shape_known_lacks.c ?_
  refine CIf.mk (fun hv => cHas h hl a.var ⟨_, rfl, ?_⟩) (fun hv => ?_)
  · have : lackB K a = !hasB K a.var := by unfold lackB; rw [hv]; rfl
    rw [this] at hk; exact hk
  · have : lackB K a = false := by unfold lackB; rw [hv]; rfl
    rw [this] at hk; exact hk

end Go.Proofs.Ytfjemjnbemdkgaa

/-
  Check, Vars: the program's.
-/
namespace Go.Proofs.Ytfjemjnbemdkgaa
open Go.Eng Go.RowKit
set_option linter.unusedVariables false
set_option linter.unusedSimpArgs false
set_option linter.unnecessarySimpa false

@[reducible] def prodPV (fc fa : Fl) (p : Prod) : PV := .agg [pS p.name, .list 7 fc (p.conds.map Cond.pv), .list 19 fa (p.acts.map Actn.pv)]
@[reducible] def checkPV (x : Int × Int × List ByteArray) : PV := .tup [pI x.1, pI x.2.1, .list 1 .sh (rowsS x.2.2)]

theorem cCheckedR {μ : Mem} (fc fa : Fl) (p : Prod) (hl : lightL p.conds) (hs : sizeL p.conds ≤ 1000000) (ha : p.acts.length ≤ 1000000) {R : PV → Mem → Prop} (hR : ∀ μ' q Fr, RowIn μ' q (checkE p).2.2 Fr → Mv μ μ' [] Fr → R (.tup [pI (checkE p).1, pI (checkE p).2.1, q]) μ') : CallP Try.prog 50 [prodPV fc fa p] μ R := by
  refine G_shape_checked.c ?_
  have nilR : (checkE p).2.2 = [] → ∀ μ' a e, Mv μ μ' [] [] → (checkE p).1 = a → (checkE p).2.1 = e → R (.tup [pI a, pI e, .list 1 .nil []]) μ' := fun h0 μ' a e hm h1 h2 => by
    have := hR μ' (.list 1 .nil []) [] (.inl ⟨rfl, h0, rfl⟩) hm
    rw [h1, h2] at this
    exact this
  refine (cShape .sh .sh p hl hs ha).call ⟨_, _, rfl, CIf.mk (fun h1 => ?_) (fun h1 => ?_)⟩
  · have hE : checkE p = ((shapeE p).1, (shapeE p).2, []) := by unfold checkE; rw [h1]; rfl
    exact nilR (by rw [hE]) _ _ _ (Mv.refl _ _) (by rw [hE]) (by rw [hE])
  have h0 : (shapeE p).2 = 0 := by simpa using h1
  obtain ⟨s1, s2, s3, s4, hok⟩ := shapeE_ok h0
  cases hc : p.conds with
  | nil => rw [hc] at s1; simp [sizeL] at s1
  | cons c cs =>
  refine ⟨by omega, c.pv, rfl, _, by rw [Cond.pv_eq]; rfl, CIf.mk (fun h2 => ?_) (fun h2 => ?_)⟩
  · have hE : checkE p = (0, 9, []) := by unfold checkE; rw [h1, hc]; simp only [cond_false, List.head?_cons, Option.map_some, Option.getD_some, h2, cond_true]
    exact nilR (by rw [hE]) _ _ _ (Mv.refl _ _) (by rw [hE]) (by rw [hE])
  have hE : checkE p = match knowL p.conds 0 [] with
      | .error n => ((n : Int), 6, [])
      | .ok K => match firstL K 0 p.acts with
        | some i => (((sizeL p.conds + i : Nat) : Int), 6, [])
        | none => (-1, 0, K) := by
    unfold checkE
    rw [h1]
    simp only [cond_false]
    rw [show (p.conds.head?.map Cond.kind).getD 0 = c.kind by rw [hc]; rfl, h2]
    rfl
  rw [← hc]
  refine cNew .nil fun μ1 b hb i1 i2 => ⟨_, rfl, fun k hk => ?_⟩
  have hkb : k ≠ b := by rintro rfl; exact i1.at_.2 k (by simp) hk
  have hkn : KnIn (μ1.set k (some (.cells tyKnown [pP b 0, .list 1 .nil []]))) k [] [] (k :: ([b] ++ [])) := by
    refine ⟨⟨b, [], _, [b], [], Mem.set_same _ _ _, i1.same fun x hx => Mem.set_ne _ _ ?_, List.Pairwise.nil, fun y => Iff.rfl, Nat.le_refl _, .inl ⟨rfl, rfl, rfl⟩, by simpa using hkb, fun x hx => by simp at hx, rfl⟩, Nat.le_refl _⟩
    rintro rfl
    simp at hx; exact hkb hx
  have hm0 : Mv μ (μ1.set k (some (.cells tyKnown [pP b 0, .list 1 .nil []]))) [] (k :: ([b] ++ [])) := i2.trans (Mv.set (.inr hk))
  refine CallP.post (cKConds _ hkn fc p.conds 0 (Nat.le_refl _) hok (by simp) (by omega) (fun μ2 F2 K e j1 j2 j3 j4 j5 => ?_) (fun μ2 F2 e j1 j5 => ?_))
  · rw [List.nil_append] at j2 j4
    subst j2
    obtain ⟨μ3, hG, hm3, b', L, q, Fs, Fr, m1, _, _, _, _, m6, _, _, hF⟩ := j4.raw
    refine ⟨μ3, hG, _, _, rfl, CIf.f rfl ?_⟩
    rw [Nat.zero_add] at j3
    have j4' : KnIn μ3 k K K F2 := by
      obtain ⟨μ4, _, _, _⟩ := j4.raw
      exact ⟨⟨b', L, q, Fs, Fr, m1, by assumption, by assumption, by assumption, by assumption, .inr m6, by assumption, by assumption, hF⟩, Nat.le_refl _⟩
    have hmv : Mv μ μ3 [] F2 := hm0.trans (j5.trans hm3)
    have hmv0 : Mv μ μ3 [] [] := hmv.sub (by simp)
    refine LoopI.each (n := p.acts.length) (by omega) (fun i u => u = μ3 ∧ firstL K 0 (p.acts.take i) = none) ⟨rfl, rfl⟩ ?_ ?_
    · rintro i u next hi ⟨rfl, hf⟩ hnext
      have hT := firstL_take hi hf
      refine CIf.t (by simpa using hi) ⟨by omega, _, atRow hi, _, _, _, _, _, _, _, _, _, _, _, _, _, _, _, _, _, _, _, rfl, ?_⟩
      have hit : lackA K p.acts[i] = true → R (.tup [pI (IntKind.wrap .i64 (((0 + sizeL p.conds : Nat) : Int) + (i : Int))), pI 6, .list 1 .nil []]) u := fun hl => by
        have hE' : checkE p = (((sizeL p.conds + i : Nat) : Int), 6, []) := by rw [hE, j1]; simp only [firstL_hit hi hf hl, Nat.zero_add]
        refine nilR (by rw [hE']) _ _ _ hmv0 ?_ (by rw [hE'])
        rw [hE', wrap_id (by omega) (by omega)]; simp only; omega
      have miss : lackA K p.acts[i] = false → next (IntKind.wrap .i64 ((i : Int) + 1)) u := fun hl => hnext _ ⟨rfl, by rw [hT, hl]; rfl⟩
      refine cLacks j4' (by omega) p.acts[i].attr ⟨_, rfl, CIf.mk (fun a1 => ?_) (fun a1 => ?_)⟩
      · exact hit (by unfold lackA; rw [a1]; rfl)
      refine CIf.mk (fun a2 => ?_) (fun a2 => miss (by unfold lackA; rw [a1, a2]; rfl))
      refine cLacks j4' (by omega) p.acts[i].value.a ⟨_, rfl, CIf.mk (fun a3 => ?_) (fun a3 => ?_)⟩
      · exact hit (by unfold lackA; rw [a1, a2, a3]; rfl)
      refine cLacks j4' (by omega) p.acts[i].value.b ⟨_, rfl, CIf.mk (fun a4 => ?_) (fun a4 => ?_)⟩
      · exact hit (by unfold lackA; rw [a1, a2, a3, a4]; rfl)
      · exact miss (by unfold lackA; rw [a1, a2, a3, a4]; rfl)
    · rintro u next ⟨rfl, hf⟩
      rw [List.take_length] at hf
      have hE' : checkE p = (-1, 0, K) := by rw [hE, j1]; simp only [hf]
      obtain ⟨a, c', rfl, _⟩ := m6.app (rowsS_each K)
      refine CIf.f (by simp) ⟨_, _, _, rdM_at m1 (by simp), ?_⟩
      have := hR u _ Fr (by rw [hE']; exact .inr m6) (hmv.sub fun x hx => by rw [hF]; simp [hx])
      rw [hE'] at this
      exact this
  · have hE' : checkE p = ((e : Int), 6, []) := by rw [hE, j1]
    exact ⟨μ2, GU.refl _, _, _, rfl, CIf.t rfl (nilR (by rw [hE']) _ _ _ ((hm0.trans j5).sub (by simp)) (by rw [hE']) (by rw [hE']))⟩

theorem cChecked (fc fa : Fl) (p : Prod) (hl : lightL p.conds) (hs : sizeL p.conds ≤ 1000000) (ha : p.acts.length ≤ 1000000) : Pure Try.prog 50 [prodPV fc fa p] (checkPV (checkE p)) := by
  refine CallP.sealq (cCheckedR fc fa p hl hs ha fun μ' q Fr h hm => ⟨checkPV (checkE p), .tup rfl (fun d hd => ?_) (fun i c d hc hd => ?_), rfl⟩)
  · simp only [List.mem_cons, List.not_mem_nil, or_false] at hd
    rcases hd with rfl | rfl | rfl <;> rfl
  · match i with
    | 0 => simp at hc hd; subst hc hd; exact .same _
    | 1 => simp at hc hd; subst hc hd; exact .same _
    | 2 => simp at hc hd; subst hc hd; exact h.view
    | n + 3 => simp at hc

theorem cCheck (fc fa : Fl) (p : Prod) (hl : lightL p.conds) (hs : sizeL p.conds ≤ 1000000) (ha : p.acts.length ≤ 1000000) : Pure Try.prog 16 [prodPV fc fa p] (.tup [pI (checkE p).1, pI (checkE p).2.1]) := by
  refine PureK.of (G_shape_Check.c ?_)
  exact (cChecked .sh .sh p hl hs ha).call ⟨_, _, _, _, rfl, rfl⟩

theorem cVars (fc fa : Fl) (p : Prod) (hl : lightL p.conds) (hs : sizeL p.conds ≤ 1000000) (ha : p.acts.length ≤ 1000000) : Pure Try.prog 22 [prodPV fc fa p] (.list 1 .sh (rowsS (checkE p).2.2)) := by
  refine PureK.of (G_shape_Vars.c ?_)
  exact (cChecked .sh .sh p hl hs ha).call ⟨_, _, _, _, rfl, rfl⟩

theorem cVarsR {μ : Mem} (fc fa : Fl) (p : Prod) (hl : lightL p.conds) (hs : sizeL p.conds ≤ 1000000) (ha : p.acts.length ≤ 1000000) {R : PV → Mem → Prop} (hR : ∀ μ' q Fr, OwnV tyString 1 μ' q (rowsS (checkE p).2.2) Fr → Mv μ μ' [] Fr → R q μ') : CallP Try.prog 22 [prodPV fc fa p] μ R := by
  refine G_shape_Vars_w.c (CallP.conv (cCheckedR .sh .sh p hl hs ha fun μ' q Fr h hm => ?_))
  rcases h with ⟨rfl, h0, rfl⟩ | h
  · refine ⟨.tup [pI (checkE p).1, pI (checkE p).2.1, .raw (.slice none 0 0)], .tup rfl (fun d hd => ?_) (fun i c d hc hd => ?_), _, _, _, _, _, rfl, hR μ' _ [] (.inl ⟨rfl, by rw [h0]; rfl, rfl⟩) hm⟩
    · simp only [List.mem_cons, List.not_mem_nil, or_false] at hd
      rcases hd with rfl | rfl | rfl <;> rfl
    · match i with
      | 0 => simp at hc hd; subst hc hd; exact .same _
      | 1 => simp at hc hd; subst hc hd; exact .same _
      | 2 => simp at hc hd; subst hc hd; exact .nil 1 []
      | n + 3 => simp at hc
  · obtain ⟨a, c, rfl, _⟩ := h.app (rowsS_each _)
    exact ⟨_, .same _, _, _, _, _, _, rfl, hR μ' _ Fr h hm⟩

end Go.Proofs.Ytfjemjnbemdkgaa

/-
  What is more than is played.
-/
namespace Go.Proofs.Ytfjemjnbemdkgaa
open Go.Eng Go.RowKit
set_option linter.unusedVariables false
set_option linter.unusedSimpArgs false
set_option linter.unnecessarySimpa false

def lightP (p : Prod) : Prop := lightL p.conds ∧ sizeL p.conds ≤ 40 ∧ p.acts.length ≤ 40 ∧ p.name.size ≤ 100

theorem cHeavy (fc fa : Fl) (p : Prod) : PureK Try.prog 11 [.agg [pS p.name, .list 7 fc (p.conds.map Cond.pv), .list 19 fa (p.acts.map Actn.pv)]] fun r => ∃ q : Bool, r = pB q ∧ (q = false → lightP p) := by
  refine PureK.of (G_ponderkeep_Heavy.c ?_)
  have yes : ∃ q : Bool, wk (pB true) = pB q ∧ (q = false → lightP p) := ⟨true, rfl, fun h => by cases h⟩
  refine (cKSize _ fc p.conds 40 0 (Nat.le_refl _) (by omega) (by omega)).call ?_
  rintro _ ⟨r, rfl, hr1, hr2⟩
  refine ⟨_, rfl, CIf.mk (fun _ => yes) (fun a1 => CIf.mk (fun _ => yes) (fun a2 => CIf.mk (fun _ => yes) (fun a3 => ?_)))⟩
  have a1 := of_decide_eq_false a1
  have a2 := of_decide_eq_false a2
  have a3 := of_decide_eq_false a3
  simp only [List.length_map] at a2
  have hs := hr2 (by omega)
  refine (cHeavyConds _ fc p.conds (Nat.le_refl _) (by omega)).call ?_
  rintro _ ⟨q, rfl, hq⟩
  exact ⟨_, rfl, q, rfl, fun h => ⟨hq h, by omega, by omega, by omega⟩⟩

end Go.Proofs.Ytfjemjnbemdkgaa

/-
  The document's example.
-/
namespace Go.Proofs.Ytfjemjnbemdkgaa
open Go.Eng Go.RowKit
set_option linter.unusedVariables false
set_option linter.unusedSimpArgs false
set_option linter.unnecessarySimpa false

theorem cW (t : ByteArray) : Pure Try.prog 27 [pS t] (.agg [pI 3, pS t, pI 0]) := PureK.of (G_ponderlaw06_W.c rfl)
theorem cN (n : Int) : Pure Try.prog 21 [pI n] (.agg [pI 2, pS ⟨#[]⟩, pI n]) := PureK.of (G_ponderlaw06_N.c rfl)

def oneC (g : Bool) : Cond := .mk 1 g ⟨#[115]⟩ [⟨1, ⟨#[]⟩, ⟨3, ⟨#[120]⟩, 0⟩, []⟩] [⟨1, ⟨#[]⟩, ⟨2, ⟨#[]⟩, 1⟩, []⟩] false []
def oneA : Actn := ⟨⟨#[115]⟩, ⟨⟨#[]⟩, ⟨3, ⟨#[121]⟩, 0⟩⟩, ⟨0, ⟨⟨#[]⟩, ⟨2, ⟨#[]⟩, 2⟩⟩, ⟨⟨#[]⟩, ⟨0, ⟨#[]⟩, 0⟩⟩⟩, 1, ⟨⟨#[]⟩, ⟨0, ⟨#[]⟩, 0⟩⟩⟩
def oneP (g : Bool) : Prod := ⟨⟨#[97]⟩, [oneC g], [oneA]⟩

theorem cOneP {μ : Mem} {R : PV → Mem → Prop} (hk : ∀ μ' b c, μ b = none → μ c = none → b ≠ c → μ' b = some (.cells 37 (oneC true).pv) → μ' c = some (.cells 45 oneA.pv) → (∀ x, x ≠ b → x ≠ c → μ' x = μ x) → R (.agg [pS ⟨#[97]⟩, .raw (.slice (some ⟨b, 0, none⟩) 1 1), .raw (.slice (some ⟨c, 0, none⟩) 1 1)]) μ') : CallP Try.prog 19 [] μ R := by
  refine G_ponderlaw06_One.c ?_
  refine (cW _).call ⟨_, _, _, rfl, (cN _).call ⟨_, _, _, rfl, fun b hb => (cW _).call ⟨_, _, _, rfl, (cN _).call ⟨_, _, _, rfl, fun c hc => ?_⟩⟩⟩⟩
  have hne : b ≠ c := by rintro rfl; rw [Mem.set_same] at hc; cases hc
  have hc0 : μ c = none := by rw [Mem.set_ne _ _ (Ne.symm hne)] at hc; exact hc
  refine hk _ b c hb hc0 hne ?_ ?_ fun x h1 h2 => by rw [Mem.set_ne _ _ h2, Mem.set_ne _ _ h1]
  · rw [Mem.set_ne _ _ hne, Mem.set_same, Cond.pv_eq]; rfl
  · rw [Mem.set_same]; rfl

theorem slOne {μ : Mem} {b sz : Nat} {T : TypeId} {row : List PV} (h : μ b = some (.cells T row)) (hl : row.length = sz) (hc : allCell row = true) : SlM μ (some ⟨b, 0, none⟩) 1 1 sz [row] :=
  ⟨rfl, Nat.le_refl _, .inr fun x h => by cases h; rfl, fun r hr => by simp at hr; rw [hr]; exact hl, by simpa using hc, fun _ => ⟨b, 0, rfl, by simp [rdM, h, ← hl]⟩⟩

theorem cCheckRaw {μ : Mem} {b c : Nat} (g : Bool) (hb : μ b = some (.cells 37 (oneC g).pv)) (hc : μ c = some (.cells 45 oneA.pv)) {R : PV → Mem → Prop} (hk : R (.tup [pI (checkE (oneP g)).1, pI (checkE (oneP g)).2.1]) μ) :
    CallP Try.prog 16 [.agg [pS ⟨#[97]⟩, .raw (.slice (some ⟨b, 0, none⟩) 1 1), .raw (.slice (some ⟨c, 0, none⟩) 1 1)]] μ R := by
  refine CallP.borrow (cCheck .sh .sh (oneP g) ?_ ?_ ?_) rfl (fun i p q hp hq => ?_) (fun p hp => by rw [hp]; rfl) (fun p hp => by rw [hp]; exact hk)
  · refine ⟨(lightC_eq _).2 ⟨by cases g <;> decide, by cases g <;> decide, by cases g <;> decide, ?_, ?_, trivial⟩, trivial⟩
    · intro t ht; simp [oneC, Cond.attr] at ht; subst ht; exact ⟨by decide, by decide, by decide⟩
    · intro t ht; simp [oneC, Cond.value] at ht; subst ht; exact ⟨by decide, by decide, by decide⟩
  · simp [oneP, sizeL, sizeC_eq, oneC, Cond.conds]
  · simp [oneP]
  · cases i with
    | succ i => simp at hp
    | zero =>
      simp only [List.getElem?_cons_zero, Option.some.injEq] at hp hq
      subst hp hq
      refine .agg rfl fun j x y hx hy => ?_
      match j with
      | 0 => simp at hx hy; subst hx hy; exact .inl rfl
      | 1 =>
        simp at hx hy; subst hx hy
        exact .inr ⟨_, _, _, _, _, rfl, rfl, slOne hb (by rw [Cond.pv_eq]; rfl) (by rw [Cond.pv_eq]; rfl)⟩
      | 2 =>
        simp at hx hy; subst hx hy
        exact .inr ⟨_, _, _, _, _, rfl, rfl, slOne hc rfl rfl⟩
      | n + 3 => simp at hx

theorem check1 : (checkE (oneP true)).1 = -1 ∧ (checkE (oneP true)).2.1 = 0 := ⟨by kernel_rfl, by kernel_rfl⟩
theorem check2 : (checkE (oneP false)).1 = 0 ∧ (checkE (oneP false)).2.1 = 6 := ⟨by kernel_rfl, by kernel_rfl⟩

theorem cWakes : Pure Try.prog 12 [] (pB true) := by
  refine PureK.of (G_ponderlaw06_wakes.c ?_)
  refine cOneP fun μ b c hb hc hne h1 h2 h3 => ⟨_, _, _, _, _, _, _, rfl, ?_⟩
  refine cCheckRaw true h1 h2 ⟨_, _, rfl, ?_⟩
  refine ⟨by omega, by omega, _, _, h1, by rw [Cond.pv_eq]; simp, ?_⟩
  have e : wrL (oneC true).pv (0 + Int.toNat 0 * 7 + 1) [pB false] = (oneC false).pv := by rw [Cond.pv_eq, Cond.pv_eq]; rfl
  rw [e]
  refine cCheckRaw false (Mem.set_same _ _ _) (by rw [Mem.set_ne _ _ (Ne.symm hne)]; exact h2) ⟨_, _, rfl, ?_⟩
  rw [check1.1, check1.2, check2.1, check2.2]
  exact CIf.t rfl (CIf.t rfl (CIf.t rfl rfl))

end Go.Proofs.Ytfjemjnbemdkgaa

/-
  Which variables are known: the document's way.
-/
namespace Go.Proofs.Ytfjemjnbemdkgaa
open Go.Eng Go.RowKit
set_option linter.unusedVariables false
set_option linter.unusedSimpArgs false
set_option linter.unnecessarySimpa false

theorem LoopI.eachA {α γ : Type} {body : (α → γ → Prop) → α → γ → Prop} {s0 : α} {u : γ} (n : Nat) (I : Nat → α → γ → Prop) (h0 : I 0 s0 u)
    (hin : ∀ (k : Nat) (s : α) (u : γ) (next : α → γ → Prop), k < n → I k s u → (∀ s' u', I (k + 1) s' u' → next s' u') → body next s u) (hout : ∀ (s : α) (u : γ) (next : α → γ → Prop), I n s u → body next s u) : LoopI body s0 u := by
  refine ⟨fun m s w => ∃ k, k ≤ n ∧ m = n - k ∧ I k s w, ⟨n, 0, by omega, rfl, h0⟩, ?_⟩
  rintro m s w ⟨k, hk, rfl, hI⟩
  by_cases h : k < n
  · exact hin k s w _ h hI fun s' u' h' => ⟨n - (k + 1), by omega, k + 1, by omega, rfl, h'⟩
  · have : k = n := by omega
    subst this
    exact hout s w _ hI

theorem hasB_take {K : List ByteArray} {v : ByteArray} {i : Nat} (hi : i < K.length) (h : hasB (K.take i) v = false) (hn : strEq K[i] v = false) : hasB (K.take (i + 1)) v = false := by
  unfold hasB at *
  rw [List.take_add_one, List.any_append, h, List.getElem?_eq_getElem hi]
  simp [hn]

theorem cRHas (fl : Fl) (K : List ByteArray) (v : ByteArray) (hl : K.length ≤ 1000000) : Pure Try.prog 79 [.list 1 fl (rowsS K), pS v] (pB (hasB K v)) := by
  refine PureK.of (G_ponderref06_has.c ?_)
  refine LoopI.each (n := K.length) (by omega) (fun i u => hasB (K.take i) v = false) rfl ?_ ?_
  · intro i u next hi hI hnext
    refine CIf.t (by simpa using hi) ⟨by omega, _, rowsS_at hi, _, rfl, CIf.mk (fun h => ?_) (fun h => hnext _ (hasB_take hi hI h))⟩
    have : hasB K v = true := hasB_iff.2 (by rw [← strEq_iff.1 h]; exact List.getElem_mem hi)
    rw [this]; rfl
  · intro u next hI
    rw [List.take_length] at hI
    rw [hI]
    exact CIf.f (by simp) rfl

@[reducible] def metPV : Option (List ByteArray) → PV
  | none => .tup [.list 1 .sh [], pB false]
  | some K => .tup [.list 1 .sh (rowsS K), pB true]

theorem rowsS_append (K e : List ByteArray) : rowsS (K ++ e) = rowsS K ++ rowsS e := by simp [rowsS]

theorem metT_ref {K : List ByteArray} {t : Test} (h : okT t) : metT K t = (bif strEq t.var ⟨#[]⟩ then some K else bif hasB K t.var then some K else bif t.rel != 1 then none else some (K ++ [t.var])) := by
  unfold metT newK
  cases hv : strEq t.var ⟨#[]⟩ with
  | true => simp
  | false =>
    have h8 : (t.rel == 8) = false := by
      cases h8 : t.rel == 8 with
      | false => rfl
      | true => rw [h (by simpa using h8)] at hv; cases hv
    rw [h8, show (t.rel != 1) = !(t.rel == 1) from rfl]
    cases hasB K t.var <;> cases t.rel == 1 <;> simp

theorem metL_append' {K : List ByteArray} {a b : List Test} : metL K (a ++ b) = (metL K a).bind fun K1 => metL K1 b := metL_append K a b

theorem tipKeep {fl f1 f2 : Fl} {n sz : Nat} {μ μ' : Mem} (h : TipIn fl n sz μ) (hd : ∀ x ∈ tipL fl, ¬ f1.at x) (hk : ∀ b o, μ b = some o → ¬ f1.at b → μ' b = some o ∧ ¬ f2.at b) : TipIn fl n sz μ' ∧ ∀ x ∈ tipL fl, ¬ f2.at x := by
  cases fl with
  | tip b c =>
    have := hk b _ h (hd b (by simp [tipL]))
    exact ⟨this.1, fun x hx => by simp [tipL] at hx; subst hx; exact this.2⟩
  | sh => exact ⟨h, fun x hx => by simp [tipL] at hx⟩
  | nr => exact ⟨h, fun x hx => by simp [tipL] at hx⟩
  | nil => exact ⟨h, fun x hx => by simp [tipL] at hx⟩

theorem cRMet (fl : Fl) (c : Cond) (K : List ByteArray) (hc : okC c) (hl : K.length ≤ 10000) : Pure Try.prog 78 [.agg c.pv, .list 1 fl (rowsS K)] (metPV (metC K c)) := by
  obtain ⟨_, ha, hv, hta, htv, _⟩ := (okC_eq c).1 hc
  rw [Cond.pv_eq]
  refine PureK.of (G_ponderref06_met.c ?_)
  refine appL.go1 (by trivial) (by simp; omega) (by simp; omega) fun f1 μ1 t1 => ?_
  simp only [List.nil_append, List.length_nil, Nat.zero_add, rowsS_len] at t1 ⊢
  have go : ∀ (K0 : List ByteArray) (f : Fl) (u : Mem), K0.length ≤ 10001 → TipIn f K0.length 1 u → metC K c = (metL K0 c.attr).bind (fun K1 => metL K1 c.value) →
      appL true 6 80 .nil [] (c.attr.map Test.pv) u fun f26 u_4 => appL false 6 80 f26 (c.attr.map Test.pv) (c.value.map Test.pv) u_4 fun f29 u_5 =>
      LoopI (α := (Fl × List (List PV)) × Int) (fun next s_1 u_6 =>
      CIf (decide ((s_1.2 : Int) < ((List.length (c.attr.map Test.pv ++ c.value.map Test.pv) : Nat) : Int)))
      ((0 : Int) ≤ s_1.2 ∧ ∃ (r38 : List PV), (c.attr.map Test.pv ++ c.value.map Test.pv)[Int.toNat s_1.2]? = some r38 ∧
        ∃ (x40 : ByteArray), rowM r38 1 1 = some [(pS x40)] ∧
        CIf (strEq x40 ⟨#[]⟩)
        (next ((s_1.1.1, s_1.1.2), (IntKind.wrap .i64 (s_1.2 + (1)))) u_6)
        ((0 : Int) ≤ s_1.2 ∧ ∃ (r46 : List PV), (c.attr.map Test.pv ++ c.value.map Test.pv)[Int.toNat s_1.2]? = some r46 ∧
          ∃ (x48 : ByteArray), rowM r46 1 1 = some [(pS x48)] ∧
          CallP Try.prog 79 [(.list 1 s_1.1.1 s_1.1.2), (pS x48)] u_6 fun v_1 u_7 =>
          ∃ (x49 : Bool), v_1 = (pB x49) ∧
          CIf x49
          (next ((s_1.1.1, s_1.1.2), (IntKind.wrap .i64 (s_1.2 + (1)))) u_7)
          ((0 : Int) ≤ s_1.2 ∧ ∃ (r53 : List PV), (c.attr.map Test.pv ++ c.value.map Test.pv)[Int.toNat s_1.2]? = some r53 ∧
            ∃ (x55 : Int), rowM r53 0 1 = some [(pI x55)] ∧
            CIf ((x55 : Int) != (1))
            (wk (.tup [(.list 1 .nil []), (pB false)]) = metPV (metC K c))
            ((0 : Int) ≤ s_1.2 ∧ ∃ (r60 : List PV), (c.attr.map Test.pv ++ c.value.map Test.pv)[Int.toNat s_1.2]? = some r60 ∧
              ∃ (x62 : ByteArray), rowM r60 1 1 = some [(pS x62)] ∧
              appL false 1 16 s_1.1.1 s_1.1.2 [[(pS x62)]] u_7 fun f64 u_8 =>
              next ((f64, (s_1.1.2 ++ [[(pS x62)]])), (IntKind.wrap .i64 (s_1.2 + (1)))) u_8))))
      (wk (.tup [(.list 1 s_1.1.1 s_1.1.2), (pB true)]) = metPV (metC K c))) ((f, rowsS K0), (0)) u_5 := by
    intro K0 f u hK0 tf hm
    rw [← metL_append'] at hm
    refine appL.go (by trivial) (by simp; omega) (by simp; omega) (fun f26 u4 t26 k26 => ?_)
    obtain ⟨tf4, d4⟩ := tipKeep (f1 := .nil) tf (fun x _ h => h) k26
    refine appL.go (by simpa using t26) (by simp; omega) (by simp; omega) fun f29 u5 t29 k29 => ?_
    obtain ⟨tf5, d5⟩ := tipKeep tf4 d4 k29
    rw [← List.map_append]
    have hlen : (c.attr ++ c.value).length ≤ 8 := by rw [List.length_append]; omega
    have hok : ∀ t ∈ c.attr ++ c.value, okT t := fun t ht => (List.mem_append.1 ht).elim (hta t) (htv t)
    refine LoopI.each2 (n := (c.attr ++ c.value).length) (by omega) (fun i x u => ∃ Ki, x.2 = rowsS Ki ∧ TipIn x.1 Ki.length 1 u ∧ metL K0 ((c.attr ++ c.value).take i) = some Ki ∧ Ki.length ≤ K0.length + i) ⟨K0, rfl, tf5, by simp [metL], by omega⟩ ?_ ?_
    · rintro i ⟨f, _⟩ u next hi ⟨Ki, rfl, i1, i2, i3⟩ hnext
      have hT := metL_take hi i2
      rw [metT_ref (hok _ (List.getElem_mem hi))] at hT
      refine CIf.t (decide_eq_true (by rw [List.length_map]; omega)) ⟨by omega, _, atRow hi, _, rfl, CIf.mk (fun h1 => hnext _ _ ⟨Ki, rfl, i1, by rw [hT, h1]; rfl, by omega⟩) (fun h1 => ⟨by omega, _, atRow hi, _, rfl, ?_⟩)⟩
      refine (cRHas f Ki _ (by omega)).call ⟨_, rfl, CIf.mk (fun h2 => hnext _ _ ⟨Ki, rfl, i1, by rw [hT, h1, h2]; rfl, by omega⟩) (fun h2 => ⟨by omega, _, atRow hi, _, rfl, CIf.mk (fun h3 => ?_) (fun h3 => ⟨by omega, _, atRow hi, _, rfl, ?_⟩)⟩)⟩
      · rw [h1, h2, h3] at hT
        have hn : metL K0 (c.attr ++ c.value) = none := metL_stop hi i2 (by rw [metT_ref (hok _ (List.getElem_mem hi)), h1, h2, h3]; rfl)
        rw [hm, hn]; rfl
      · rw [h1, h2, h3] at hT
        refine appL.go1 (by rw [rowsS_len]; exact i1) (by simp; omega) (by simp; omega) fun f' u' t' => hnext _ _ ⟨Ki ++ [(c.attr ++ c.value)[i].var], ?_, ?_, hT, by rw [List.length_append, List.length_singleton]; omega⟩
        · rw [rowsS_append]; rfl
        · simpa using t'
    · rintro ⟨f, _⟩ u next ⟨Ki, rfl, i1, i2, i3⟩
      rw [List.take_length] at i2
      refine CIf.f (by rw [List.length_map]; simp) ?_
      rw [hm, i2]; rfl
  refine CJoin.of fun J hJ => (cRHas f1 K c.id (by omega)).call ⟨_, rfl, CIf.mk (fun h1 => CIf.mk (fun h2 => ?_) (fun h2 => ?_)) (fun h1 => ?_)⟩
  · have h1 := nb h1; have h2 := nb h2
    have : metC K c = none := by simp [metC, h1, h2]
    rw [this]; rfl
  · have h1 := nb h1; have h2 := nt h2
    refine appL.go1 (by rw [rowsS_len]; exact t1) (by simp; omega) (by simp; omega) fun f2 μ2 t2 => hJ _ _ ?_
    have := go (K ++ [c.id]) f2 μ2 (by simp; omega) (by simpa using t2) (by
      have hh : hasB (K ++ [c.id]) c.id = true := hasB_iff.2 (by simp)
      simp [metC, h2, newK, h1, hh])
    rw [rowsS_append] at this
    exact this
  · have h1 := nt h1
    refine hJ _ _ (go K f1 _ (by omega) t1 ?_)
    cases hg : c.goal <;> simp [metC, hg, newK, h1]

@[reducible] def knowPV : Except Nat (List ByteArray) → PV
  | .error e => .tup [.list 1 .sh [], pI (e : Nat), pB false]
  | .ok K => .tup [.list 1 .sh (rowsS K), pI (-1), pB true]

theorem metC_len {K K' : List ByteArray} {c : Cond} (hc : okC c) (h : metC K c = some K') : K'.length ≤ K.length + 9 := by
  obtain ⟨_, ha, hv, _, _, _⟩ := (okC_eq c).1 hc
  have hT : ∀ {K K' : List ByteArray} {t : Test}, metT K t = some K' → K'.length ≤ K.length + 1 := by
    intro K K' t h
    unfold metT at h
    have := newK_len K t.var
    cases h1 : (t.rel == 8) || strEq t.var ⟨#[]⟩ <;> rw [h1] at h
    · simp only [cond_false] at h
      cases h2 : t.rel == 1 <;> rw [h2] at h
      · simp only [cond_false] at h
        cases h3 : hasB K t.var <;> rw [h3] at h
        · cases h
        · cases h; omega
      · cases h; rw [List.length_append]; omega
    · cases h; omega
  have hL : ∀ (ts : List Test) {K K' : List ByteArray}, metL K ts = some K' → K'.length ≤ K.length + ts.length := by
    intro ts
    induction ts with
    | nil => intro K K' h; cases h; simp
    | cons t ts ih =>
      intro K K' h
      simp only [metL] at h
      cases h1 : metT K t with
      | none => rw [h1] at h; cases h
      | some K1 =>
        rw [h1] at h
        have := ih h
        have := hT h1
        rw [List.length_cons]; omega
  unfold metC at h
  have hg : (bif c.goal then K ++ newK K c.id else K).length ≤ K.length + 1 := by
    have := newK_len K c.id
    cases c.goal
    · simp
    · rw [cond_true, List.length_append]; omega
  generalize hK0 : (bif c.goal then K ++ newK K c.id else K) = K0 at h hg
  simp only at h
  cases hh : hasB K0 c.id <;> rw [hh] at h
  · cases h
  · simp only [cond_true] at h
    cases h1 : metL K0 c.attr with
    | none => rw [h1] at h; cases h
    | some K1 =>
      rw [h1] at h
      have := hL _ h1
      have := hL _ (show metL K1 c.value = some K' from h)
      omega

theorem knowL_len : ∀ {l : List Cond} {n : Nat} {K K' : List ByteArray}, okL l → knowL l n K = .ok K' → K'.length ≤ K.length + 9 * sizeL l
  | [], n, K, K', _, h => by cases h; simp
  | c :: l, n, K, K', ho, h => by
    simp only [knowL] at h
    cases hc : knowC c n K with
    | error e => rw [hc] at h; cases h
    | ok K1 =>
      rw [hc] at h
      have h1 := knowL_len ho.2 h
      have h2 : K1.length ≤ K.length + 9 := by
        rw [knowC_eq] at hc
        cases h3 : c.kind == 3 <;> rw [h3] at hc
        · simp only [cond_false] at hc
          cases hm : metC K c with
          | none => rw [hm] at hc; cases hc
          | some K2 =>
            rw [hm] at hc
            have := metC_len ho.1 hm
            cases h4 : c.kind == 1 <;> rw [h4] at hc <;> cases hc
            · simp
            · exact this
        · simp only [cond_true] at hc
          cases hk : knowL c.conds (n + 1) K with
          | error e => rw [hk] at hc; cases hc
          | ok K2 => rw [hk] at hc; cases hc; omega
      simp only [sizeL, sizeC_eq]
      omega

theorem cKnows : ∀ (n : Nat) (fl fk : Fl) (l : List Cond) (at_ : Nat) (K : List ByteArray), sizeL l ≤ n → okL l → K.length ≤ 9 * at_ → at_ + sizeL l ≤ 1000 → Pure Try.prog 51 [.list 7 fl (l.map Cond.pv), pI (at_ : Nat), .list 1 fk (rowsS K)] (knowPV (knowL l at_ K)) := by
  intro n
  induction n with
  | zero =>
    intro fl fk l at_ K h _ _ _
    have : l = [] := by
      cases l with
      | nil => rfl
      | cons c l => simp [sizeL, sizeC_eq] at h
    subst this
    refine PureK.of (G_ponderref06_knows.c ?_)
    exact LoopI.eachA 0 (fun k s u => s = ((at_ : Int), (fk, rowsS K), (0 : Int))) rfl (fun k s u next hk => by omega) (fun s u next hs => by subst hs; exact CIf.f (by simp) rfl)
  | succ n ih =>
    intro fl fk l at_ K h hokl hK hsz
    have hll := sizeL_len l
    refine PureK.of (G_ponderref06_knows.c ?_)
    refine LoopI.eachA l.length (fun i s u => ∃ f Ki, s = (((at_ + sizeL (l.take i) : Nat) : Int), (f, rowsS Ki), (i : Int)) ∧ knowL (l.take i) at_ K = .ok Ki ∧ Ki.length ≤ 9 * (at_ + sizeL (l.take i))) ⟨fk, K, by simp [sizeL], by simp [knowL], by simp [sizeL]; omega⟩ ?_ ?_
    · rintro i _ u next hi ⟨f, Ki, rfl, i1, i2⟩ hnext
      have hm := sizeL_mem (List.getElem_mem hi)
      have hs := sizeL_split l (i + 1)
      have hst := sizeL_take hi
      rw [hst] at hs
      have hokc := okL_iff.1 hokl l[i] (List.getElem_mem hi)
      obtain ⟨hkind, _, _, _, _, hokcs⟩ := (okC_eq _).1 hokc
      have hT := knowL_take hi i1
      have hC := knowC_eq l[i] (at_ + sizeL (l.take i)) Ki
      have hk0 : rowM l[i].pv 0 1 = some [pI l[i].kind] := by rw [Cond.pv_eq]; rfl
      have hk6 : rowM l[i].pv 6 1 = some [.list 7 .sh (l[i].conds.map Cond.pv)] := by rw [Cond.pv_eq]; rfl
      have hrow : rowM l[i].pv 0 7 = some [pI l[i].kind, pB l[i].goal, pS l[i].id, .list 6 .sh (l[i].attr.map Test.pv), .list 6 .sh (l[i].value.map Test.pv), pB l[i].acc, .list 7 .sh (l[i].conds.map Cond.pv)] := by rw [Cond.pv_eq]; rfl
      refine CIf.t (by simpa using hi) ?_
      have hat1 : IntKind.wrap .i64 (((at_ + sizeL (l.take i) : Nat) : Int) + 1) = ((at_ + sizeL (l.take i) + 1 : Nat) : Int) := by rw [wrap_id (by omega) (by omega)]; omega
      have go : ∀ (f : Fl) (K' : List ByteArray) (u' : Mem), knowC l[i] (at_ + sizeL (l.take i)) Ki = .ok K' → K'.length ≤ 9 * (at_ + sizeL (l.take (i + 1))) →
          ((0 : Int) ≤ (i : Int) ∧ ∃ (r65 : List PV), (l.map Cond.pv)[Int.toNat (i : Int)]? = some r65 ∧ ∃ (x67f : Fl) (x67 : List (List PV)), rowM r65 6 1 = some [(.list 7 x67f x67)] ∧
            CallP Try.prog 45 [(.list 7 x67f x67)] u' fun v_2 u_4 => ∃ (x68 : Int), v_2 = (pI x68) ∧ next ((IntKind.wrap .i64 (((at_ + sizeL (l.take i) : Nat) : Int) + (IntKind.wrap .i64 ((1) + x68)))), (f, rowsS K'), (IntKind.wrap .i64 ((i : Int) + (1)))) u_4) := by
        intro f K' u' hk hlen
        refine ⟨by omega, _, atRow hi, _, _, hk6, (cRefSize _ .sh l[i].conds (Nat.le_refl _) (by omega)).call ⟨_, rfl, hnext _ _ ⟨f, K', ?_, by rw [hT, hk], hlen⟩⟩⟩
        rw [wrap_id (x := (1 : Int) + _) (by omega) (by omega), wrap_id (x := ((at_ + sizeL (l.take i) : Nat) : Int) + _) (by omega) (by omega), wrap_id (x := (i : Int) + 1) (by omega) (by omega), hst]
        congr 1
        omega
      refine CJoin.of fun J hJ => ⟨Int.natCast_nonneg i, _, atRow hi, _, hk0, CIf.mk (fun h3 => ?_) (fun h3 => ?_)⟩
      · rw [h3] at hC
        refine ⟨Int.natCast_nonneg i, _, atRow hi, _, _, hk6, ?_⟩
        dsimp only
        rw [hat1]
        refine (ih .sh f l[i].conds (at_ + sizeL (l.take i) + 1) Ki (by omega) hokcs (by omega) (by omega)).call ?_
        cases hr : knowL l[i].conds (at_ + sizeL (l.take i) + 1) Ki with
        | error e =>
          refine ⟨_, _, _, _, rfl, CIf.t rfl ?_⟩
          rw [knowL_stop hi i1 (e := e) (by rw [hC, hr]; rfl)]; rfl
        | ok K' =>
          refine ⟨_, _, _, _, rfl, CIf.f rfl (hJ _ _ (go f Ki _ (by rw [hC, hr]; rfl) ?_))⟩
          rw [hst]; omega
      · rw [h3] at hC
        have hcs : l[i].conds.length = 0 := by
          rcases hkind with h | h
          · rw [h] at h3; simp at h3
          · exact h.2
        have hpv : PV.agg [pI l[i].kind, pB l[i].goal, pS l[i].id, .list 6 .sh (l[i].attr.map Test.pv), .list 6 .sh (l[i].value.map Test.pv), pB l[i].acc, .list 7 .sh (l[i].conds.map Cond.pv)] = .agg l[i].pv := by rw [Cond.pv_eq]
        refine ⟨Int.natCast_nonneg i, _, atRow hi, _, _, _, _, _, _, _, _, _, _, hrow, ?_⟩
        rw [hpv]
        refine (cRMet f l[i] Ki hokc (by omega)).call ?_
        cases hr : metC Ki l[i] with
        | none =>
          refine ⟨_, _, _, rfl, CIf.t rfl ?_⟩
          rw [knowL_stop hi i1 (e := at_ + sizeL (l.take i)) (by rw [hC, hr]; rfl)]; rfl
        | some K' =>
          have hml := metC_len hokc hr
          refine ⟨_, _, _, rfl, CIf.f rfl ⟨Int.natCast_nonneg i, _, atRow hi, _, hk0, CIf.mk (fun h1 => hJ _ _ (go _ K' _ ?_ ?_)) (fun h1 => hJ _ _ (go f Ki _ ?_ ?_))⟩⟩
          · rw [hC, hr, h1]; rfl
          · rw [hst]; omega
          · rw [hC, hr, h1]; rfl
          · rw [hst]; omega
    · rintro _ u next ⟨f, Ki, rfl, i1, i2⟩
      rw [List.take_length] at i1
      refine CIf.f (by simp) ?_
      rw [i1]; rfl

theorem cSeen (fl : Fl) (a : Atom) (K : List ByteArray) (hl : K.length ≤ 1000000) : Pure Try.prog 52 [.agg a.pv, .list 1 fl (rowsS K)] (pB (!lackB K a)) := by
  refine PureK.of (G_ponderref06_seen.c ?_)
  refine CIf.mk (fun h => ?_) (fun h => (cRHas fl K a.var hl).call ⟨_, rfl, ?_⟩)
  · have : lackB K a = false := by unfold lackB; rw [h]; rfl
    rw [this]; rfl
  · have : lackB K a = !hasB K a.var := by unfold lackB; rw [h]; rfl
    rw [this, Bool.not_not]; rfl

theorem cRCheck (fc fa : Fl) (p : Prod) (hl : lightL p.conds) (hs : sizeL p.conds ≤ 1000000) (ha : p.acts.length ≤ 1000000) : Pure Try.prog 17 [prodPV fc fa p] (.tup [pI (checkE p).1, pI (checkE p).2.1]) := by
  refine PureK.of (G_ponderref06_Check.c ?_)
  refine (cRefShape .sh .sh p hl hs ha).call ⟨_, _, rfl, CIf.mk (fun h1 => ?_) (fun h1 => ?_)⟩
  · unfold checkE; rw [h1]; rfl
  have h0 : (shapeE p).2 = 0 := by simpa using h1
  obtain ⟨s1, s2, s3, s4, hok⟩ := shapeE_ok h0
  cases hc : p.conds with
  | nil => rw [hc] at s1; simp [sizeL] at s1
  | cons c cs =>
  refine ⟨by omega, c.pv, rfl, _, by rw [Cond.pv_eq]; rfl, CIf.mk (fun h2 => ?_) (fun h2 => ?_)⟩
  · unfold checkE; rw [h1, hc]; simp only [cond_false, List.head?_cons, Option.map_some, Option.getD_some, h2, cond_true]; rfl
  have hE : checkE p = match knowL p.conds 0 [] with
      | .error n => ((n : Int), 6, [])
      | .ok K => match firstL K 0 p.acts with
        | some i => (((sizeL p.conds + i : Nat) : Int), 6, [])
        | none => (-1, 0, K) := by
    unfold checkE
    rw [h1]
    simp only [cond_false]
    rw [show (p.conds.head?.map Cond.kind).getD 0 = c.kind by rw [hc]; rfl, h2]
    rfl
  rw [← hc]
  refine (cKnows _ fc .nil p.conds 0 [] (Nat.le_refl _) hok (by simp) (by omega)).call ?_
  cases hk : knowL p.conds 0 [] with
  | error e =>
    refine ⟨_, _, _, _, rfl, CIf.t rfl ?_⟩
    rw [hE, hk]; rfl
  | ok K =>
    have hKl : K.length ≤ 1000 := by have := knowL_len hok hk; simp at this; omega
    refine ⟨_, _, _, _, rfl, CIf.f rfl ((cRefSize _ fc p.conds (Nat.le_refl _) hs).call ⟨_, rfl, ?_⟩)⟩
    refine LoopI.each (n := p.acts.length) (by omega) (fun i u => firstL K 0 (p.acts.take i) = none) rfl ?_ ?_
    · rintro i u next hi hf hnext
      have hT := firstL_take hi hf
      refine CIf.t (by simpa using hi) ⟨by omega, _, atRow hi, _, _, _, _, _, _, _, _, _, _, _, _, _, _, _, _, _, _, _, rfl, ?_⟩
      have hit : lackA K p.acts[i] = true → wk (.tup [pI (IntKind.wrap .i64 (((sizeL p.conds : Nat) : Int) + (i : Int))), pI 6]) = .tup [pI (checkE p).1, pI (checkE p).2.1] := fun hl => by
        rw [hE, hk]
        simp only [firstL_hit hi hf hl, Nat.zero_add]
        rw [wrap_id (by omega) (by omega)]
        rfl
      have miss : lackA K p.acts[i] = false → next (IntKind.wrap .i64 ((i : Int) + 1)) u := fun hl => hnext _ (by rw [hT, hl]; rfl)
      refine (cSeen .sh p.acts[i].attr K (by omega)).call ⟨_, rfl, CIf.mk (fun a1 => ?_) (fun a1 => ?_)⟩
      · rw [Bool.not_not] at a1; exact hit (by unfold lackA; rw [a1]; rfl)
      rw [Bool.not_not] at a1
      refine CIf.mk (fun a2 => ?_) (fun a2 => miss (by unfold lackA; rw [a1, a2]; rfl))
      refine (cSeen .sh p.acts[i].value.a K (by omega)).call ⟨_, rfl, CIf.mk (fun a3 => ?_) (fun a3 => ?_)⟩
      · rw [Bool.not_not] at a3; exact hit (by unfold lackA; rw [a1, a2, a3]; rfl)
      rw [Bool.not_not] at a3
      refine (cSeen .sh p.acts[i].value.b K (by omega)).call ⟨_, rfl, CIf.mk (fun a4 => ?_) (fun a4 => ?_)⟩
      · rw [Bool.not_not] at a4; exact hit (by unfold lackA; rw [a1, a2, a3, a4]; rfl)
      · rw [Bool.not_not] at a4; exact miss (by unfold lackA; rw [a1, a2, a3, a4]; rfl)
    · rintro u next hf
      rw [List.take_length] at hf
      refine CIf.f (by simp) ?_
      rw [hE, hk]
      simp only [hf]
      rfl

theorem cRKnown (fc fa : Fl) (p : Prod) (hok : okL p.conds) (hs : sizeL p.conds ≤ 1000) : Pure Try.prog 54 [prodPV fc fa p, pI (p.conds.length : Nat)] (.list 1 .sh (match knowL p.conds 0 [] with | .error _ => [] | .ok K => rowsS K)) := by
  refine PureK.of (G_ponderref06_Known.c ?_)
  refine ⟨by omega, by omega, by simp, ?_⟩
  have e : List.drop (Int.toNat (0 : Int)) (List.take (Int.toNat ((p.conds.length : Nat) : Int)) (p.conds.map Cond.pv)) = p.conds.map Cond.pv := by
    rw [Int.toNat_natCast, List.take_of_length_le (by simp)]; rfl
  rw [e]
  refine (cKnows _ .sh .nil p.conds 0 [] (Nat.le_refl _) hok (by simp) (by omega)).call ?_
  cases knowL p.conds 0 [] with
  | error e => exact ⟨_, _, _, _, rfl, rfl⟩
  | ok K => exact ⟨_, _, _, _, rfl, rfl⟩

theorem checkE_ok {p : Prod} (h : (checkE p).2.1 = 0) : (shapeE p).2 = 0 ∧ knowL p.conds 0 [] = .ok (checkE p).2.2 := by
  unfold checkE at h ⊢
  cases h1 : (shapeE p).2 != 0 <;> rw [h1] at h
  · have h0 : (shapeE p).2 = 0 := by simpa using h1
    refine ⟨h0, ?_⟩
    simp only [cond_false] at h ⊢
    cases h2 : (p.conds.head?.map Cond.kind).getD 0 != 1 <;> rw [h2] at h
    · simp only [cond_false] at h ⊢
      cases hk : knowL p.conds 0 [] with
      | error e => rw [hk] at h; simp at h
      | ok K =>
        rw [hk] at h
        simp only at h ⊢
        cases hf : firstL K 0 p.acts with
        | some i => rw [hf] at h; simp at h
        | none => rfl
    · simp at h
  · simp only [cond_true] at h; simp [h] at h1

theorem checkE_no {p : Prod} (h : (checkE p).2.1 ≠ 0) : (checkE p).2.2 = [] := by
  unfold checkE at h ⊢
  cases h1 : (shapeE p).2 != 0 <;> rw [h1] at h
  · simp only [cond_false] at h ⊢
    cases h2 : (p.conds.head?.map Cond.kind).getD 0 != 1 <;> rw [h2] at h
    · simp only [cond_false] at h ⊢
      cases hk : knowL p.conds 0 [] with
      | error e => rfl
      | ok K =>
        rw [hk] at h
        simp only at h ⊢
        cases hf : firstL K 0 p.acts with
        | some i => rfl
        | none => rw [hf] at h; simp at h
    · rfl
  · rfl

theorem cRVars (fc fa : Fl) (p : Prod) (hl : lightL p.conds) (hs : sizeL p.conds ≤ 1000000) (ha : p.acts.length ≤ 1000000) : Pure Try.prog 24 [prodPV fc fa p] (.list 1 .sh (rowsS (checkE p).2.2)) := by
  refine PureK.of (G_ponderref06_Vars.c ?_)
  refine (cRCheck .sh .sh p hl hs ha).call ⟨_, _, rfl, CIf.mk (fun h => ?_) (fun h => ?_)⟩
  · rw [checkE_no (by simpa using h)]; rfl
  · obtain ⟨h1, h2⟩ := checkE_ok (p := p) (by simpa using h)
    obtain ⟨_, s2, _, _, hok⟩ := shapeE_ok h1
    rw [List.length_map]
    refine (cRKnown .sh .sh p hok (by omega)).call ⟨_, _, rfl, ?_⟩
    rw [h2]; rfl

end Go.Proofs.Ytfjemjnbemdkgaa

/-
  Copies and comparisons.
-/
namespace Go.Proofs.Ytfjemjnbemdkgaa
open Go.Eng Go.RowKit
set_option linter.unusedVariables false
set_option linter.unusedSimpArgs false
set_option linter.unnecessarySimpa false

theorem cKSyms (f g : Fl) (l : List Sym) (hl : l.length ≤ 1000000) : Pure Try.prog 32 [.list 3 f (l.map Sym.pv), .list 3 g (l.map Sym.pv)] (pB true) := by
  refine PureK.of (G_ponderkeep_Syms.c (CIf.f (by simp) ?_))
  refine LoopI.each (n := l.length) (by omega) (fun _ _ => True) trivial (fun k u next hk _ hnext => ?_) (fun u next _ => CIf.f (by simp) rfl)
  exact CIf.t (by simpa using hk) ⟨by omega, _, atRow hk, _, _, _, rfl, by omega, _, atRow hk, _, _, _, rfl, CIf.f (by simp [sEq]) (hnext _ trivial)⟩

theorem cKTests (f g : Fl) (l : List Test) (hl : l.length ≤ 1000000) (ht : ∀ t ∈ l, t.list.length ≤ 1000000) : Pure Try.prog 82 [.list 6 f (l.map Test.pv), .list 6 g (l.map Test.pv)] (pB true) := by
  refine PureK.of (G_ponderkeep_Tests.c (CIf.f (by simp) ?_))
  refine LoopI.each (n := l.length) (by omega) (fun _ _ => True) trivial (fun k u next hk _ hnext => ?_) (fun u next _ => CIf.f (by simp) rfl)
  refine CIf.t (by simpa using hk) ⟨by omega, _, atRow hk, _, rfl, by omega, _, atRow hk, _, rfl, CIf.f (by simp) ⟨by omega, _, atRow hk, _, rfl, by omega, _, atRow hk, _, rfl, CIf.f (by simp [sEq]) ⟨by omega, _, atRow hk, _, _, _, rfl, by omega, _, atRow hk, _, _, _, rfl, CIf.f (by simp [sEq]) ⟨by omega, _, atRow hk, _, _, rfl, by omega, _, atRow hk, _, _, rfl, ?_⟩⟩⟩⟩
  exact (cKSyms .sh .sh l[k].list (ht _ (List.getElem_mem hk))).call ⟨_, rfl, CIf.f rfl (hnext _ trivial)⟩

theorem cKActs (f g : Fl) (l : List Actn) (hl : l.length ≤ 1000000) : Pure Try.prog 53 [.list 19 f (l.map Actn.pv), .list 19 g (l.map Actn.pv)] (pB true) := by
  refine PureK.of (G_ponderkeep_Acts.c (CIf.f (by simp) ?_))
  refine LoopI.each (n := l.length) (by omega) (fun _ _ => True) trivial (fun k u next hk _ hnext => ?_) (fun u next _ => CIf.f (by simp) rfl)
  exact CIf.t (by simpa using hk) ⟨by omega, _, atRow hk, _, _, _, _, _, _, _, _, _, _, _, _, _, _, _, _, _, _, _, rfl, by omega, _, atRow hk, _, _, _, _, _, _, _, _, _, _, _, _, _, _, _, _, _, _, _, rfl, CIf.f (by simp [sEq]) (hnext _ trivial)⟩

theorem cKConds' : ∀ (n : Nat) (f g : Fl) (l : List Cond), sizeL l ≤ n → sizeL l ≤ 1000000 → lightL l → Pure Try.prog 31 [.list 7 f (l.map Cond.pv), .list 7 g (l.map Cond.pv)] (pB true) := by
  intro n
  induction n with
  | zero =>
    intro f g l h _ _
    have : l = [] := by
      cases l with
      | nil => rfl
      | cons c l => simp [sizeL, sizeC_eq] at h
    subst this
    refine PureK.of (G_ponderkeep_Conds.c (CIf.f (by simp) ?_))
    exact LoopI.each (n := 0) (by omega) (fun _ _ => True) trivial (fun k u next hk => by omega) (fun u next _ => CIf.f (by simp) rfl)
  | succ n ih =>
    intro f g l h h6 hli
    have hll := sizeL_len l
    refine PureK.of (G_ponderkeep_Conds.c (CIf.f (by simp) ?_))
    refine LoopI.each (n := l.length) (by omega) (fun _ _ => True) trivial (fun k u next hk _ hnext => ?_) (fun u next _ => CIf.f (by simp) rfl)
    have hm := sizeL_mem (List.getElem_mem hk)
    obtain ⟨_, ha, hv, hta, htv, hcs⟩ := (lightC_eq _).1 (lightL_iff.1 hli _ (List.getElem_mem hk))
    refine CIf.t (by simpa using hk) ⟨by omega, _, atRow hk, _, _, _, _, _, _, _, _, _, _, condRow _, by omega, _, atRow hk, _, _, _, _, _, _, _, _, _, _, condRow _, ?_⟩
    refine Pure.call (r := pB true) (PureK.of (G_ponderkeep_Cond.c (CIf.t (by simp) (CIf.t (by simp) (CIf.t (sEq _) (CIf.t (by simp) ?_)))))) ⟨_, rfl, CIf.f rfl (hnext _ trivial)⟩
    refine (cKTests .sh .sh _ (by omega) (lightTs hta)).call ⟨_, rfl, CIf.t rfl ((cKTests .sh .sh _ (by omega) (lightTs htv)).call ⟨_, rfl, CIf.t rfl ((ih .sh .sh _ (by omega) (by omega) hcs).call ⟨_, rfl, rfl⟩)⟩)⟩

theorem cKProd (f1 f2 g1 g2 : Fl) (p : Prod) (hl : lightL p.conds) (hs : sizeL p.conds ≤ 1000000) (ha : p.acts.length ≤ 1000000) : Pure Try.prog 18 [.agg [pS p.name, .list 7 f1 (p.conds.map Cond.pv), .list 19 f2 (p.acts.map Actn.pv)], .agg [pS p.name, .list 7 g1 (p.conds.map Cond.pv), .list 19 g2 (p.acts.map Actn.pv)]] (pB true) := by
  refine PureK.of (G_ponderkeep_Prod.c (CIf.t (sEq _) ?_))
  exact (cKConds' _ f1 g1 p.conds (Nat.le_refl _) hs hl).call ⟨_, rfl, CIf.t rfl ((cKActs f2 g2 p.acts ha).call ⟨_, rfl, rfl⟩)⟩

/-! ### copies -/
theorem cCopyActs (f : Fl) (l : List Actn) (hl : l.length ≤ 1000000) : Pure Try.prog 49 [.list 19 f (l.map Actn.pv)] (.list 19 .sh (l.map Actn.pv)) := by
  refine PureK.of (G_ponderkeep_Copy_api_Act.c ?_)
  exact appL.go1 (by trivial) (by simp; omega) (by simp; omega) fun f1 μ1 t1 => rfl

theorem cCopyProd (fc fa : Fl) (p : Prod) (hl : lightL p.conds) (hs : sizeL p.conds ≤ 1000000) (ha : p.acts.length ≤ 1000000) : Pure Try.prog 15 [.agg [pS p.name, .list 7 fc (p.conds.map Cond.pv), .list 19 fa (p.acts.map Actn.pv)]] (.agg p.pv) := by
  refine PureK.of (G_ponderkeep_CopyProd.c ?_)
  exact (cCopyConds _ fc p.conds (Nat.le_refl _) hs hl).q ⟨_, _, rfl, (cCopyActs fa p.acts ha).q ⟨_, _, rfl, rfl⟩⟩

end Go.Proofs.Ytfjemjnbemdkgaa

/-
  The laws of chapter 6: checks.
-/
namespace Go.Proofs.Ytfjemjnbemdkgaa
open Go.Eng Go.RowKit
set_option linter.unusedVariables false

theorem cShapeChecks (p : Prod) : Pure Try.prog 4 [.agg p.pv] (pB true) := by
  refine PureK.of (G_ponderlaw06_ShapeChecks.c ?_)
  refine (cHeavy .sh .sh p).call ?_
  rintro _ ⟨q, rfl, hq⟩
  refine ⟨_, rfl, CIf.mk (fun h => cWakes.call ⟨_, rfl, rfl⟩) (fun h => ?_)⟩
  obtain ⟨hl, hs, ha, hn⟩ := hq h
  refine (cCopyProd .sh .sh p hl (by omega) (by omega)).call ⟨_, _, _, _, _, rfl, ?_⟩
  refine (cCheck .sh .sh p hl (by omega) (by omega)).call ⟨_, _, rfl, (cRCheck .sh .sh p hl (by omega) (by omega)).call ⟨_, _, rfl, CIf.t (by simp) (CIf.t (by simp) ?_)⟩⟩
  exact (cKProd .sh .sh .sh .sh p hl (by omega) (by omega)).call ⟨_, rfl, CIf.t rfl (cWakes.call ⟨_, rfl, rfl⟩)⟩

end Go.Proofs.Ytfjemjnbemdkgaa
