import Derived.Test.YtfjemjnbemdkgaaCh6S
import Derived.Test.YtfjemjnbemdkgaaCh6C
import Derived.Test.YtfjemjnbemdkgaaCh6E
/-
  Which variables are known: the program's way.
-/
namespace Go.Proofs.Ytfjemjnbemdkgaa
open Go.Eng Go.RowKit
set_option linter.unusedVariables false
set_option linter.unusedSimpArgs false
set_option linter.unnecessarySimpa false

def tipL (fl : Fl) : List Nat := match fl with | .tip b _ => [b] | _ => []
theorem mem_tipL {fl : Fl} {x : Nat} : x ∈ tipL fl ↔ fl.at x := by cases fl <;> simp [tipL, Fl.at]

abbrev tyKnown : TypeId := 108
abbrev tyString : TypeId := 9

/-- The row of names: nil as it was laid, or a slice of its own. -/
def RowIn (μ : Mem) (p : PV) (row : List ByteArray) (F : List Nat) : Prop := (p = .list 1 .nil [] ∧ row = [] ∧ F = []) ∨ OwnV tyString 1 μ p (rowsS row) F

theorem RowIn.at_ {μ : Mem} {p : PV} {row : List ByteArray} {F : List Nat} (h : RowIn μ p row F) : ∀ x ∈ F, μ x ≠ none := by
  rcases h with ⟨_, _, rfl⟩ | h
  · intro x hx; cases hx
  · exact h.at_
theorem RowIn.same {μ μ' : Mem} {p : PV} {row : List ByteArray} {F : List Nat} (h : RowIn μ p row F) (hk : ∀ x ∈ F, μ' x = μ x) : RowIn μ' p row F := by
  rcases h with h | h
  · exact .inl h
  · exact .inr (h.same hk)
theorem RowIn.view {μ : Mem} {p : PV} {row : List ByteArray} {F : List Nat} (h : RowIn μ p row F) : BorV μ p (.list 1 .sh (rowsS row)) := by
  rcases h with ⟨rfl, rfl, _⟩ | h
  · exact .wk (.list 1 .nil [])
  · exact h.view (rowsS_each _) (rowsS_cell _)

/-- What is known, as it lies in memory: its members, and its row. -/
structure KnIn (μ : Mem) (k : Nat) (K row : List ByteArray) (F : List Nat) : Prop where
  ex : ∃ b L p Fs Fr, μ k = some (.cells tyKnown [pP b 0, p]) ∧ NSet μ b L Fs ∧ Up cmpS L ∧ (∀ y, y ∈ L ↔ y ∈ K) ∧ L.length ≤ K.length ∧ RowIn μ p row Fr ∧ k ∉ Fs ∧ (∀ x ∈ Fr, x ≠ k ∧ x ∉ Fs) ∧ F = k :: (Fs ++ Fr)
  row : row.length ≤ K.length

theorem KnIn.at_ {μ : Mem} {k : Nat} {K row : List ByteArray} {F : List Nat} (h : KnIn μ k K row F) : ∀ x ∈ F, μ x ≠ none := by
  obtain ⟨b, L, p, Fs, Fr, h1, h2, _, _, _, h3, _, _, rfl⟩ := h.ex
  intro x hx
  simp only [List.mem_cons, List.mem_append] at hx
  rcases hx with rfl | hx | hx
  · rw [h1]; simp
  · exact h2.at_.2 x hx
  · exact h3.at_ x hx

theorem KnIn.same {μ μ' : Mem} {k : Nat} {K row : List ByteArray} {F : List Nat} (h : KnIn μ k K row F) (hk : ∀ x ∈ F, μ' x = μ x) : KnIn μ' k K row F := by
  obtain ⟨b, L, p, Fs, Fr, h1, h2, h3, h4, h5, h6, h7, h8, rfl⟩ := h.ex
  exact ⟨⟨b, L, p, Fs, Fr, by rw [hk k (by simp)]; exact h1, h2.same fun x hx => hk x (by simp [hx]), h3, h4, h5, h6.same fun x hx => hk x (by simp [hx]), h7, h8, rfl⟩, h.row⟩

/-- nil as a slice of its own. -/
theorem KnIn.raw {μ : Mem} {k : Nat} {K row : List ByteArray} {F : List Nat} (h : KnIn μ k K row F) : ∃ μ', GU μ μ' ∧ Mv μ μ' F F ∧ ∃ b L p Fs Fr, μ' k = some (.cells tyKnown [pP b 0, p]) ∧ NSet μ' b L Fs ∧ Up cmpS L ∧ (∀ y, y ∈ L ↔ y ∈ K) ∧ L.length ≤ K.length ∧ OwnV tyString 1 μ' p (rowsS row) Fr ∧ k ∉ Fs ∧ (∀ x ∈ Fr, x ≠ k ∧ x ∉ Fs) ∧ F = k :: (Fs ++ Fr) := by
  obtain ⟨b, L, p, Fs, Fr, h1, h2, h3, h4, h5, h6, h7, h8, rfl⟩ := h.ex
  rcases h6 with ⟨rfl, rfl, rfl⟩ | h6
  · refine ⟨μ.set k (some (.cells tyKnown [pP b 0, .raw (.slice none 0 0)])), GU.bor (μ1 := M0) (fun _ _ h => by cases h) fun x o hx => ⟨rfl, ?_⟩, (Mv.set (.inl (by simp))).sub (by simp), b, L, _, Fs, [], Mem.set_same _ _ _, h2.same fun x hx => Mem.set_ne _ _ (fun e => h7 (e ▸ hx)), h3, h4, h5, .inl ⟨rfl, rfl, rfl⟩, h7, h8, rfl⟩
    by_cases e : x = k
    · subst e
      rw [Mem.set_same] at hx; cases hx
      exact .inr ⟨tyKnown, _, _, rfl, h1, BorL.cons (.same _) (BorL.cons (.nil 1 []) (BorL.nil _))⟩
    · rw [Mem.set_ne _ _ e] at hx; exact .inl hx
  · exact ⟨μ, GU.refl μ, Mv.refl _ _, b, L, p, Fs, Fr, h1, h2, h3, h4, h5, h6, h7, h8, rfl⟩

theorem cMet {μ : Mem} {k : Nat} {K row : List ByteArray} {F : List Nat} (h : KnIn μ k K row F) (hl : K.length ≤ 100000) (v : ByteArray) {R : PV → Mem → Prop} (hk : ∀ μ' F', KnIn μ' k (K ++ newK K v) (row ++ newK K v) F' → Mv μ μ' F F' → R (.tup []) μ') : CallP Try.prog 101 [pP k 0, pS v] μ R := by
  have hrow := h.row
  obtain ⟨μ0, hG, hm0, b, L, p, Fs, Fr, h1, h2, h3, h4, h5, h6, h7, h8, rfl⟩ := h.raw
  refine CallP.pre hG (G_shape_known_met.c ?_)
  refine ⟨_, rdM_at h1 (by simp), cPut h2 h3 (by omega) v fun μ1 L1 F1 t ht i1 i2 i3 i4 i5 => ⟨_, rfl, ?_⟩⟩
  have hkF : μ1 k = μ0 k := i5.keep k (by rw [h1]; simp) h7
  have hFr : ∀ x ∈ Fr, μ1 x = μ0 x := fun x hx => i5.keep x (h6.at_ x hx) (h8 x hx).2
  have h6' := h6.same hFr
  have h1' := hkF.trans h1
  have hkF1 : k ∉ F1 := fun hm => (i5.grow k hm).elim h7 fun e => by rw [h1] at e; cases e
  have hrF1 : ∀ x ∈ Fr, x ∉ F1 := fun x hx hm => (i5.grow x hm).elim (h8 x hx).2 (h6.at_ x hx)
  have hm1 : Mv μ0 μ1 (k :: (Fs ++ Fr)) (k :: (F1 ++ Fr)) := by
    refine (i5.wide (G := k :: (Fs ++ Fr)) fun x hx => by simp [hx]).sub fun x hx => ?_
    simp only [List.mem_cons, List.mem_append] at hx ⊢
    rcases hx with h | h | h
    · exact .inr (.inl h)
    · exact .inl h
    · exact .inr (.inr (.inr h))
  refine CIf.mk (fun e => ?_) (fun e => ?_)
  · have hn : v ∉ K := fun hv => ht.1 e ((h4 v).2 hv)
    have hb : hasB K v = false := by
      cases hb : hasB K v with
      | false => rfl
      | true => exact absurd (hasB_iff.1 hb) hn
    have hnew : newK K v = [v] := by unfold newK; rw [hb]; rfl
    rw [hnew] at hk
    obtain ⟨a, c, rfl, happ⟩ := h6'.app (rowsS_each row)
    refine ⟨_, _, _, rdM_at h1' (by simp), ?_⟩
    simp only [rowsS_len] at happ
    rw [rowsS_len]
    refine happ [pS v] 16 _ rfl rfl (by omega) (by omega) fun b' c' rest μ2 hb' hrest hc' hm2 => ?_
    have nk : b' ≠ k := by
      rintro rfl
      rcases hm2.grow b' (by simp) with h | h
      · exact (h8 b' h).1 rfl
      · rw [h1'] at h; cases h
    have nF : b' ∉ F1 := fun hx => by
      rcases hm2.grow b' (by simp) with h | h
      · exact hrF1 b' h hx
      · exact i1.at_.2 b' hx h
    have hk2 : μ2 k = μ1 k := hm2.keep k (by rw [h1']; simp) fun hx => (h8 k hx).1 rfl
    refine ⟨_, _, hk2.trans h1', by simp, ?_⟩
    have hw : wrL [pP b 0, .raw (.slice a (rowsS row).length c)] (0 + 1) [PV.raw (.slice (some ⟨b', 0, none⟩) (row.length + 1) c')] = [pP b 0, .raw (.slice (some ⟨b', 0, none⟩) (row.length + 1) c')] := by simp [wrL]
    rw [hw]
    have hm2' : Mv μ1 μ2 (k :: (F1 ++ Fr)) (k :: (F1 ++ [b'])) := by
      refine (hm2.wide (G := k :: (F1 ++ Fr)) fun x hx => by simp [hx]).sub fun x hx => ?_
      simp only [List.mem_cons, List.mem_append, List.not_mem_nil, or_false] at hx ⊢
      rcases hx with h | h | h
      · exact .inr (.inl h)
      · exact .inr (.inr (.inl h))
      · exact .inl h
    refine hk _ (k :: (F1 ++ [b'])) ⟨⟨b, L1, _, F1, [b'], Mem.set_same _ _ _, i1.same fun x hx => ?_, i2, fun y => ?_, by rw [e] at i4; simp at i4 ⊢; omega, .inr (.inr ⟨b', c', rest, ?_, rfl, ?_, ?_, ?_⟩), hkF1, fun x hx => ?_, rfl⟩, by simp; omega⟩ (hm0.trans (hm1.trans (hm2'.trans ((Mv.set (.inl (by simp))).sub (by simp)))))
    · rw [Mem.set_ne _ _ (show x ≠ k from fun e => hkF1 (e ▸ hx))]
      exact hm2.keep x (i1.at_.2 x hx) fun hx' => hrF1 x hx' hx
    · rw [i3, h4]; simp [or_comm]
    · simp
    · rw [Mem.set_ne _ _ nk, hb']; simp [rowsS]
    · simpa using hrest
    · simpa using hc'
    · simp at hx; subst hx; exact ⟨nk, nF⟩
  · have hv : v ∈ K := by
      refine Classical.byContradiction fun hn => ?_
      have := ht.2 fun hv => hn ((h4 v).1 hv)
      rw [e] at this; cases this
    have hnew : newK K v = [] := by unfold newK; rw [hasB_iff.2 hv]; rfl
    rw [hnew, List.append_nil, List.append_nil] at hk
    refine hk μ1 (k :: (F1 ++ Fr)) ⟨⟨b, L1, p, F1, Fr, h1', i1, i2, fun y => ?_, ?_, .inr h6', hkF1, fun x hx => ⟨(h8 x hx).1, hrF1 x hx⟩, rfl⟩, hrow⟩ (hm0.trans hm1)
    · rw [i3, h4]; exact ⟨fun h => h.elim (fun e => e ▸ hv) id, .inr⟩
    · rw [e] at i4; simp at i4; omega

theorem cHas {μ : Mem} {k : Nat} {K row : List ByteArray} {F : List Nat} (h : KnIn μ k K row F) (hl : K.length ≤ 100000) (v : ByteArray) {R : PV → Mem → Prop} (hk : R (pB (hasB K v)) μ) : CallP Try.prog 93 [pP k 0, pS v] μ R := by
  obtain ⟨b, L, p, Fs, Fr, h1, h2, h3, h4, h5, h6, h7, h8, rfl⟩ := h.ex
  refine G_shape_known_has.c ?_
  refine ⟨_, rdM_at h1 (by simp), cPlace h2 h3 (by omega) v fun i t hf => ⟨_, _, rfl, ?_⟩⟩
  have : t = hasB K v := by
    have e : t = true ↔ hasB K v = true := by rw [hf.mem cmpS_ok, h4, hasB_iff]
    exact Bool.eq_iff_iff.2 e
  rw [this]; exact hk

theorem cInner {μ : Mem} {k : Nat} {K row : List ByteArray} {F : List Nat} (h : KnIn μ k K row F) {R : PV → Mem → Prop} (hk : ∀ μ' k2 F1 F2, KnIn μ' k K row F1 → KnIn μ' k2 K [] F2 → (∀ x ∈ F2, x ∉ F1) → Mv μ μ' F (F1 ++ F2) → R (pP k2 0) μ') : CallP Try.prog 91 [pP k 0] μ R := by
  have hat := h.at_
  obtain ⟨b, L, p, Fs, Fr, h1, h2, h3, h4, h5, h6, h7, h8, rfl⟩ := h.ex
  refine G_shape_known_inner.c ?_
  refine ⟨_, rdM_at h1 (by simp), cClone h2 fun μ1 b2 hb2 hne i1 i2 i3 => ⟨_, rfl, fun k2 hk2 => ?_⟩⟩
  have hkF : μ1 k = μ k := i3.keep k (by rw [h1]; simp) h7
  have hk1 : μ1 k ≠ none := by rw [hkF, h1]; simp
  have htip : ∀ x ∈ Fr, μ1 x = μ x := fun x hx => i3.keep x (hat x (by simp [hx])) (h8 x hx).2
  have n1 : ∀ x, μ1 x ≠ none → x ≠ k2 := fun x hx e => hx (e ▸ hk2)
  have nb2 : b2 ≠ k := by
    rintro rfl
    rcases hb2 with h | h
    · exact h7 h
    · rw [h1] at h; cases h
  have hbk : b ≠ k := by rintro rfl; exact h7 h2.at_.1
  have ntip : ∀ x ∈ Fr, x ≠ b ∧ x ≠ b2 := fun x hx => ⟨fun e => (h8 x hx).2 (e ▸ h2.at_.1), fun e => by
    subst e
    rcases hb2 with h | h
    · exact (h8 x hx).2 h
    · exact hat x (by simp [hx]) h⟩
  have tip1 : ∀ x ∈ Fr, μ1 x ≠ none := fun x hx => by rw [htip x hx]; exact hat x (by simp [hx])
  refine hk _ k2 (k :: ([b] ++ Fr)) (k2 :: ([b2] ++ [])) ⟨⟨b, L, p, [b], Fr, ?_, i1.same fun x hx => ?_, h3, h4, h5, h6.same fun x hx => ?_, by simp [Ne.symm hbk], fun x hx => ⟨(h8 x hx).1, by simp [(ntip x hx).1]⟩, rfl⟩, h.row⟩ ⟨⟨b2, L, _, [b2], [], Mem.set_same _ _ _, i2.same fun x hx => ?_, h3, h4, h5, .inl ⟨rfl, rfl, rfl⟩, ?_, fun x hx => by simp at hx, rfl⟩, by simp⟩ (fun x hx => ?_) ?_
  · rw [Mem.set_ne _ _ (n1 k hk1), hkF]; exact h1
  · exact Mem.set_ne _ _ (n1 x (i1.at_.2 x hx))
  · rw [Mem.set_ne _ _ (n1 x (tip1 x hx))]; exact htip x hx
  · exact Mem.set_ne _ _ (n1 x (i2.at_.2 x hx))
  · simp only [List.mem_singleton]; rintro rfl; exact i2.at_.2 k2 (by simp) hk2
  · simp only [List.append_nil, List.mem_cons, List.not_mem_nil, or_false] at hx
    intro hx'
    simp only [List.mem_cons, List.mem_append, List.not_mem_nil, or_false] at hx'
    rcases hx with rfl | rfl
    · rcases hx' with e | e | e
      · exact hk1 (e ▸ hk2)
      · exact i1.at_.2 x (by simp [e]) hk2
      · exact tip1 x e hk2
    · rcases hx' with e | e | e
      · exact nb2 e
      · exact hne e
      · exact (ntip x e).2 rfl
  · refine ((i3.wide (G := k :: (Fs ++ Fr)) fun x hx => by simp [hx]).trans (Mv.set (.inr hk2))).sub fun x hx => ?_
    simp only [List.append_nil, List.mem_cons, List.mem_append, List.not_mem_nil, or_false] at hx ⊢
    rcases hx with (rfl | rfl | hx) | rfl | rfl
    · simp
    · simp
    · simp [hx]
    · simp
    · simp

theorem cField {μ : Mem} {k : Nat} {K row : List ByteArray} {F : List Nat} (h : KnIn μ k K row F) (fl : Fl) (ts : List Test) (hl : K.length + ts.length ≤ 100000) {R : PV → Mem → Prop}
    (hok : ∀ μ' F' K' e, metL K ts = some K' → K' = K ++ e → e.length ≤ ts.length → KnIn μ' k K' (row ++ e) F' → Mv μ μ' F F' → R (pB true) μ') (hno : ∀ μ' F', metL K ts = none → Mv μ μ' F F' → R (pB false) μ') : CallP Try.prog 102 [pP k 0, .list 6 fl (ts.map Test.pv)] μ R := by
  refine G_shape_known_field.c ?_
  refine LoopI.each (n := ts.length) (by omega) (fun i u => ∃ Ki e Fi, metL K (ts.take i) = some Ki ∧ Ki = K ++ e ∧ e.length ≤ i ∧ KnIn u k Ki (row ++ e) Fi ∧ Mv μ u F Fi) ⟨K, [], F, by simp [metL], by simp, by simp, by simpa using h, Mv.refl _ _⟩ ?_ ?_
  · rintro i u next hi ⟨Ki, e, Fi, i1, rfl, i2, i3, i4⟩ hnext
    have hlen : (K ++ e).length ≤ 100000 := by rw [List.length_append]; omega
    refine CIf.t (by simpa using hi) ⟨by omega, _, atRow hi, _, _, _, _, _, _, _, rfl, ?_⟩
    have hT := metL_take hi i1
    have same : metT (K ++ e) ts[i] = some (K ++ e) → ∀ u', u' = u → next (IntKind.wrap .i64 ((i : Int) + 1)) u' := fun hm u' hu' => by
      subst hu'
      exact hnext _ ⟨K ++ e, e, Fi, by rw [hT, hm], rfl, by omega, i3, i4⟩
    refine CIf.mk (fun h8 => same (by simp [metT, h8]) _ rfl) (fun h8 => CIf.mk (fun hv => same (by simp [metT, hv]) _ rfl) (fun hv => CIf.mk (fun h1 => ?_) (fun h1 => ?_)))
    · refine cMet i3 hlen ts[i].var fun μ' F' j1 j2 => ⟨rfl, hnext _ ⟨K ++ (e ++ newK (K ++ e) ts[i].var), e ++ newK (K ++ e) ts[i].var, F', ?_, rfl, ?_, by rw [List.append_assoc, List.append_assoc] at j1; exact j1, i4.trans j2⟩⟩
      · rw [hT]; simp [metT, h8, hv, h1]
      · have := newK_len (K ++ e) ts[i].var; rw [List.length_append]; omega
    · refine cHas i3 hlen ts[i].var ⟨_, rfl, CIf.mk (fun hh => ?_) (fun hh => ?_)⟩
      · refine hno u Fi (metL_stop hi i1 ?_) i4
        have hh : hasB (K ++ e) ts[i].var = false := nb hh
        simp [metT, h8, hv, h1, hh]
      · have hh : hasB (K ++ e) ts[i].var = true := nt hh
        exact same (by simp [metT, h8, hv, h1, hh]) _ rfl
  · rintro u next ⟨Ki, e, Fi, i1, rfl, i2, i3, i4⟩
    rw [List.take_length] at i1
    exact CIf.f (by simp) (hok u Fi _ e i1 rfl i2 i3 i4)

theorem cOne {μ : Mem} {k : Nat} {K row : List ByteArray} {F : List Nat} (h : KnIn μ k K row F) (c : Cond) (hc : okC c) (hl : K.length ≤ 10000) {R : PV → Mem → Prop}
    (hok : ∀ μ' F' K' e, metC K c = some K' → K' = K ++ e → e.length ≤ 9 → KnIn μ' k K' (row ++ e) F' → Mv μ μ' F F' → R (pB true) μ') (hno : ∀ μ' F', metC K c = none → Mv μ μ' F F' → R (pB false) μ') : CallP Try.prog 92 [pP k 0, .agg c.pv] μ R := by
  obtain ⟨_, ha, hv, _, _, _⟩ := (okC_eq c).1 hc
  rw [Cond.pv_eq]
  refine G_shape_known_one.c ?_
  have go : ∀ (u : Mem) (e : List ByteArray) (F1 : List Nat), K ++ e = (bif c.goal then K ++ newK K c.id else K) → e.length ≤ 1 → KnIn u k (K ++ e) (row ++ e) F1 → Mv μ u F F1 →
      CallP Try.prog 93 [pP k 0, pS c.id] u fun v_1 u_2 => ∃ x14, v_1 = pB x14 ∧ CIf x14 (CallP Try.prog 102 [pP k 0, .list 6 .sh (c.attr.map Test.pv)] u_2 fun v_2 u_3 => ∃ x19, v_2 = pB x19 ∧ CIf x19 (CallP Try.prog 102 [pP k 0, .list 6 .sh (c.value.map Test.pv)] u_3 fun v_3 u_4 => ∃ x25, v_3 = pB x25 ∧ R (pB x25) u_4) (R (pB false) u_3)) (R (pB false) u_2) := by
    intro u e F1 he hle i1 i2
    have hm : metC K c = (bif hasB (K ++ e) c.id then (metL (K ++ e) c.attr).bind fun K1 => metL K1 c.value else none) := by unfold metC; rw [← he]
    have hlen : (K ++ e).length ≤ 10001 := by rw [List.length_append]; omega
    refine cHas i1 (by omega) c.id ⟨_, rfl, CIf.mk (fun hh => ?_) (fun hh => hno u F1 (by rw [hm, hh]; rfl) i2)⟩
    rw [hh] at hm
    refine cField i1 .sh c.attr (by omega) (fun μ1 F2 K1 e1 j1 j2 j3 j4 j5 => ⟨_, rfl, CIf.t rfl ?_⟩) (fun μ1 F2 j1 j5 => ⟨_, rfl, CIf.f rfl (hno μ1 F2 (by rw [hm, j1]; rfl) (i2.trans j5))⟩)
    subst j2
    refine cField j4 .sh c.value (by rw [List.length_append]; omega) (fun μ2 F3 K2 e2 l1 l2 l3 l4 l5 => ⟨_, rfl, ?_⟩) (fun μ2 F3 l1 l5 => ⟨_, rfl, hno μ2 F3 (by rw [hm]; simp only [cond_true, j1, Option.bind_some]; exact l1) (i2.trans (j5.trans l5))⟩)
    refine hok μ2 F3 K2 (e ++ e1 ++ e2) (by rw [hm]; simp only [cond_true, j1, Option.bind_some]; exact l1) (by rw [l2]; simp) (by simp; omega) ?_ (i2.trans (j5.trans l5))
    simpa using l4
  refine CJoin.of fun J hJ => CIf.mk (fun hg => ?_) (fun hg => ?_)
  · refine cMet h (by omega) c.id fun μ1 F1 j1 j2 => ⟨rfl, hJ _ _ (go μ1 _ F1 (by rw [hg]; rfl) (newK_len K c.id) j1 j2)⟩
  · exact hJ _ _ (go μ [] F (by rw [hg]; simp) (by simp) (by simpa using h) (Mv.refl _ _))

/-- What another known is does not matter for this one. -/
theorem KnIn.beside {μ μ' μ'' : Mem} {k : Nat} {K row : List ByteArray} {F F1 F2 F2' : List Nat} (h : KnIn μ' k K row F1) (hd : ∀ x ∈ F2, x ∉ F1) (hm : Mv μ μ' F (F1 ++ F2)) (hm' : Mv μ' μ'' F2 F2') : KnIn μ'' k K row F1 ∧ Mv μ μ'' F F1 := by
  refine ⟨h.same fun x hx => hm'.keep x (h.at_ x hx) fun hx' => hd x hx' hx, ?_⟩
  refine (hm.trans (hm'.wide (G := F1 ++ F2) fun x hx => by simp [hx])).sub fun x hx => by simp [hx]

theorem cKConds : ∀ (n : Nat) {μ : Mem} {k : Nat} {K row : List ByteArray} {F : List Nat} (h : KnIn μ k K row F) (fl : Fl) (l : List Cond) (at_ : Nat), sizeL l ≤ n → okL l → K.length ≤ 9 * at_ → at_ + sizeL l ≤ 1000 → ∀ {R : PV → Mem → Prop},
    (∀ μ' F' K' e, knowL l at_ K = .ok K' → K' = K ++ e → K'.length ≤ 9 * (at_ + sizeL l) → KnIn μ' k K' (row ++ e) F' → Mv μ μ' F F' → R (.tup [pI ((at_ + sizeL l : Nat) : Int), pB true]) μ') → (∀ μ' F' (e : Nat), knowL l at_ K = .error e → Mv μ μ' F F' → R (.tup [pI (e : Int), pB false]) μ') →
    CallP Try.prog 76 [pP k 0, .list 7 fl (l.map Cond.pv), pI (at_ : Nat)] μ R := by
  intro n
  induction n with
  | zero =>
    intro μ k K row F h fl l at_ hn _ _ _ R hok _
    have : l = [] := by
      cases l with
      | nil => rfl
      | cons c l => simp [sizeL, sizeC_eq] at hn
    subst this
    refine G_shape_known_conds.c ?_
    exact LoopI.each2 (n := 0) (by omega) (fun i x u => x = ((at_ : Nat) : Int) ∧ u = μ) ⟨rfl, rfl⟩ (fun i x u next hi => by omega) (fun x u next hx => by
      obtain ⟨rfl, rfl⟩ := hx
      exact CIf.f (by simp) (hok u F K [] rfl (by simp) (by simp [sizeL]; omega) (by simpa using h) (Mv.refl _ _)))
  | succ n ih =>
    intro μ k K row F h fl l at_ hn hokl hK hsz R hok herr
    refine G_shape_known_conds.c ?_
    have hll := sizeL_len l
    refine LoopI.each2 (n := l.length) (by omega) (fun i x u => x = ((at_ + sizeL (l.take i) : Nat) : Int) ∧ ∃ Ki e Fi, knowL (l.take i) at_ K = .ok Ki ∧ Ki = K ++ e ∧ Ki.length ≤ 9 * (at_ + sizeL (l.take i)) ∧ KnIn u k Ki (row ++ e) Fi ∧ Mv μ u F Fi) ⟨by simp [sizeL], K, [], F, by simp [knowL], by simp, by simp [sizeL]; omega, by simpa using h, Mv.refl _ _⟩ ?_ ?_
    · rintro i _ u next hi ⟨rfl, Ki, e, Fi, i1, rfl, i2, i3, i4⟩ hnext
      have hm := sizeL_mem (List.getElem_mem hi)
      have hs := sizeL_split l (i + 1)
      have hst := sizeL_take hi
      rw [hst] at hs
      have hokc := okL_iff.1 hokl l[i] (List.getElem_mem hi)
      obtain ⟨hkind, _, _, _, _, hokcs⟩ := (okC_eq _).1 hokc
      have hT := knowL_take hi i1
      have hC := knowC_eq l[i] (at_ + sizeL (l.take i)) (K ++ e)
      have hrow : rowM l[i].pv 0 7 = some [pI l[i].kind, pB l[i].goal, pS l[i].id, .list 6 .sh (l[i].attr.map Test.pv), .list 6 .sh (l[i].value.map Test.pv), pB l[i].acc, .list 7 .sh (l[i].conds.map Cond.pv)] := by rw [Cond.pv_eq]; rfl
      refine CIf.t (by simpa using hi) ⟨by omega, _, atRow hi, _, _, _, _, _, _, _, _, _, _, hrow, ?_⟩
      dsimp only
      have hat1 : IntKind.wrap .i64 (((at_ + sizeL (l.take i) : Nat) : Int) + 1) = ((at_ + sizeL (l.take i) + 1 : Nat) : Int) := by rw [wrap_id (by omega) (by omega)]; omega
      refine CJoin.of fun J hJ => CIf.mk (fun hp => ?_) (fun hp => ?_)
      · have hk1 : (l[i].kind == 1) = false := by simpa using hp
        refine cInner i3 fun μ1 k2 F1 F2 j1 j2 j3 j4 => ⟨_, rfl, hJ _ _ (CIf.mk (fun h3 => ?_) (fun h3 => ?_))⟩
        · rw [hat1]
          rw [h3] at hC
          refine ih j2 .sh l[i].conds (at_ + sizeL (l.take i) + 1) (by omega) hokcs (by omega) (by omega) (fun μ2 F3 K2 e2 l1 l2 l3 l4 l5 => ⟨_, _, rfl, CIf.f rfl ?_⟩) (fun μ2 F3 e2 l1 l5 => ⟨_, _, rfl, CIf.t rfl (herr μ2 _ e2 (knowL_stop hi i1 (by rw [hC, l1]; rfl)) (i4.trans (j1.beside j3 j4 l5).2))⟩)
          obtain ⟨b1, b2⟩ := j1.beside j3 j4 l5
          refine hnext _ _ ⟨?_, K ++ e, e, F1, ?_, rfl, ?_, b1, i4.trans b2⟩
          · rw [hst]; congr 1; omega
          · rw [hT, hC, l1]; rfl
          · rw [hst]; omega
        · rw [h3, hk1] at hC
          have hcs : l[i].conds.length = 0 := by
            rcases hkind with h | h
            · rw [h] at h3; simp at h3
            · exact h.2
          have hcs0 : l[i].conds = [] := List.eq_nil_of_length_eq_zero hcs
          have hsz0 : sizeL l[i].conds = 0 := by rw [hcs0]; rfl
          have hpv : PV.agg [pI l[i].kind, pB l[i].goal, pS l[i].id, .list 6 .sh (l[i].attr.map Test.pv), .list 6 .sh (l[i].value.map Test.pv), pB l[i].acc, .list 7 .sh (l[i].conds.map Cond.pv)] = .agg l[i].pv := by rw [Cond.pv_eq]
          rw [hpv]
          refine cOne j2 l[i] hokc (by omega) (fun μ2 F3 K2 e2 l1 l2 l3 l4 l5 => ⟨_, rfl, CIf.f rfl ?_⟩) (fun μ2 F3 l1 l5 => ⟨_, rfl, CIf.t rfl (herr μ2 _ _ (knowL_stop hi i1 (by rw [hC, l1]; rfl)) (i4.trans (j1.beside j3 j4 l5).2))⟩)
          obtain ⟨b1, b2⟩ := j1.beside j3 j4 l5
          rw [hat1]
          refine hnext _ _ ⟨?_, K ++ e, e, F1, ?_, rfl, ?_, b1, i4.trans b2⟩
          · rw [hst]; congr 1; omega
          · rw [hT, hC, l1]; rfl
          · rw [hst]; omega
      · have hk1 : l[i].kind = 1 := by simpa using hp
        have h3 : (l[i].kind == 3) = false := by rw [hk1]; rfl
        refine hJ _ _ (CIf.f h3 ?_)
        rw [h3, show (l[i].kind == 1) = true by rw [hk1]; rfl] at hC
        have hcs : l[i].conds.length = 0 := by
          rcases hkind with h | h
          · rw [hk1] at h; cases h
          · exact h.2
        have hcs0 : l[i].conds = [] := List.eq_nil_of_length_eq_zero hcs
        have hsz0 : sizeL l[i].conds = 0 := by rw [hcs0]; rfl
        have hpv : PV.agg [pI l[i].kind, pB l[i].goal, pS l[i].id, .list 6 .sh (l[i].attr.map Test.pv), .list 6 .sh (l[i].value.map Test.pv), pB l[i].acc, .list 7 .sh (l[i].conds.map Cond.pv)] = .agg l[i].pv := by rw [Cond.pv_eq]
        rw [hpv]
        refine cOne i3 l[i] hokc (by omega) (fun μ2 F3 K2 e2 l1 l2 l3 l4 l5 => ⟨_, rfl, CIf.f rfl ?_⟩) (fun μ2 F3 l1 l5 => ⟨_, rfl, CIf.t rfl (herr μ2 _ _ (knowL_stop hi i1 (by rw [hC, l1]; rfl)) (i4.trans l5))⟩)
        rw [hat1]
        refine hnext _ _ ⟨?_, K2, e ++ e2, F3, ?_, by rw [l2, List.append_assoc], ?_, by rw [← List.append_assoc]; exact l4, i4.trans l5⟩
        · rw [hst]; congr 1; omega
        · rw [hT, hC, l1]; rfl
        · rw [hst, l2, List.length_append]; omega
    · rintro _ u next ⟨rfl, Ki, e, Fi, i1, rfl, i2, i3, i4⟩
      rw [List.take_length] at i1 i2
      refine CIf.f (by simp) ?_
      dsimp only
      rw [List.take_length]
      exact hok u Fi _ e i1 rfl i2 i3 i4

theorem cLacks {μ : Mem} {k : Nat} {K row : List ByteArray} {F : List Nat} (h : KnIn μ k K row F) (hl : K.length ≤ 100000) (a : Atom) {R : PV → Mem → Prop} (hk : R (pB (lackB K a)) μ) : CallP Try.prog 77 [pP k 0, .agg a.pv] μ R := by
  refine G_shape_known_lacks.c ?_
  refine CIf.mk (fun hv => cHas h hl a.var ⟨_, rfl, ?_⟩) (fun hv => ?_)
  · have : lackB K a = !hasB K a.var := by unfold lackB; rw [hv]; rfl
    rw [this] at hk; exact hk
  · have : lackB K a = false := by unfold lackB; rw [hv]; rfl
    rw [this] at hk; exact hk

end Go.Proofs.Ytfjemjnbemdkgaa
