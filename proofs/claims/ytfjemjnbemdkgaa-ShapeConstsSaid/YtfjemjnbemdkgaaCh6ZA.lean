import Derived.Test.YtfjemjnbemdkgaaCh6Z
/-
  The laws of chapter 6: constants, the document's own.
-/
namespace Go.Proofs.Ytfjemjnbemdkgaa
open Go.Eng Go.RowKit
set_option linter.unusedVariables false
set_option linter.unusedSimpArgs false
set_option linter.unnecessarySimpa false

def testedT (t : Test) : List Sym := bif t.rel == 8 then t.list else bif strEq t.var ⟨#[]⟩ then [t.sym] else []
def atomsA (a : Actn) : List Atom := [a.attr, a.value.a, a.value.b, a.other]
def toldA (a : Atom) : List Sym := bif strEq a.var ⟨#[]⟩ && !noneB a.sym then [a.sym] else []
def refConsts (p : Prod) : List Sym := (eachL p.conds).flatMap (fun c => c.attr.flatMap testedT ++ c.value.flatMap testedT) ++ p.acts.flatMap fun a => (atomsA a).flatMap toldA

theorem flatMap_len {α β : Type} {f : α → List β} {l : List α} {m : Nat} (h : ∀ x ∈ l, (f x).length ≤ m) : (l.flatMap f).length ≤ l.length * m := by
  induction l with
  | nil => simp
  | cons x l ih =>
    have h1 := h x (by simp)
    have h2 := ih fun y hy => h y (by simp [hy])
    simp only [List.flatMap_cons, List.length_append, List.length_cons, Nat.succ_mul]; omega
theorem flatMap_take_len {α β : Type} {f : α → List β} {l : List α} {m k : Nat} (h : ∀ x ∈ l, (f x).length ≤ m) (hk : k ≤ l.length) : ((l.take k).flatMap f).length ≤ l.length * m := by
  have := flatMap_len (l := l.take k) (f := f) (m := m) fun x hx => h x (List.mem_of_mem_take hx)
  rw [List.length_take, Nat.min_eq_left hk] at this
  exact Nat.le_trans this (Nat.mul_le_mul_right _ hk)

theorem testedT_len {t : Test} (h : t.list.length ≤ 1000) : (testedT t).length ≤ 1000 := by
  unfold testedT
  cases t.rel == 8 <;> cases strEq t.var ⟨#[]⟩ <;> simp <;> exact h

theorem cTested (f : Fl) (l : List Test) (hl : l.length ≤ 1000) (ht : ∀ t ∈ l, t.list.length ≤ 1000) : Pure Try.prog 62 [.list 6 f (l.map Test.pv)] (.list 3 .sh ((l.flatMap testedT).map Sym.pv)) := by
  refine PureK.of (G_ponderref06_tested.c ?_)
  have hb : ∀ k, k ≤ l.length → ((l.take k).flatMap testedT).length ≤ 1000000 := fun k hk => by
    have := flatMap_take_len (f := testedT) (m := 1000) (fun t h => testedT_len (ht t h)) hk
    exact Nat.le_trans this (by omega)
  refine LoopI.each2 (n := l.length) (by omega) (fun k x u => x.2 = ((l.take k).flatMap testedT).map Sym.pv ∧ Ow [Tip x.1 ((l.take k).flatMap testedT).length 3] u) ⟨rfl, Ow.nil (L := []) trivial (.inl rfl)⟩ ?_ ?_
  · rintro k ⟨fl, _⟩ u next hk ⟨rfl, hO⟩ hnext
    have hft := flatMap_take (f := testedT) hk
    have hbk := hb k (by omega)
    have htk := testedT_len (ht _ (List.getElem_mem hk))
    refine CIf.t (by simpa using hk) ⟨by omega, _, atRow hk, _, rfl, CIf.mk (fun h8 => ?_) (fun h8 => ?_)⟩
    · have ht8 : testedT l[k] = l[k].list := by simp only [testedT, h8, cond_true]
      rw [ht8] at hft htk
      refine ⟨by omega, _, atRow hk, _, _, rfl, hO.app (by simp only [List.length_map]) (by simp only [List.length_map, List.length_singleton]; omega) (by simp only [List.length_map, List.length_singleton]; omega) fun f' u' hO' => hnext _ _ ⟨?_, ?_⟩⟩
      · rw [hft, List.map_append]
      · rw [hft, List.length_append]; simpa using hO'
    · refine ⟨by omega, _, atRow hk, _, rfl, CIf.mk (fun hv => ?_) (fun hv => ?_)⟩
      · have ht8 : testedT l[k] = [l[k].sym] := by simp only [testedT, h8, hv, cond_true, cond_false]
        rw [ht8] at hft htk
        refine ⟨by omega, _, atRow hk, _, _, _, rfl, hO.app (by simp only [List.length_map]) (by simp only [List.length_map, List.length_singleton]; omega) (by simp only [List.length_map, List.length_singleton]; omega) fun f' u' hO' => hnext _ _ ⟨?_, ?_⟩⟩
        · rw [hft, List.map_append]; rfl
        · rw [hft, List.length_append]; simpa using hO'
      · have ht8 : testedT l[k] = [] := by simp only [testedT, h8, hv, cond_false]
        rw [ht8, List.append_nil] at hft
        exact hnext _ _ ⟨by rw [hft], by rw [hft]; exact hO⟩
  · rintro ⟨fl, _⟩ u next ⟨rfl, hO⟩
    refine CIf.f (by simp) ?_
    rw [List.take_length]; rfl

theorem toldA_len (a : Atom) : (toldA a).length ≤ 1 := by
  unfold toldA
  cases strEq a.var ⟨#[]⟩ && !noneB a.sym <;> simp

theorem cRConsts (f g : Fl) (p : Prod) (hl : lightL p.conds) (hs : sizeL p.conds ≤ 100) (ha : p.acts.length ≤ 1000) : Pure Try.prog 35 [.agg [pS p.name, .list 7 f (p.conds.map Cond.pv), .list 19 g (p.acts.map Actn.pv)]] (.list 3 .sh ((refConsts p).map Sym.pv)) := by
  refine PureK.of (G_ponderref06_Consts.c ?_)
  refine (cREach _ _ p.conds (Nat.le_refl _) (by omega)).call ⟨_, _, rfl, ?_⟩
  rw [List.length_map]
  have hel := eachL_len p.conds
  have hlc : ∀ c ∈ eachL p.conds, (c.attr.flatMap testedT).length ≤ 10000 ∧ (c.value.flatMap testedT).length ≤ 10000 := fun c hc => by
    obtain ⟨x, hx, rfl⟩ := List.mem_map.1 hc
    obtain ⟨_, h1, h2, h3, h4, _⟩ := (lightC_eq _).1 (lightL_pre p.conds 0 0 x hl hx)
    have a1 := flatMap_len (f := testedT) (m := 1000) (fun t h => testedT_len (by have := (h3 t h).1; omega))
    have a2 := flatMap_len (f := testedT) (m := 1000) (fun t h => testedT_len (by have := (h4 t h).1; omega))
    exact ⟨by omega, by omega⟩
  generalize hF : (fun c : Cond => c.attr.flatMap testedT ++ c.value.flatMap testedT) = F
  have hFl : ∀ c ∈ eachL p.conds, (F c).length ≤ 20000 := fun c hc => by
    have := hlc c hc; subst hF; simp only [List.length_append]; omega
  have hb : ∀ k, k ≤ (eachL p.conds).length → (((eachL p.conds).take k).flatMap F).length ≤ 2000000 := fun k hk => by
    have := flatMap_take_len (f := F) (m := 20000) hFl hk; omega
  refine LoopI.each2 (n := (eachL p.conds).length) (by omega) (fun k x u => x.2 = (((eachL p.conds).take k).flatMap F).map Sym.pv ∧ Ow [Tip x.1 (((eachL p.conds).take k).flatMap F).length 3] u) ⟨rfl, Ow.nil (L := []) trivial (.inl rfl)⟩ ?_ ?_
  · rintro k ⟨fl, _⟩ u next hk ⟨rfl, hO⟩ hnext
    have hft := flatMap_take (f := F) hk
    have hbk := hb k (by omega)
    obtain ⟨h1, h2, h3, h4⟩ := eachL_mem_len hl (List.getElem_mem hk)
    obtain ⟨g1, g2⟩ := hlc _ (List.getElem_mem hk)
    have hFk : F (eachL p.conds)[k] = (eachL p.conds)[k].attr.flatMap testedT ++ (eachL p.conds)[k].value.flatMap testedT := by subst hF; rfl
    refine CIf.t (by simpa using hk) ⟨by omega, _, atRow hk, _, _, by rw [Cond.pv_eq]; rfl, ?_⟩
    refine (cTested .sh _ h1 h3).call ⟨_, _, rfl, hO.app (by simp only [List.length_map]) (by simp only [List.length_map]; omega) (by simp only [List.length_map]; omega) fun f1 u1 hO => ?_⟩
    refine ⟨by omega, _, atRow hk, _, _, by rw [Cond.pv_eq]; rfl, ?_⟩
    refine (cTested .sh _ h2 h4).call ⟨_, _, rfl, hO.app (by simp only [List.length_map, List.length_append]) (by simp only [List.length_map]; omega) (by simp only [List.length_map]; omega) fun f2 u2 hO => hnext _ _ ⟨?_, ?_⟩⟩
    · rw [hft, hFk]; simp
    · rw [hft, hFk]; simp only [List.length_append, List.length_map] at hO ⊢
      rw [← Nat.add_assoc]; exact hO
  · rintro ⟨fl, _⟩ u next ⟨rfl, hO⟩
    refine CIf.f (by simp) ?_
    rw [List.take_length] at hO ⊢
    rw [List.length_map]
    have hb0 := hb _ (Nat.le_refl _)
    rw [List.take_length] at hb0
    generalize hD : (eachL p.conds).flatMap F = D at hO hb0
    have hG : ∀ a : Actn, ((atomsA a).flatMap toldA).length ≤ 4 := fun a => by
      have := flatMap_len (l := atomsA a) (f := toldA) (m := 1) fun x _ => toldA_len x
      exact this
    have hb2 : ∀ k, k ≤ p.acts.length → ((p.acts.take k).flatMap fun a => (atomsA a).flatMap toldA).length ≤ 10000 := fun k hk => by
      have := flatMap_take_len (l := p.acts) (f := fun a => (atomsA a).flatMap toldA) (m := 4) (fun a _ => hG a) hk; omega
    refine LoopI.each2 (n := p.acts.length) (by omega) (fun k x u => x.2 = (D ++ (p.acts.take k).flatMap fun a => (atomsA a).flatMap toldA).map Sym.pv ∧ Ow [Tip x.1 (D ++ (p.acts.take k).flatMap fun a => (atomsA a).flatMap toldA).length 3] u) ⟨by simp, by simpa using hO⟩ ?_ ?_
    · rintro k ⟨fl1, _⟩ u1 next1 hk ⟨rfl, hO1⟩ hnext1
      have hft := flatMap_take (l := p.acts) (f := fun a => (atomsA a).flatMap toldA) hk
      have hbk := hb2 k (by omega)
      generalize hE : D ++ (p.acts.take k).flatMap (fun a => (atomsA a).flatMap toldA) = E at hO1
      have hEl : E.length ≤ 2010000 := by subst hE; simp only [List.length_append]; omega
      refine CIf.t (by simpa using hk) ⟨by omega, _, atRow hk, _, _, _, _, _, _, _, _, _, _, _, _, _, _, _, _, _, _, _, rfl, ?_⟩
      have hal : ∀ (i : Nat) (hi : i < (atomsA p.acts[k]).length), [[pS p.acts[k].attr.var, pI p.acts[k].attr.sym.k, pS p.acts[k].attr.sym.t, pI p.acts[k].attr.sym.n], [pS p.acts[k].value.a.var, pI p.acts[k].value.a.sym.k, pS p.acts[k].value.a.sym.t, pI p.acts[k].value.a.sym.n], [pS p.acts[k].value.b.var, pI p.acts[k].value.b.sym.k, pS p.acts[k].value.b.sym.t, pI p.acts[k].value.b.sym.n], [pS p.acts[k].other.var, pI p.acts[k].other.sym.k, pS p.acts[k].other.sym.t, pI p.acts[k].other.sym.n]][Int.toNat (i : Int)]? = some (atomsA p.acts[k])[i].pv := fun i hi => atRow (l := atomsA p.acts[k]) (pv := Atom.pv) hi
      refine LoopI.each2 (n := (atomsA p.acts[k]).length) (by simp [atomsA]) (fun i x u => x.2 = (E ++ ((atomsA p.acts[k]).take i).flatMap toldA).map Sym.pv ∧ Ow [Tip x.1 (E ++ ((atomsA p.acts[k]).take i).flatMap toldA).length 3] u) ⟨by simp, by simpa using hO1⟩ ?_ ?_
      · rintro i ⟨fl2, _⟩ u2 next2 hi ⟨rfl, hO2⟩ hnext2
        have hfi := flatMap_take (f := toldA) hi
        have hbi := flatMap_take_len (l := atomsA p.acts[k]) (f := toldA) (m := 1) (fun a _ => toldA_len a) (Nat.le_of_lt hi)
        have h4 : (atomsA p.acts[k]).length = 4 := rfl
        refine CIf.t (by rw [h4] at hi; simp; omega) ⟨by omega, _, hal i hi, _, rfl, CIf.mk (fun hv => ⟨by omega, _, hal i hi, _, _, _, rfl, CIf.mk (fun hn => ?_) (fun hn => ?_)⟩) (fun hv => ?_)⟩
        · have ht : toldA (atomsA p.acts[k])[i] = [(atomsA p.acts[k])[i].sym] := by
            have hn' : noneB (atomsA p.acts[k])[i].sym = false := nb hn
            simp only [toldA, hv, hn', Bool.not_false, Bool.and_self, cond_true]
          rw [ht] at hfi
          refine ⟨by omega, _, hal i hi, _, _, _, rfl, hO2.app (by simp) (by simp only [List.length_append, List.length_singleton]; omega) (by simp only [List.length_append, List.length_singleton]; omega) fun f' u' hO' => hnext2 _ _ ⟨?_, ?_⟩⟩
          · rw [hfi]; simp
          · rw [hfi, ← List.append_assoc, List.length_append (bs := [_])]; exact hO'
        · have ht : toldA (atomsA p.acts[k])[i] = [] := by
            have hn' : noneB (atomsA p.acts[k])[i].sym = true := nt hn
            simp only [toldA, hn', Bool.not_true, Bool.and_false, cond_false]
          rw [ht, List.append_nil] at hfi
          exact hnext2 _ _ ⟨by rw [hfi], by rw [hfi]; exact hO2⟩
        · have ht : toldA (atomsA p.acts[k])[i] = [] := by
            simp only [toldA, hv, Bool.false_and, cond_false]
          rw [ht, List.append_nil] at hfi
          exact hnext2 _ _ ⟨by rw [hfi], by rw [hfi]; exact hO2⟩
      · rintro ⟨fl2, _⟩ u2 next2 ⟨rfl, hO2⟩
        refine CIf.f (by simp [atomsA]) (hnext1 _ _ ⟨?_, ?_⟩)
        · rw [hft, ← List.append_assoc, hE, List.take_length]
        · rw [hft, ← List.append_assoc, hE]; rw [List.take_length] at hO2; exact hO2
    · rintro ⟨fl1, _⟩ u1 next1 ⟨rfl, hO1⟩
      refine CIf.f (by simp) ?_
      rw [List.take_length]
      subst hD hF
      rfl

theorem none_const {s : Sym} (h : noneB s = true) : constB s = false := by
  simp only [noneB, Bool.and_eq_true] at h
  have hk : s.k = 0 := by simpa using h.1
  simp [constB, validB, hk]

theorem atom_tells {a : Atom} (h : atomB a = true ∨ emptyB a = true) : [a.sym].filter constB = toldA a := by
  unfold toldA
  rcases h with h | h
  · unfold atomB at h
    cases hv : strEq a.var ⟨#[]⟩ with
    | true =>
      rw [hv] at h
      simp only [cond_true] at h
      have hn : noneB a.sym = false := by
        cases hn : noneB a.sym with
        | false => rfl
        | true => rw [none_const hn] at h; cases h
      simp [h, hn]
    | false =>
      rw [hv] at h
      simp only [cond_false, Bool.and_eq_true] at h
      simp [none_const h.2]
  · simp only [emptyB, Bool.and_eq_true] at h
    simp [none_const h.2, h.2]

theorem test_tells {t : Test} (h : testB t = true) : (tellsT t).filter constB = testedT t := by
  unfold testB at h
  unfold testedT tellsT
  cases h8 : t.rel == 8 with
  | true =>
    rw [h8] at h
    simp only [cond_true, Bool.and_eq_true, List.all_eq_true] at h
    simp only [cond_true]
    rw [List.filter_cons, none_const h.2.1]
    simp only [Bool.false_eq_true, if_false]
    exact List.filter_eq_self.2 h.2.2.2.2
  | false =>
    rw [h8] at h
    simp only [cond_false, Bool.and_eq_true, decide_eq_true_eq] at h
    have hl : t.list = [] := List.eq_nil_of_length_eq_zero h.2.2.1
    simp only [cond_false, hl]
    have := atom_tells (.inl h.2.2.2)
    rw [this]
    unfold toldA
    have ha := h.2.2.2
    unfold atomB at ha
    simp only at ha
    cases hv : strEq t.var ⟨#[]⟩ with
    | false => simp
    | true =>
      rw [hv] at ha
      simp only [cond_true] at ha
      have hn : noneB t.sym = false := by
        cases hn : noneB t.sym with
        | false => rfl
        | true => rw [none_const hn] at ha; cases ha
      simp [hn]

theorem flatMap_filter {α β : Type} {f g : α → List β} {p : β → Bool} {l : List α} (h : ∀ x ∈ l, (f x).filter p = g x) : (l.flatMap f).filter p = l.flatMap g := by
  induction l with
  | nil => rfl
  | cons x l ih =>
    rw [List.flatMap_cons, List.flatMap_cons, List.filter_append, h x (by simp), ih fun y hy => h y (by simp [hy])]

theorem act_tells {a : Actn} (h : actB a = true) : (tellsA a).filter constB = (atomsA a).flatMap toldA := by
  simp only [actB, termB, Bool.and_eq_true] at h
  have e : tellsA a = (atomsA a).flatMap fun x => [x.sym] := rfl
  rw [e]
  refine flatMap_filter fun x hx => atom_tells ?_
  simp only [atomsA, List.mem_cons, List.not_mem_nil, or_false] at hx
  obtain ⟨_, h1, ⟨_, _, h2, h3⟩, _, _, h4⟩ := h
  rcases hx with rfl | rfl | rfl | rfl
  · exact .inl h1
  · exact .inl h2
  · cases ho : a.value.op == 0 with
    | true => rw [ho] at h3; exact .inr h3
    | false => rw [ho] at h3; simp only [cond_false, Bool.and_eq_true] at h3; exact .inl h3.1
  · cases ho : otherB a.pref with
    | true => rw [ho] at h4; exact .inl h4
    | false => rw [ho] at h4; exact .inr h4

theorem firstA_none {l : List Actn} {i : Nat} (h : firstA i l = none) : ∀ a ∈ l, actB a = true := by
  induction l generalizing i with
  | nil => intro a ha; cases ha
  | cons x l ih =>
    simp only [firstA] at h
    cases hx : actB x with
    | false => rw [hx] at h; cases h
    | true =>
      rw [hx] at h
      intro a ha
      rcases List.mem_cons.1 ha with rfl | ha
      · exact hx
      · exact ih h a ha

theorem shapeE_parts {p : Prod} (h : (shapeE p).2 = 0) : firstE (preL p.conds 0 0) = none ∧ firstA 0 p.acts = none := by
  unfold shapeE at h
  cases hw : wordB p.name with
  | false => rw [hw] at h; simp at h
  | true =>
    rw [hw] at h
    simp only [Bool.not_true, cond_false] at h
    cases hb : (decide (sizeL p.conds < 1) || (decide (16 < sizeL p.conds) || (decide (p.acts.length < 1) || decide (16 < p.acts.length)))) with
    | true => rw [hb] at h; simp at h
    | false =>
      rw [hb] at h
      simp only [cond_false] at h
      cases he : firstE (preL p.conds 0 0) with
      | some r => obtain ⟨a, e⟩ := r; rw [shapeT_e he] at h; exact absurd h (firstE_ne he)
      | none =>
        cases hA : firstA 0 p.acts with
        | some i => rw [shapeT_a he hA] at h; simp at h
        | none => exact ⟨rfl, rfl⟩

theorem firstE_all {l : List (Nat × Nat × Cond)} (h : firstE l = none) : ∀ x ∈ l, condE x.2.2 x.2.1 = 0 := by
  induction l with
  | nil => intro a ha; cases ha
  | cons y l ih =>
    obtain ⟨a, d, c⟩ := y
    simp only [firstE] at h
    cases hx : condE c d == 0 with
    | false => rw [hx] at h; cases h
    | true =>
      rw [hx] at h
      intro x hx'
      rcases List.mem_cons.1 hx' with rfl | hx'
      · simpa using hx
      · exact ih h x hx'

theorem condE_tests {c : Cond} {d : Int} (h : condE c d = 0) : (∀ t ∈ c.attr, testB t = true) ∧ ∀ t ∈ c.value, testB t = true := by
  unfold condE at h
  simp only [Bool.cond_eq_ite] at h
  split at h
  · split at h
    · simp at h
    · rename_i _ hc
      simp only [Bool.or_eq_true, decide_eq_true_eq, not_or] at hc
      have a1 : c.attr = [] := List.eq_nil_of_length_eq_zero (by omega)
      have a2 : c.value = [] := List.eq_nil_of_length_eq_zero (by omega)
      rw [a1, a2]; simp
  · split at h
    · split at h
      · simp at h
      · split at h
        · simp at h
        · split at h
          · simp at h
          · rename_i hc3
            simp only [Bool.or_eq_true, Bool.not_eq_true', not_or, Bool.not_eq_false, List.all_eq_true] at hc3
            exact hc3
    · simp at h

theorem consts_same {p : Prod} (h : (checkE p).2.1 = 0) : (tells p).filter constB = refConsts p := by
  obtain ⟨h1, _⟩ := checkE_ok h
  obtain ⟨hE, hA⟩ := shapeE_parts h1
  unfold tells refConsts
  rw [List.filter_append]
  congr 1
  · refine flatMap_filter fun c hc => ?_
    obtain ⟨x, hx, rfl⟩ := List.mem_map.1 hc
    obtain ⟨ha, hv⟩ := condE_tests (firstE_all hE x hx)
    unfold tellsC
    rw [List.filter_append, flatMap_filter fun t ht => test_tells (ha t ht), flatMap_filter fun t ht => test_tells (hv t ht)]
  · exact flatMap_filter fun a ha => act_tells (firstA_none hA a ha)

theorem refConsts_len {p : Prod} (hl : lightL p.conds) (hs : sizeL p.conds ≤ 100) (ha : p.acts.length ≤ 1000) : (refConsts p).length ≤ 3000000 := by
  unfold refConsts
  rw [List.length_append]
  have h1 := flatMap_len (l := eachL p.conds) (f := fun c => c.attr.flatMap testedT ++ c.value.flatMap testedT) (m := 20000) fun c hc => by
    obtain ⟨x, hx, rfl⟩ := List.mem_map.1 hc
    obtain ⟨_, h1, h2, h3, h4, _⟩ := (lightC_eq _).1 (lightL_pre p.conds 0 0 x hl hx)
    have a1 := flatMap_len (f := testedT) (m := 1000) (fun t h => testedT_len (by have := (h3 t h).1; omega))
    have a2 := flatMap_len (f := testedT) (m := 1000) (fun t h => testedT_len (by have := (h4 t h).1; omega))
    simp only [List.length_append]; omega
  have h2 := flatMap_len (l := p.acts) (f := fun a => (atomsA a).flatMap toldA) (m := 4) fun a _ => flatMap_len (l := atomsA a) (f := toldA) (m := 1) fun x _ => toldA_len x
  rw [eachL_len] at h1
  omega

/-- All of a sequence of symbols, as a list. -/
theorem cListS {fn : Fn} {a b : List PV} {L : List Sym} (hL : L.length ≤ 10000000) (hs : SeqO Try.prog (.fn fn a b) (L.map fun s => [.agg s.pv]) (fun _ => True) fun _ => True) : Pure Try.prog 33 [.fn fn a b] (.list 3 .sh (L.map Sym.pv)) := by
  refine PureK.of (G_ponderkeep_List_api_Sym.c fun b3 hb3 => ?_)
  have hO : Ow [fun _ => True, Pt b3 47 [.list 3 .nil []], Tip .nil 0 3] (M0.set b3 (some (.cells 47 [.list 3 .nil []]))) :=
    ⟨M0, _, Mem.sep_M0 _, (Mem.M0_or _).symm, trivial, (Ow.nil (L := []) trivial (.inl rfl)).new 47 [.list 3 .nil []] hb3⟩
  refine RangeP.own hs hO (fun k u => ∃ f, Ow [Pt b3 47 [.list 3 f ((L.take k).map Sym.pv)], Tip f k 3] u) (fun _ _ => False) (fun k => UpC.ex fun f => UpC.own _) (fun _ _ _ _ h => h.elim) (fun μ' h => ⟨.nil, h.drop⟩) ?_ ?_ ?_
  · rintro k hk u R ⟨f, hO⟩ hnone _
    have hk' : k < L.length := by simpa using hk
    rw [List.getElem_map]
    refine ⟨_, _, _, rfl, _, _, hO.rd 0 rfl (by simp), hO.swap.app (by simp; omega) (by simp; omega) (by simp; omega) fun f' u' hO' => ?_⟩
    refine hO'.st 1 rfl (by simp) fun u2 hO2 => hnone _ ⟨f', ?_⟩
    rw [mapTake hk']
    exact Ow.swap hO2
  · rintro u ⟨f, hO⟩
    refine ⟨_, _, hO.rd 0 rfl (by simp), ?_⟩
    rw [List.length_map, List.take_length]; rfl
  · intro c u h; exact h.elim

theorem cSyms (f g : Fl) (l : List Sym) (hl : l.length ≤ 10000000) : Pure Try.prog 32 [.list 3 f (l.map Sym.pv), .list 3 g (l.map Sym.pv)] (pB true) := by
  refine PureK.of (G_ponderkeep_Syms.c (CIf.f (by simp) ?_))
  rw [List.length_map]
  refine LoopI.each (n := l.length) (by omega) (fun _ _ => True) trivial (fun k u next hk _ hnext => ?_) (fun u next _ => CIf.f (by simp) rfl)
  exact CIf.t (by simpa using hk) ⟨by omega, _, atRow hk, _, _, _, rfl, by omega, _, atRow hk, _, _, _, rfl, CIf.f (by rw [show ((l[k].k == l[k].k) && (strEq l[k].t l[k].t && ((l[k].n == l[k].n) && true))) = true from symEq_self l[k]]; rfl) (hnext _ trivial)⟩

theorem cShapeConsts (p : Prod) : Pure Try.prog 10 [.agg p.pv] (pB true) := by
  refine PureK.of (G_ponderlaw06_ShapeConsts.c ?_)
  refine (cHeavy .sh .sh p).call ?_
  rintro _ ⟨q, rfl, hq⟩
  refine ⟨_, rfl, CIf.mk (fun h => cWakes.call ⟨_, rfl, rfl⟩) (fun h => ?_)⟩
  obtain ⟨hl, hs, ha, hn⟩ := hq h
  refine (cCheck .sh .sh p hl (by omega) (by omega)).call ⟨_, _, rfl, CIf.mk (fun h => cWakes.call ⟨_, rfl, rfl⟩) (fun h => ?_)⟩
  have hok : (checkE p).2.1 = 0 := by simpa using h
  have hlen := refConsts_len hl (by omega) (by omega)
  have he := consts_same hok
  refine (cConsts .sh .sh p).q ⟨_, _, _, rfl, ?_⟩
  have hsq := seqConsts p hl (by omega) (by omega)
  unfold itemsS at hsq
  rw [he] at hsq
  refine (cListS (L := refConsts p) (by omega) hsq).q ⟨_, _, rfl, ?_⟩
  refine (cRConsts .sh .sh p hl (by omega) (by omega)).call ⟨_, _, rfl, ?_⟩
  exact (cSyms .sh .sh _ (by omega)).call ⟨_, rfl, CIf.t rfl (cWakes.call ⟨_, rfl, rfl⟩)⟩

end Go.Proofs.Ytfjemjnbemdkgaa
