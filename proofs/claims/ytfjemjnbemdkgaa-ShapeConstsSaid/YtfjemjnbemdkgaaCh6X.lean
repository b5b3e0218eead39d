import Derived.Test.YtfjemjnbemdkgaaCh6V
/-
  The laws of chapter 6: all conditions, one by one.
-/
namespace Go.Proofs.Ytfjemjnbemdkgaa
open Go.Eng Go.RowKit
set_option linter.unusedVariables false
set_option linter.unusedSimpArgs false
set_option linter.unnecessarySimpa false

abbrev tyCond : TypeId := 37

theorem cWithin (v : Int) (n : Nat) (h1 : 1 ≤ n) (h2 : n ≤ 1000000) : PureK Try.prog 20 [pI v, pI (n : Nat)] fun p => ∃ k : Nat, p = pI (k : Nat) ∧ k < n := by
  refine PureK.of (G_ponderkeep_Within.c ?_)
  have hm := Int.tmod_lt_of_pos v (show (0 : Int) < (n : Int) by omega)
  refine CIf.f (by simp; omega) ⟨by omega, CIf.mk (fun h => ?_) (fun h => ?_)⟩
  · have h := of_decide_eq_true h
    have hlo : -(n : Int) < Int.tmod v n := by
      have := Int.lt_tmod_of_pos v (show (0 : Int) < (n : Int) by omega); omega
    refine ⟨(Int.tmod v n + n).toNat, ?_, by omega⟩
    rw [wrap_id (by omega) (by omega)]
    simp only [wk, wk1]
    congr 2; omega
  · have h := of_decide_eq_false h
    refine ⟨(Int.tmod v n).toNat, ?_, by omega⟩
    simp only [wk, wk1]
    congr 2; omega

def eachL (l : List Cond) : List Cond := (preL l 0 0).map fun x => x.2.2

theorem pre_snd (l : List Cond) (a d a' d' : Nat) : (preL l a d).map (fun x => x.2.2) = (preL l a' d').map fun x => x.2.2 := by
  have key : ∀ n (l : List Cond), sizeL l ≤ n → ∀ a d a' d', (preL l a d).map (fun x => x.2.2) = (preL l a' d').map fun x => x.2.2 := by
    intro n
    induction n with
    | zero =>
      intro l h
      cases l with
      | nil => intros; rfl
      | cons c l => simp [sizeL, sizeC_eq] at h
    | succ n ih =>
      intro l
      induction l with
      | nil => intros; rfl
      | cons c l ihl =>
        intro h a d a' d'
        simp only [sizeL, sizeC_eq] at h
        simp only [preL, preC_eq, List.map_append, List.map_cons]
        rw [ih c.conds (by omega) (a + 1) (d + 1) (a' + 1) (d' + 1), ihl (by omega) (a + sizeC c) d (a' + sizeC c) d']
  exact key _ l (Nat.le_refl _) a d a' d'

theorem eachL_nil : eachL [] = [] := rfl
theorem eachL_take {l : List Cond} {i : Nat} (hi : i < l.length) : eachL (l.take (i + 1)) = eachL (l.take i) ++ (l[i] :: eachL l[i].conds) := by
  unfold eachL
  rw [List.take_add_one, List.getElem?_eq_getElem hi, preL_append, List.map_append]
  simp only [Option.toList_some, preL, List.append_nil, preC_eq, List.map_cons]
  rw [pre_snd l[i].conds _ _ 0 0]
theorem eachL_len (l : List Cond) : (eachL l).length = sizeL l := by unfold eachL; rw [List.length_map, preL_len]

theorem cREach : ∀ (n : Nat) (f : Fl) (l : List Cond), sizeL l ≤ n → sizeL l ≤ 1000000 → Pure Try.prog 29 [.list 7 f (l.map Cond.pv)] (.list 7 .sh ((eachL l).map Cond.pv)) := by
  intro n
  induction n with
  | zero =>
    intro f l h _
    have : l = [] := by
      cases l with
      | nil => rfl
      | cons c l => simp [sizeL, sizeC_eq] at h
    subst this
    refine PureK.of (G_ponderref06_Each.c ?_)
    exact LoopI.each2 (n := 0) (by omega) (fun _ x _ => x.2 = []) rfl (fun k x u next hk => by omega) (fun x u next hx => CIf.f (by simp) (by rw [hx]; rfl))
  | succ n ih =>
    intro f l h h6
    have hll := sizeL_len l
    refine PureK.of (G_ponderref06_Each.c ?_)
    refine LoopI.each2 (n := l.length) (by omega) (fun i x u => x.2 = (eachL (l.take i)).map Cond.pv ∧ TipIn x.1 (sizeL (l.take i)) 7 u) ⟨rfl, trivial⟩ ?_ ?_
    · rintro i ⟨f, _⟩ u next hi ⟨rfl, ht⟩ hnext
      have hm := sizeL_mem (List.getElem_mem hi)
      have hs := sizeL_split l (i + 1)
      have hst := sizeL_take hi
      rw [hst] at hs
      have hlen : ((eachL (l.take i)).map Cond.pv).length = sizeL (l.take i) := by rw [List.length_map, eachL_len]
      refine CIf.t (by simpa using hi) ⟨by omega, _, atRow hi, _, _, _, _, _, _, _, _, _, _, condRow _, ?_⟩
      refine appL.go1 (by rw [hlen]; exact ht) (by rw [hlen]; simp; omega) (by rw [hlen]; simp; omega) fun f1 μ1 t1 => ⟨by omega, _, atRow hi, _, _, by rw [Cond.pv_eq]; rfl, ?_⟩
      refine (ih .sh l[i].conds (by omega) (by omega)).call ⟨_, _, rfl, ?_⟩
      refine appL.go1 (by rw [List.length_append]; exact t1) (by rw [List.length_append, hlen, List.length_map, eachL_len]; simp; omega) (by rw [List.length_append, hlen, List.length_map, eachL_len]; simp; omega) fun f2 μ2 t2 => hnext _ _ ⟨?_, ?_⟩
      · rw [eachL_take hi, List.map_append, List.map_cons, Cond.pv_eq l[i], List.append_assoc]; rfl
      · rw [List.length_append, hlen, List.length_map, eachL_len] at t2
        rw [hst]
        simp only [List.length_singleton] at t2
        rw [← Nat.add_assoc]; exact t2
    · rintro ⟨f, _⟩ u next ⟨rfl, ht⟩
      refine CIf.f (by simp) ?_
      rw [List.take_length]; rfl

theorem cSizeP (f : Fl) (l : List Cond) (hs : sizeL l ≤ 1000000) : Pure Try.prog 28 [.list 7 f (l.map Cond.pv)] (pI (sizeL l : Nat)) := by
  refine PureK.of (G_shape_Size.c ?_)
  refine CallP.mono (cWalk (.func 55) [] [] trivial (fun _ _ => True) (fun _ => False) _ f l 0 0 0 _ (Nat.le_refl _) (by omega) (by omega) trivial fun k x μ hx _ => ?_) ?_
  · show CallP _ _ _ _ _
    rw [Cond.pv_eq]
    exact G_shape_Size_1.c (.inl ⟨rfl, trivial⟩)
  · rintro v μ (⟨rfl, _⟩ | ⟨x, _, h⟩)
    · refine ⟨_, _, rfl, ?_⟩
      rw [Nat.zero_add]; rfl
    · exact h.elim

@[reducible] def eachF (l : List Cond) : PV := .fn (.func 80) [] [.fptr [.list 7 .sh (l.map Cond.pv)] 0]
theorem cEach (f : Fl) (l : List Cond) : Pure Try.prog 56 [.list 7 f (l.map Cond.pv)] (eachF l) := PureK.of (G_shape_Each.c rfl)

theorem seqEach (l : List Cond) (hs : sizeL l ≤ 1000000) : SeqP Try.prog (eachF l) ((preL l 0 0).map fun x => [pI (x.1 : Nat), .agg x.2.2.pv]) := by
  refine SeqP.mk fun fy ya yb I S μ hy h0 hstep => ?_
  show CallP _ _ [.fn fy ya yb, .fptr [.list 7 .sh (l.map Cond.pv)] 0] _ _
  refine G_shape_Each_1.c ⟨_, _, rfl, ?_⟩
  refine CallP.mono (cWalk (.func 81) [] [.fptr [.fn fy ya yb] 0] trivial I S _ .sh l 0 0 0 _ (Nat.le_refl _) (by omega) (by omega) h0 fun k x μ hx hI => ?_) ?_
  · have hk : k < (preL l 0 0).length := (List.getElem?_eq_some_iff.1 hx).1
    have hxe : (preL l 0 0)[k] = x := (List.getElem?_eq_some_iff.1 hx).2
    rw [Nat.zero_add] at hI ⊢
    have := hstep k (by simpa using hk) μ hI
    simp only [List.getElem_map, hxe] at this
    show CallP _ _ _ _ _
    rw [Cond.pv_eq] at this ⊢
    refine G_shape_Each_1_1.c ⟨_, _, _, rfl, CallVP.mono this ?_⟩
    rintro v μ' (⟨rfl, h⟩ | ⟨rfl, h⟩)
    · exact ⟨_, rfl, .inl ⟨rfl, h⟩⟩
    · exact ⟨_, rfl, .inr ⟨rfl, h⟩⟩
  · rintro v μ' (⟨rfl, h⟩ | ⟨x, rfl, h⟩)
    · refine ⟨_, _, rfl, .inl ?_⟩
      rw [Nat.zero_add] at h
      rw [List.length_map, preL_len]; exact h
    · exact ⟨_, _, rfl, .inr h⟩

end Go.Proofs.Ytfjemjnbemdkgaa
