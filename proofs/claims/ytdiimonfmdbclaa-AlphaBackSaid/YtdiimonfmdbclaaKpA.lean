import Derived.Test.YtdiimonfmdbclaaV
import Derived.Test.YtdiimonfmdbclaaPvW
import Derived.Test.YtdiimonfmdbclaaDomS
/-
  What the statements keep: sizes, what is too heavy, copies.
-/
namespace Go.Proofs.Ytdiimonfmdbclaa
open Go.Eng Go.RowKit
set_option linter.unusedVariables false
set_option linter.unusedSimpArgs false
set_option linter.unnecessarySimpa false

theorem sEq (s : ByteArray) : strEq s s = true := strEq_iff.2 rfl

theorem condRow (c : Cond) : rowM c.pv 0 7 = some [pI c.kind, pB c.goal, pS c.id, .list 6 .sh (c.attr.map Test.pv), .list 6 .sh (c.value.map Test.pv), pB c.acc, .list 7 .sh (c.conds.map Cond.pv)] := by rw [Cond.pv_eq]; rfl

theorem cKSize : ∀ (n : Nat) (fl : Fl) (l : List Cond) (most deep : Nat), sizeL l ≤ n → most ≤ 1000 → deep ≤ 21 → PureK Try.prog 7 [.list 7 fl (l.map Cond.pv), pI (most : Nat), pI (deep : Nat)] fun p => ∃ r : Nat, p = pI (r : Nat) ∧ r ≤ most + 1 ∧ (r ≤ most → sizeL l = r) := by
  intro n
  induction n with
  | zero =>
    intro fl l most deep h hm hd
    have : l = [] := by
      cases l with
      | nil => rfl
      | cons c l => simp [sizeL, sizeC_eq] at h
    subst this
    refine PureK.of (G_ponderkeep_Size.c ?_)
    refine CIf.mk (fun h => ⟨most + 1, ?_, by omega, fun h => by omega⟩) (fun h => ?_)
    · rw [wrap_id (by omega) (by omega)]; rfl
    · refine ⟨fun s _ => s = 0, ?_, ?_⟩
      · exact LoopI.up2 0 (by omega) (fun k x u => x = 0) rfl fun k x u next hk hx hnext => by
          have : k = 0 := by omega
          subst this hx
          exact CIf.f (by simp) rfl
      · rintro s u rfl
        rw [wrap_id (by omega) (by omega), if_neg (by omega)]
        exact ⟨0, rfl, by omega, fun _ => rfl⟩
  | succ n ih =>
    intro fl l most deep h hm hd
    refine PureK.of (G_ponderkeep_Size.c ?_)
    refine CIf.mk (fun h => ⟨most + 1, ?_, by omega, fun h => by omega⟩) (fun hdd => ?_)
    · rw [wrap_id (by omega) (by omega)]; rfl
    · have hdd := of_decide_eq_false hdd
      refine ⟨fun s _ => ∃ m : Nat, s = (m : Int) ∧ m ≤ 2 * most + 2 ∧ (m ≤ most → sizeL l = m), ?_, ?_⟩
      · refine LoopI.up2 (2 * most + 5) (by omega) (fun k x u => ∃ m : Nat, x = (m : Int) ∧ k ≤ m ∧ m ≤ 2 * most + 2 ∧ (m ≤ most → sizeL (l.take k) = m)) ⟨0, rfl, by omega, by omega, fun _ => by simp [sizeL]⟩ ?_
        rintro k _ u next hk ⟨m, rfl, hkm, hmm, hsz⟩ hnext
        refine CIf.mk (fun h1 => CIf.mk (fun h2 => ?_) (fun h2 => ?_)) (fun h1 => ?_)
        · have h1 := of_decide_eq_true h1
          have h2 := of_decide_eq_true h2
          simp only [List.length_map] at h1
          have hk' : k < l.length := by omega
          have hs := hsz (by omega)
          have hmem := sizeL_mem (List.getElem_mem hk')
          refine ⟨by omega, _, atRow hk', .sh, l[k].conds.map Cond.pv, by rw [Cond.pv_eq]; rfl, ?_⟩
          rw [wrap_id (x := (deep : Int) + 1) (by omega) (by omega)]
          refine (ih .sh l[k].conds most (deep + 1) (by omega) hm (by omega)).call ?_
          rintro _ ⟨r, rfl, hr1, hr2⟩
          refine ⟨_, rfl, ?_⟩
          dsimp only
          rw [wrap_id (x := (1 : Int) + _) (by omega) (by omega), wrap_id (x := (m : Int) + _) (by omega) (by omega)]
          refine hnext (by omega) _ _ ⟨m + 1 + r, by omega, by omega, by omega, fun hle => ?_⟩
          rw [sizeL_take hk', hs, hr2 (by omega)]; omega
        · have h2 := of_decide_eq_false h2
          exact ⟨m, rfl, hmm, fun hle => by omega⟩
        · have h1 := of_decide_eq_false h1
          simp only [List.length_map] at h1
          rw [takeAll (by omega)] at hsz
          exact ⟨m, rfl, hmm, hsz⟩
      · rintro _ u ⟨m, rfl, hmm, hsz⟩
        rw [wrap_id (by omega) (by omega)]
        by_cases hlt : (most : Int) + 1 < (m : Int)
        · rw [if_pos hlt]
          exact ⟨most + 1, rfl, by omega, fun h => by omega⟩
        · rw [if_neg hlt]
          exact ⟨m, rfl, by omega, hsz⟩

theorem cHeavyTests (fl : Fl) (l : List Test) (hl : l.length ≤ 1000000) : PureK Try.prog 27 [.list 6 fl (l.map Test.pv)] fun p => ∃ q : Bool, p = pB q ∧ (q = false → ∀ t ∈ l, lightT t) := by
  refine PureK.of (G_ponderkeep_heavyTests.c ?_)
  refine LoopI.each (n := l.length) (by omega) (fun k u => ∀ t ∈ l.take k, lightT t) (by simp) ?_ ?_
  · intro k u next hk hg hnext
    have yes : ∃ q : Bool, wk (pB true) = pB q ∧ (q = false → ∀ t ∈ l, lightT t) := ⟨true, rfl, fun h => by cases h⟩
    refine CIf.t (by simpa using hk) ⟨by omega, _, atRow hk, _, _, rfl, CIf.mk (fun _ => yes) (fun a1 => ⟨by omega, _, atRow hk, _, rfl, CIf.mk (fun _ => yes) (fun a2 => ⟨by omega, _, atRow hk, _, rfl, CIf.mk (fun _ => yes) (fun a3 => hnext _ ?_)⟩)⟩)⟩
    have a1 := of_decide_eq_false a1
    have a2 := of_decide_eq_false a2
    have a3 := of_decide_eq_false a3
    simp only [List.length_map] at a1
    intro t ht
    rw [List.take_add_one, List.getElem?_eq_getElem hk, List.mem_append] at ht
    rcases ht with ht | ht
    · exact hg t ht
    · simp only [Option.toList_some, List.mem_singleton] at ht
      subst ht
      exact ⟨by omega, by omega, by omega⟩
  · intro u next hg
    rw [List.take_length] at hg
    exact CIf.f (by simp) ⟨false, rfl, fun _ => hg⟩

theorem cHeavyConds : ∀ (n : Nat) (fl : Fl) (l : List Cond), sizeL l ≤ n → sizeL l ≤ 1000000 → PureK Try.prog 8 [.list 7 fl (l.map Cond.pv)] fun p => ∃ q : Bool, p = pB q ∧ (q = false → lightL l) := by
  intro n
  induction n with
  | zero =>
    intro fl l h _
    have : l = [] := by
      cases l with
      | nil => rfl
      | cons c l => simp [sizeL, sizeC_eq] at h
    subst this
    refine PureK.of (G_ponderkeep_HeavyConds.c ?_)
    exact LoopI.each (n := 0) (by omega) (fun k u => True) trivial (fun k u next hk => by omega) (fun u next _ => CIf.f (by simp) ⟨false, rfl, fun _ => trivial⟩)
  | succ n ih =>
    intro fl l h h6
    refine PureK.of (G_ponderkeep_HeavyConds.c ?_)
    have hll := sizeL_len l
    refine LoopI.each (n := l.length) (by omega) (fun k u => ∀ c ∈ l.take k, lightC c) (by simp) ?_ ?_
    · intro k u next hk hg hnext
      have hm := sizeL_mem (List.getElem_mem hk)
      have yes : ∃ q : Bool, wk (pB true) = pB q ∧ (q = false → lightL l) := ⟨true, rfl, fun h => by cases h⟩
      refine CIf.t (by simpa using hk) ⟨by omega, _, atRow hk, _, _, _, _, _, _, _, _, _, _, by rw [Cond.pv_eq]; rfl, CIf.mk (fun _ => yes) (fun a1 => CIf.mk (fun _ => yes) (fun a2 => CIf.mk (fun _ => yes) (fun a3 => ?_)))⟩
      have a1 := of_decide_eq_false a1
      have a2 := of_decide_eq_false a2
      have a3 := of_decide_eq_false a3
      simp only [List.length_map] at a2 a3
      refine (cHeavyTests .sh l[k].attr (by omega)).call ?_
      rintro _ ⟨q1, rfl, hq1⟩
      refine ⟨_, rfl, CIf.mk (fun _ => yes) (fun b1 => (cHeavyTests .sh l[k].value (by omega)).call ?_)⟩
      rintro _ ⟨q2, rfl, hq2⟩
      refine ⟨_, rfl, CIf.mk (fun _ => yes) (fun b2 => (ih .sh l[k].conds (by omega) (by omega)).call ?_)⟩
      rintro _ ⟨q3, rfl, hq3⟩
      refine ⟨_, rfl, CIf.mk (fun _ => yes) (fun b3 => hnext _ ?_)⟩
      intro c hc
      rw [List.take_add_one, List.getElem?_eq_getElem hk, List.mem_append] at hc
      rcases hc with hc | hc
      · exact hg c hc
      · simp only [Option.toList_some, List.mem_singleton] at hc
        subst hc
        exact (lightC_eq _).2 ⟨by omega, by omega, by omega, hq1 b1, hq2 b2, hq3 b3⟩
    · intro u next hg
      rw [List.take_length] at hg
      exact CIf.f (by simp) ⟨false, rfl, fun _ => lightL_iff.2 hg⟩

/-- A number out of n, told by any number. -/
def withinV (v : Int) (n : Nat) : Nat := (if Int.tmod v n < 0 then Int.tmod v n + n else Int.tmod v n).toNat
theorem withinV_lt (v : Int) {n : Nat} (h : 1 ≤ n) : withinV v n < n := by
  unfold withinV
  have h1 := Int.tmod_lt_of_pos v (show (0 : Int) < (n : Int) by omega)
  have h2 := Int.lt_tmod_of_pos v (show (0 : Int) < (n : Int) by omega)
  split <;> omega
theorem cWithinV (v : Int) (n : Nat) (h1 : 1 ≤ n) (h2 : n ≤ 1000000) : Pure Try.prog 16 [pI v, pI (n : Nat)] (pI (withinV v n : Nat)) := by
  refine PureK.of (G_ponderkeep_Within.c ?_)
  have hm := Int.tmod_lt_of_pos v (show (0 : Int) < (n : Int) by omega)
  have hlo := Int.lt_tmod_of_pos v (show (0 : Int) < (n : Int) by omega)
  refine CIf.f (by simp; omega) ⟨by omega, CIf.mk (fun h => ?_) (fun h => ?_)⟩
  · have h := of_decide_eq_true h
    rw [wrap_id (by omega) (by omega)]
    simp only [wk, wk1, withinV]
    rw [if_pos h]
    congr 2; omega
  · have h := of_decide_eq_false h
    simp only [wk, wk1, withinV]
    rw [if_neg h]
    congr 2; omega
theorem cWithin (v : Int) (n : Nat) (h1 : 1 ≤ n) (h2 : n ≤ 1000000) : PureK Try.prog 16 [pI v, pI (n : Nat)] fun p => ∃ k : Nat, p = pI (k : Nat) ∧ k < n := by
  refine PureK.of (G_ponderkeep_Within.c ?_)
  have hm := Int.tmod_lt_of_pos v (show (0 : Int) < (n : Int) by omega)
  refine CIf.f (by simp; omega) ⟨by omega, CIf.mk (fun h => ?_) (fun h => ?_)⟩
  · have h := of_decide_eq_true h
    have hlo : -(n : Int) < Int.tmod v n := by
      have := Int.lt_tmod_of_pos v (show (0 : Int) < (n : Int) by omega); omega
    refine ⟨(Int.tmod v n + n).toNat, ?_, by omega⟩
    rw [wrap_id (by omega) (by omega)]
    simp only [wk, wk1]
    congr 2; omega
  · have h := of_decide_eq_false h
    refine ⟨(Int.tmod v n).toNat, ?_, by omega⟩
    simp only [wk, wk1]
    congr 2; omega

theorem cCopySyms (f : Fl) (l : List Sym) (hl : l.length ≤ 1000000) : Pure Try.prog 55 [.list 3 f (l.map Sym.pv)] (.list 3 .sh (l.map Sym.pv)) := by
  refine PureK.of (G_ponderkeep_Copy_api_Sym.c ?_)
  exact appL.go1 (by trivial) (by simp; omega) (by simp; omega) fun f1 μ1 t1 => rfl

theorem cCopyTests (f : Fl) (l : List Test) (hl : l.length ≤ 1000000) (ht : ∀ t ∈ l, t.list.length ≤ 1000000) : Pure Try.prog 30 [.list 6 f (l.map Test.pv)] (.list 6 .sh (l.map Test.pv)) := by
  refine PureK.of (G_ponderkeep_CopyTests.c ?_)
  refine LoopI.each2 (n := l.length) (by omega) (fun i x u => x.2 = (l.take i).map Test.pv ∧ TipIn x.1 i 6 u) ⟨rfl, trivial⟩ ?_ ?_
  · rintro i ⟨f, _⟩ u next hi ⟨rfl, ht'⟩ hnext
    refine CIf.t (by simpa using hi) ⟨by omega, _, atRow hi, _, _, _, _, _, _, _, rfl, by omega, _, atRow hi, _, _, rfl, ?_⟩
    refine (cCopySyms .sh l[i].list (ht _ (List.getElem_mem hi))).call ⟨_, _, rfl, ?_⟩
    have hlen : ((l.take i).map Test.pv).length = i := by rw [List.length_map, List.length_take]; omega
    refine appL.go1 (by rw [hlen]; exact ht') (by rw [hlen]; simp; omega) (by rw [hlen]; simp; omega) fun f1 μ1 t1 => hnext _ _ ⟨?_, ?_⟩
    · rw [mapTake hi]
    · rw [hlen] at t1; exact t1
  · rintro ⟨f, _⟩ u next ⟨rfl, ht'⟩
    refine CIf.f (by simp) ?_
    rw [List.take_length]; rfl

theorem cCopyConds : ∀ (n : Nat) (f : Fl) (l : List Cond), sizeL l ≤ n → sizeL l ≤ 1000000 → lightL l → Pure Try.prog 31 [.list 7 f (l.map Cond.pv)] (.list 7 .sh (l.map Cond.pv)) := by
  intro n
  induction n with
  | zero =>
    intro f l h _ _
    have : l = [] := by
      cases l with
      | nil => rfl
      | cons c l => simp [sizeL, sizeC_eq] at h
    subst this
    refine PureK.of (G_ponderkeep_CopyConds.c ?_)
    exact LoopI.each2 (n := 0) (by omega) (fun _ x _ => x.2 = []) rfl (fun k x u next hk => by omega) (fun x u next hx => CIf.f (by simp) (by rw [hx]; rfl))
  | succ n ih =>
    intro f l h h6 hli
    have hll := sizeL_len l
    refine PureK.of (G_ponderkeep_CopyConds.c ?_)
    refine LoopI.each2 (n := l.length) (by omega) (fun i x u => x.2 = (l.take i).map Cond.pv ∧ TipIn x.1 i 7 u) ⟨rfl, trivial⟩ ?_ ?_
    · rintro i ⟨f, _⟩ u next hi ⟨rfl, ht'⟩ hnext
      have hm := sizeL_mem (List.getElem_mem hi)
      obtain ⟨_, ha, hv, hta, htv, hcs⟩ := (lightC_eq _).1 (lightL_iff.1 hli _ (List.getElem_mem hi))
      refine CIf.t (by simpa using hi) ⟨by omega, _, atRow hi, _, _, _, _, _, _, _, _, _, _, condRow _, ?_⟩
      refine Pure.call (r := .agg l[i].pv) (PureK.of (G_ponderkeep_CopyCond.c ?_)) ?_
      · refine (cCopyTests .sh _ (by omega) (lightTs hta)).call ⟨_, _, rfl, (cCopyTests .sh _ (by omega) (lightTs htv)).call ⟨_, _, rfl, (ih .sh _ (by omega) (by omega) hcs).call ⟨_, _, rfl, ?_⟩⟩⟩
        rw [Cond.pv_eq]; rfl
      · rw [Cond.pv_eq]
        refine ⟨_, _, _, _, _, _, _, _, _, _, rfl, ?_⟩
        have hlen : ((l.take i).map Cond.pv).length = i := by rw [List.length_map, List.length_take]; omega
        refine appL.go1 (by rw [hlen]; exact ht') (by rw [hlen]; simp; omega) (by rw [hlen]; simp; omega) fun f1 μ1 t1 => hnext _ _ ⟨?_, ?_⟩
        · rw [mapTake hi, Cond.pv_eq l[i]]
        · rw [hlen] at t1; exact t1
    · rintro ⟨f, _⟩ u next ⟨rfl, ht'⟩
      refine CIf.f (by simp) ?_
      rw [List.take_length]; rfl


end Go.Proofs.Ytdiimonfmdbclaa
