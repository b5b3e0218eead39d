import Derived.Test.YtfjemjnbemdkgaaCh6C
/-
  Copies and comparisons.
-/
namespace Go.Proofs.Ytfjemjnbemdkgaa
open Go.Eng Go.RowKit
set_option linter.unusedVariables false
set_option linter.unusedSimpArgs false
set_option linter.unnecessarySimpa false

theorem sEq (s : ByteArray) : strEq s s = true := strEq_iff.2 rfl

theorem cKSyms (f g : Fl) (l : List Sym) (hl : l.length ≤ 1000000) : Pure Try.prog 32 [.list 3 f (l.map Sym.pv), .list 3 g (l.map Sym.pv)] (pB true) := by
  refine PureK.of (G_ponderkeep_Syms.c (CIf.f (by simp) ?_))
  refine LoopI.each (n := l.length) (by omega) (fun _ _ => True) trivial (fun k u next hk _ hnext => ?_) (fun u next _ => CIf.f (by simp) rfl)
  exact CIf.t (by simpa using hk) ⟨by omega, _, atRow hk, _, _, _, rfl, by omega, _, atRow hk, _, _, _, rfl, CIf.f (by simp [sEq]) (hnext _ trivial)⟩

theorem cKTests (f g : Fl) (l : List Test) (hl : l.length ≤ 1000000) (ht : ∀ t ∈ l, t.list.length ≤ 1000000) : Pure Try.prog 82 [.list 6 f (l.map Test.pv), .list 6 g (l.map Test.pv)] (pB true) := by
  refine PureK.of (G_ponderkeep_Tests.c (CIf.f (by simp) ?_))
  refine LoopI.each (n := l.length) (by omega) (fun _ _ => True) trivial (fun k u next hk _ hnext => ?_) (fun u next _ => CIf.f (by simp) rfl)
  refine CIf.t (by simpa using hk) ⟨by omega, _, atRow hk, _, rfl, by omega, _, atRow hk, _, rfl, CIf.f (by simp) ⟨by omega, _, atRow hk, _, rfl, by omega, _, atRow hk, _, rfl, CIf.f (by simp [sEq]) ⟨by omega, _, atRow hk, _, _, _, rfl, by omega, _, atRow hk, _, _, _, rfl, CIf.f (by simp [sEq]) ⟨by omega, _, atRow hk, _, _, rfl, by omega, _, atRow hk, _, _, rfl, ?_⟩⟩⟩⟩
  exact (cKSyms .sh .sh l[k].list (ht _ (List.getElem_mem hk))).call ⟨_, rfl, CIf.f rfl (hnext _ trivial)⟩

theorem cKActs (f g : Fl) (l : List Actn) (hl : l.length ≤ 1000000) : Pure Try.prog 53 [.list 19 f (l.map Actn.pv), .list 19 g (l.map Actn.pv)] (pB true) := by
  refine PureK.of (G_ponderkeep_Acts.c (CIf.f (by simp) ?_))
  refine LoopI.each (n := l.length) (by omega) (fun _ _ => True) trivial (fun k u next hk _ hnext => ?_) (fun u next _ => CIf.f (by simp) rfl)
  exact CIf.t (by simpa using hk) ⟨by omega, _, atRow hk, _, _, _, _, _, _, _, _, _, _, _, _, _, _, _, _, _, _, _, rfl, by omega, _, atRow hk, _, _, _, _, _, _, _, _, _, _, _, _, _, _, _, _, _, _, _, rfl, CIf.f (by simp [sEq]) (hnext _ trivial)⟩

theorem condRow (c : Cond) : rowM c.pv 0 7 = some [pI c.kind, pB c.goal, pS c.id, .list 6 .sh (c.attr.map Test.pv), .list 6 .sh (c.value.map Test.pv), pB c.acc, .list 7 .sh (c.conds.map Cond.pv)] := by rw [Cond.pv_eq]; rfl

theorem cKConds' : ∀ (n : Nat) (f g : Fl) (l : List Cond), sizeL l ≤ n → sizeL l ≤ 1000000 → lightL l → Pure Try.prog 31 [.list 7 f (l.map Cond.pv), .list 7 g (l.map Cond.pv)] (pB true) := by
  intro n
  induction n with
  | zero =>
    intro f g l h _ _
    have : l = [] := by
      cases l with
      | nil => rfl
      | cons c l => simp [sizeL, sizeC_eq] at h
    subst this
    refine PureK.of (G_ponderkeep_Conds.c (CIf.f (by simp) ?_))
    exact LoopI.each (n := 0) (by omega) (fun _ _ => True) trivial (fun k u next hk => by omega) (fun u next _ => CIf.f (by simp) rfl)
  | succ n ih =>
    intro f g l h h6 hli
    have hll := sizeL_len l
    refine PureK.of (G_ponderkeep_Conds.c (CIf.f (by simp) ?_))
    refine LoopI.each (n := l.length) (by omega) (fun _ _ => True) trivial (fun k u next hk _ hnext => ?_) (fun u next _ => CIf.f (by simp) rfl)
    have hm := sizeL_mem (List.getElem_mem hk)
    obtain ⟨_, ha, hv, hta, htv, hcs⟩ := (lightC_eq _).1 (lightL_iff.1 hli _ (List.getElem_mem hk))
    refine CIf.t (by simpa using hk) ⟨by omega, _, atRow hk, _, _, _, _, _, _, _, _, _, _, condRow _, by omega, _, atRow hk, _, _, _, _, _, _, _, _, _, _, condRow _, ?_⟩
    refine Pure.call (r := pB true) (PureK.of (G_ponderkeep_Cond.c (CIf.t (by simp) (CIf.t (by simp) (CIf.t (sEq _) (CIf.t (by simp) ?_)))))) ⟨_, rfl, CIf.f rfl (hnext _ trivial)⟩
    refine (cKTests .sh .sh _ (by omega) (lightTs hta)).call ⟨_, rfl, CIf.t rfl ((cKTests .sh .sh _ (by omega) (lightTs htv)).call ⟨_, rfl, CIf.t rfl ((ih .sh .sh _ (by omega) (by omega) hcs).call ⟨_, rfl, rfl⟩)⟩)⟩

theorem cKProd (f1 f2 g1 g2 : Fl) (p : Prod) (hl : lightL p.conds) (hs : sizeL p.conds ≤ 1000000) (ha : p.acts.length ≤ 1000000) : Pure Try.prog 18 [.agg [pS p.name, .list 7 f1 (p.conds.map Cond.pv), .list 19 f2 (p.acts.map Actn.pv)], .agg [pS p.name, .list 7 g1 (p.conds.map Cond.pv), .list 19 g2 (p.acts.map Actn.pv)]] (pB true) := by
  refine PureK.of (G_ponderkeep_Prod.c (CIf.t (sEq _) ?_))
  exact (cKConds' _ f1 g1 p.conds (Nat.le_refl _) hs hl).call ⟨_, rfl, CIf.t rfl ((cKActs f2 g2 p.acts ha).call ⟨_, rfl, rfl⟩)⟩

/-! ### copies -/
theorem cCopySyms (f : Fl) (l : List Sym) (hl : l.length ≤ 1000000) : Pure Try.prog 97 [.list 3 f (l.map Sym.pv)] (.list 3 .sh (l.map Sym.pv)) := by
  refine PureK.of (G_ponderkeep_Copy_api_Sym.c ?_)
  exact appL.go1 (by trivial) (by simp; omega) (by simp; omega) fun f1 μ1 t1 => rfl

theorem cCopyActs (f : Fl) (l : List Actn) (hl : l.length ≤ 1000000) : Pure Try.prog 49 [.list 19 f (l.map Actn.pv)] (.list 19 .sh (l.map Actn.pv)) := by
  refine PureK.of (G_ponderkeep_Copy_api_Act.c ?_)
  exact appL.go1 (by trivial) (by simp; omega) (by simp; omega) fun f1 μ1 t1 => rfl

theorem cCopyTests (f : Fl) (l : List Test) (hl : l.length ≤ 1000000) (ht : ∀ t ∈ l, t.list.length ≤ 1000000) : Pure Try.prog 89 [.list 6 f (l.map Test.pv)] (.list 6 .sh (l.map Test.pv)) := by
  refine PureK.of (G_ponderkeep_CopyTests.c ?_)
  refine LoopI.each2 (n := l.length) (by omega) (fun i x u => x.2 = (l.take i).map Test.pv ∧ TipIn x.1 i 6 u) ⟨rfl, trivial⟩ ?_ ?_
  · rintro i ⟨f, _⟩ u next hi ⟨rfl, ht'⟩ hnext
    refine CIf.t (by simpa using hi) ⟨by omega, _, atRow hi, _, _, _, _, _, _, _, rfl, by omega, _, atRow hi, _, _, rfl, ?_⟩
    refine (cCopySyms .sh l[i].list (ht _ (List.getElem_mem hi))).call ⟨_, _, rfl, ?_⟩
    have hlen : ((l.take i).map Test.pv).length = i := by rw [List.length_map, List.length_take]; omega
    refine appL.go1 (by rw [hlen]; exact ht') (by rw [hlen]; simp; omega) (by rw [hlen]; simp; omega) fun f1 μ1 t1 => hnext _ _ ⟨?_, ?_⟩
    · rw [mapTake hi]
    · rw [hlen] at t1; exact t1
  · rintro ⟨f, _⟩ u next ⟨rfl, ht'⟩
    refine CIf.f (by simp) ?_
    rw [List.take_length]; rfl

theorem cCopyConds : ∀ (n : Nat) (f : Fl) (l : List Cond), sizeL l ≤ n → sizeL l ≤ 1000000 → lightL l → Pure Try.prog 48 [.list 7 f (l.map Cond.pv)] (.list 7 .sh (l.map Cond.pv)) := by
  intro n
  induction n with
  | zero =>
    intro f l h _ _
    have : l = [] := by
      cases l with
      | nil => rfl
      | cons c l => simp [sizeL, sizeC_eq] at h
    subst this
    refine PureK.of (G_ponderkeep_CopyConds.c ?_)
    exact LoopI.each2 (n := 0) (by omega) (fun _ x _ => x.2 = []) rfl (fun k x u next hk => by omega) (fun x u next hx => CIf.f (by simp) (by rw [hx]; rfl))
  | succ n ih =>
    intro f l h h6 hli
    have hll := sizeL_len l
    refine PureK.of (G_ponderkeep_CopyConds.c ?_)
    refine LoopI.each2 (n := l.length) (by omega) (fun i x u => x.2 = (l.take i).map Cond.pv ∧ TipIn x.1 i 7 u) ⟨rfl, trivial⟩ ?_ ?_
    · rintro i ⟨f, _⟩ u next hi ⟨rfl, ht'⟩ hnext
      have hm := sizeL_mem (List.getElem_mem hi)
      obtain ⟨_, ha, hv, hta, htv, hcs⟩ := (lightC_eq _).1 (lightL_iff.1 hli _ (List.getElem_mem hi))
      refine CIf.t (by simpa using hi) ⟨by omega, _, atRow hi, _, _, _, _, _, _, _, _, _, _, condRow _, ?_⟩
      refine Pure.call (r := .agg l[i].pv) (PureK.of (G_ponderkeep_CopyCond.c ?_)) ?_
      · refine (cCopyTests .sh _ (by omega) (lightTs hta)).call ⟨_, _, rfl, (cCopyTests .sh _ (by omega) (lightTs htv)).call ⟨_, _, rfl, (ih .sh _ (by omega) (by omega) hcs).call ⟨_, _, rfl, ?_⟩⟩⟩
        rw [Cond.pv_eq]; rfl
      · rw [Cond.pv_eq]
        refine ⟨_, _, _, _, _, _, _, _, _, _, rfl, ?_⟩
        have hlen : ((l.take i).map Cond.pv).length = i := by rw [List.length_map, List.length_take]; omega
        refine appL.go1 (by rw [hlen]; exact ht') (by rw [hlen]; simp; omega) (by rw [hlen]; simp; omega) fun f1 μ1 t1 => hnext _ _ ⟨?_, ?_⟩
        · rw [mapTake hi, Cond.pv_eq l[i]]
        · rw [hlen] at t1; exact t1
    · rintro ⟨f, _⟩ u next ⟨rfl, ht'⟩
      refine CIf.f (by simp) ?_
      rw [List.take_length]; rfl

theorem cCopyProd (fc fa : Fl) (p : Prod) (hl : lightL p.conds) (hs : sizeL p.conds ≤ 1000000) (ha : p.acts.length ≤ 1000000) : Pure Try.prog 15 [.agg [pS p.name, .list 7 fc (p.conds.map Cond.pv), .list 19 fa (p.acts.map Actn.pv)]] (.agg p.pv) := by
  refine PureK.of (G_ponderkeep_CopyProd.c ?_)
  exact (cCopyConds _ fc p.conds (Nat.le_refl _) hs hl).q ⟨_, _, rfl, (cCopyActs fa p.acts ha).q ⟨_, _, rfl, rfl⟩⟩

end Go.Proofs.Ytfjemjnbemdkgaa
