import Derived.Test.YtfjemjnbemdkgaaQ09
import Derived.KernelRfl
/-
  Check, Vars: the program's.
-/
namespace Go.Proofs.Ytfjemjnbemdkgaa
open Go.Eng Go.RowKit
set_option linter.unusedVariables false
set_option linter.unusedSimpArgs false
set_option linter.unnecessarySimpa false

@[reducible] def prodPV (fc fa : Fl) (p : Prod) : PV := .agg [pS p.name, .list 7 fc (p.conds.map Cond.pv), .list 19 fa (p.acts.map Actn.pv)]
@[reducible] def checkPV (x : Int × Int × List ByteArray) : PV := .tup [pI x.1, pI x.2.1, .list 1 .sh (rowsS x.2.2)]

theorem cCheckedR {μ : Mem} (fc fa : Fl) (p : Prod) (hl : lightL p.conds) (hs : sizeL p.conds ≤ 1000000) (ha : p.acts.length ≤ 1000000) {R : PV → Mem → Prop} (hR : ∀ μ' q Fr, RowIn μ' q (checkE p).2.2 Fr → Mv μ μ' [] Fr → R (.tup [pI (checkE p).1, pI (checkE p).2.1, q]) μ') : CallP Try.prog 50 [prodPV fc fa p] μ R := by
  refine G_shape_checked.c ?_
  have nilR : (checkE p).2.2 = [] → ∀ μ' a e, Mv μ μ' [] [] → (checkE p).1 = a → (checkE p).2.1 = e → R (.tup [pI a, pI e, .list 1 .nil []]) μ' := fun h0 μ' a e hm h1 h2 => by
    have := hR μ' (.list 1 .nil []) [] (.inl ⟨rfl, h0, rfl⟩) hm
    rw [h1, h2] at this
    exact this
  refine (cShape .sh .sh p hl hs ha).call ⟨_, _, rfl, CIf.mk (fun h1 => ?_) (fun h1 => ?_)⟩
  · have hE : checkE p = ((shapeE p).1, (shapeE p).2, []) := by unfold checkE; rw [h1]; rfl
    exact nilR (by rw [hE]) _ _ _ (Mv.refl _ _) (by rw [hE]) (by rw [hE])
  have h0 : (shapeE p).2 = 0 := by simpa using h1
  obtain ⟨s1, s2, s3, s4, hok⟩ := shapeE_ok h0
  cases hc : p.conds with
  | nil => rw [hc] at s1; simp [sizeL] at s1
  | cons c cs =>
  refine ⟨by omega, c.pv, rfl, _, by rw [Cond.pv_eq]; rfl, CIf.mk (fun h2 => ?_) (fun h2 => ?_)⟩
  · have hE : checkE p = (0, 9, []) := by unfold checkE; rw [h1, hc]; simp only [cond_false, List.head?_cons, Option.map_some, Option.getD_some, h2, cond_true]
    exact nilR (by rw [hE]) _ _ _ (Mv.refl _ _) (by rw [hE]) (by rw [hE])
  have hE : checkE p = match knowL p.conds 0 [] with
      | .error n => ((n : Int), 6, [])
      | .ok K => match firstL K 0 p.acts with
        | some i => (((sizeL p.conds + i : Nat) : Int), 6, [])
        | none => (-1, 0, K) := by
    unfold checkE
    rw [h1]
    simp only [cond_false]
    rw [show (p.conds.head?.map Cond.kind).getD 0 = c.kind by rw [hc]; rfl, h2]
    rfl
  rw [← hc]
  refine cNew .nil fun μ1 b hb i1 i2 => ⟨_, rfl, fun k hk => ?_⟩
  have hkb : k ≠ b := by rintro rfl; exact i1.at_.2 k (by simp) hk
  have hkn : KnIn (μ1.set k (some (.cells tyKnown [pP b 0, .list 1 .nil []]))) k [] [] (k :: ([b] ++ [])) := by
    refine ⟨⟨b, [], _, [b], [], Mem.set_same _ _ _, i1.same fun x hx => Mem.set_ne _ _ ?_, List.Pairwise.nil, fun y => Iff.rfl, Nat.le_refl _, .inl ⟨rfl, rfl, rfl⟩, by simpa using hkb, fun x hx => by simp at hx, rfl⟩, Nat.le_refl _⟩
    rintro rfl
    simp at hx; exact hkb hx
  have hm0 : Mv μ (μ1.set k (some (.cells tyKnown [pP b 0, .list 1 .nil []]))) [] (k :: ([b] ++ [])) := i2.trans (Mv.set (.inr hk))
  refine CallP.post (cKConds _ hkn fc p.conds 0 (Nat.le_refl _) hok (by simp) (by omega) (fun μ2 F2 K e j1 j2 j3 j4 j5 => ?_) (fun μ2 F2 e j1 j5 => ?_))
  · rw [List.nil_append] at j2 j4
    subst j2
    obtain ⟨μ3, hG, hm3, b', L, q, Fs, Fr, m1, _, _, _, _, m6, _, _, hF⟩ := j4.raw
    refine ⟨μ3, hG, _, _, rfl, CIf.f rfl ?_⟩
    rw [Nat.zero_add] at j3
    have j4' : KnIn μ3 k K K F2 := by
      obtain ⟨μ4, _, _, _⟩ := j4.raw
      exact ⟨⟨b', L, q, Fs, Fr, m1, by assumption, by assumption, by assumption, by assumption, .inr m6, by assumption, by assumption, hF⟩, Nat.le_refl _⟩
    have hmv : Mv μ μ3 [] F2 := hm0.trans (j5.trans hm3)
    have hmv0 : Mv μ μ3 [] [] := hmv.sub (by simp)
    refine LoopI.each (n := p.acts.length) (by omega) (fun i u => u = μ3 ∧ firstL K 0 (p.acts.take i) = none) ⟨rfl, rfl⟩ ?_ ?_
    · rintro i u next hi ⟨rfl, hf⟩ hnext
      have hT := firstL_take hi hf
      refine CIf.t (by simpa using hi) ⟨by omega, _, atRow hi, _, _, _, _, _, _, _, _, _, _, _, _, _, _, _, _, _, _, _, rfl, ?_⟩
      have hit : lackA K p.acts[i] = true → R (.tup [pI (IntKind.wrap .i64 (((0 + sizeL p.conds : Nat) : Int) + (i : Int))), pI 6, .list 1 .nil []]) u := fun hl => by
        have hE' : checkE p = (((sizeL p.conds + i : Nat) : Int), 6, []) := by rw [hE, j1]; simp only [firstL_hit hi hf hl, Nat.zero_add]
        refine nilR (by rw [hE']) _ _ _ hmv0 ?_ (by rw [hE'])
        rw [hE', wrap_id (by omega) (by omega)]; simp only; omega
      have miss : lackA K p.acts[i] = false → next (IntKind.wrap .i64 ((i : Int) + 1)) u := fun hl => hnext _ ⟨rfl, by rw [hT, hl]; rfl⟩
      refine cLacks j4' (by omega) p.acts[i].attr ⟨_, rfl, CIf.mk (fun a1 => ?_) (fun a1 => ?_)⟩
      · exact hit (by unfold lackA; rw [a1]; rfl)
      refine CIf.mk (fun a2 => ?_) (fun a2 => miss (by unfold lackA; rw [a1, a2]; rfl))
      refine cLacks j4' (by omega) p.acts[i].value.a ⟨_, rfl, CIf.mk (fun a3 => ?_) (fun a3 => ?_)⟩
      · exact hit (by unfold lackA; rw [a1, a2, a3]; rfl)
      refine cLacks j4' (by omega) p.acts[i].value.b ⟨_, rfl, CIf.mk (fun a4 => ?_) (fun a4 => ?_)⟩
      · exact hit (by unfold lackA; rw [a1, a2, a3, a4]; rfl)
      · exact miss (by unfold lackA; rw [a1, a2, a3, a4]; rfl)
    · rintro u next ⟨rfl, hf⟩
      rw [List.take_length] at hf
      have hE' : checkE p = (-1, 0, K) := by rw [hE, j1]; simp only [hf]
      obtain ⟨a, c', rfl, _⟩ := m6.app (rowsS_each K)
      refine CIf.f (by simp) ⟨_, _, _, rdM_at m1 (by simp), ?_⟩
      have := hR u _ Fr (by rw [hE']; exact .inr m6) (hmv.sub fun x hx => by rw [hF]; simp [hx])
      rw [hE'] at this
      exact this
  · have hE' : checkE p = ((e : Int), 6, []) := by rw [hE, j1]
    exact ⟨μ2, GU.refl _, _, _, rfl, CIf.t rfl (nilR (by rw [hE']) _ _ _ ((hm0.trans j5).sub (by simp)) (by rw [hE']) (by rw [hE']))⟩

theorem cChecked (fc fa : Fl) (p : Prod) (hl : lightL p.conds) (hs : sizeL p.conds ≤ 1000000) (ha : p.acts.length ≤ 1000000) : Pure Try.prog 50 [prodPV fc fa p] (checkPV (checkE p)) := by
  refine CallP.sealq (cCheckedR fc fa p hl hs ha fun μ' q Fr h hm => ⟨checkPV (checkE p), .tup rfl (fun d hd => ?_) (fun i c d hc hd => ?_), rfl⟩)
  · simp only [List.mem_cons, List.not_mem_nil, or_false] at hd
    rcases hd with rfl | rfl | rfl <;> rfl
  · match i with
    | 0 => simp at hc hd; subst hc hd; exact .same _
    | 1 => simp at hc hd; subst hc hd; exact .same _
    | 2 => simp at hc hd; subst hc hd; exact h.view
    | n + 3 => simp at hc

theorem cCheck (fc fa : Fl) (p : Prod) (hl : lightL p.conds) (hs : sizeL p.conds ≤ 1000000) (ha : p.acts.length ≤ 1000000) : Pure Try.prog 16 [prodPV fc fa p] (.tup [pI (checkE p).1, pI (checkE p).2.1]) := by
  refine PureK.of (G_shape_Check.c ?_)
  exact (cChecked .sh .sh p hl hs ha).call ⟨_, _, _, _, rfl, rfl⟩

theorem cVars (fc fa : Fl) (p : Prod) (hl : lightL p.conds) (hs : sizeL p.conds ≤ 1000000) (ha : p.acts.length ≤ 1000000) : Pure Try.prog 22 [prodPV fc fa p] (.list 1 .sh (rowsS (checkE p).2.2)) := by
  refine PureK.of (G_shape_Vars.c ?_)
  exact (cChecked .sh .sh p hl hs ha).call ⟨_, _, _, _, rfl, rfl⟩

theorem cVarsR {μ : Mem} (fc fa : Fl) (p : Prod) (hl : lightL p.conds) (hs : sizeL p.conds ≤ 1000000) (ha : p.acts.length ≤ 1000000) {R : PV → Mem → Prop} (hR : ∀ μ' q Fr, OwnV tyString 1 μ' q (rowsS (checkE p).2.2) Fr → Mv μ μ' [] Fr → R q μ') : CallP Try.prog 22 [prodPV fc fa p] μ R := by
  refine G_shape_Vars_w.c (CallP.conv (cCheckedR .sh .sh p hl hs ha fun μ' q Fr h hm => ?_))
  rcases h with ⟨rfl, h0, rfl⟩ | h
  · refine ⟨.tup [pI (checkE p).1, pI (checkE p).2.1, .raw (.slice none 0 0)], .tup rfl (fun d hd => ?_) (fun i c d hc hd => ?_), _, _, _, _, _, rfl, hR μ' _ [] (.inl ⟨rfl, by rw [h0]; rfl, rfl⟩) hm⟩
    · simp only [List.mem_cons, List.not_mem_nil, or_false] at hd
      rcases hd with rfl | rfl | rfl <;> rfl
    · match i with
      | 0 => simp at hc hd; subst hc hd; exact .same _
      | 1 => simp at hc hd; subst hc hd; exact .same _
      | 2 => simp at hc hd; subst hc hd; exact .nil 1 []
      | n + 3 => simp at hc
  · obtain ⟨a, c, rfl, _⟩ := h.app (rowsS_each _)
    exact ⟨_, .same _, _, _, _, _, _, rfl, hR μ' _ Fr h hm⟩

end Go.Proofs.Ytfjemjnbemdkgaa

/-
  Memory in parts: each part by itself, the rest does not matter.
-/
namespace Go.Eng
open Go.RowKit
set_option linter.unusedVariables false
set_option linter.unusedSimpArgs false
set_option linter.unnecessarySimpa false

abbrev Asn := Mem → Prop

/-- The memory falls into these parts, and something else. -/
def Ow : List Asn → Mem → Prop
  | [], _ => True
  | A :: L, μ => ∃ μ1 μ2, Mem.sep μ1 μ2 ∧ μ = μ1.or μ2 ∧ A μ1 ∧ Ow L μ2

theorem Mem.sep.symm {μ ν : Mem} (h : μ.sep ν) : ν.sep μ := fun b => (h b).symm
theorem Mem.or_comm {μ ν : Mem} (h : μ.sep ν) : μ.or ν = ν.or μ := by
  funext b
  unfold Mem.or
  rcases h b with e | e <;> rw [e] <;> cases hx : μ b <;> cases hy : ν b <;> simp_all
theorem Mem.or_assoc (a b c : Mem) : (a.or b).or c = a.or (b.or c) := by
  funext x
  unfold Mem.or
  cases a x <;> rfl
theorem Mem.sep_or {a b c : Mem} : a.sep (b.or c) ↔ a.sep b ∧ a.sep c := by
  constructor
  · intro h
    refine ⟨fun x => ?_, fun x => ?_⟩
    · rcases h x with e | e
      · exact .inl e
      · right
        cases hb : b x with
        | none => rfl
        | some o => rw [Mem.or_left hb] at e; cases e
    · rcases h x with e | e
      · exact .inl e
      · right
        cases hb : b x with
        | none => rw [Mem.or_right hb] at e; exact e
        | some o => rw [Mem.or_left hb] at e; cases e
  · rintro ⟨h1, h2⟩ x
    rcases h1 x with e | e
    · exact .inl e
    · rcases h2 x with e' | e'
      · exact .inl e'
      · right; rw [Mem.or_right e]; exact e'
theorem Mem.or_sep {a b c : Mem} : (a.or b).sep c ↔ a.sep c ∧ b.sep c := by
  constructor
  · intro h
    have := Mem.sep_or.1 h.symm
    exact ⟨this.1.symm, this.2.symm⟩
  · rintro ⟨h1, h2⟩
    exact (Mem.sep_or.2 ⟨h1.symm, h2.symm⟩).symm

/-- More memory does not matter. -/
theorem Ow.mono : ∀ {L : List Asn} {μ μ' : Mem}, (∀ b o, μ b = some o → μ' b = some o) → Ow L μ → Ow L μ'
  | [], _, _, _, _ => trivial
  | A :: L, μ, μ', h, hO => by
    obtain ⟨μ1, μ2, hs, rfl, hA, hL⟩ := hO
    refine ⟨μ1, fun b => match μ1 b with | some _ => none | none => μ' b, fun b => ?_, ?_, hA, Ow.mono (fun b o hb => ?_) hL⟩
    · cases hb : μ1 b with
      | none => exact .inl rfl
      | some o => exact .inr (by simp [hb])
    · funext b
      cases hb : μ1 b with
      | none => rw [Mem.or_right hb]; simp [hb]
      | some o => rw [Mem.or_left hb]; exact h b o (Mem.or_left hb)
    · have hn : μ1 b = none := (hs b).resolve_right (by rw [hb]; simp)
      simp only [hn]
      exact h b o (by rw [Mem.or_right hn]; exact hb)

theorem Ow.drop {A : Asn} {L : List Asn} {μ : Mem} (h : Ow (A :: L) μ) : Ow L μ := by
  obtain ⟨μ1, μ2, hs, rfl, _, hL⟩ := h
  exact hL.mono fun b o hb => by rw [Mem.or_right ((hs b).resolve_right (by rw [hb]; simp))]; exact hb

theorem Ow.imp {A B : Asn} {L : List Asn} {μ : Mem} (h : Ow (A :: L) μ) (hi : ∀ μ, A μ → B μ) : Ow (B :: L) μ := by
  obtain ⟨μ1, μ2, hs, e, hA, hL⟩ := h
  exact ⟨μ1, μ2, hs, e, hi _ hA, hL⟩

theorem Ow.tail {A : Asn} {L L' : List Asn} {μ : Mem} (h : Ow (A :: L) μ) (hi : ∀ μ, Ow L μ → Ow L' μ) : Ow (A :: L') μ := by
  obtain ⟨μ1, μ2, hs, e, hA, hL⟩ := h
  exact ⟨μ1, μ2, hs, e, hA, hi _ hL⟩

theorem Ow.swap {A B : Asn} {L : List Asn} {μ : Mem} (h : Ow (A :: B :: L) μ) : Ow (B :: A :: L) μ := by
  obtain ⟨μ1, _, hs, rfl, hA, μ2, μ3, hs2, rfl, hB, hL⟩ := h
  obtain ⟨h12, h13⟩ := Mem.sep_or.1 hs
  exact ⟨μ2, μ1.or μ3, Mem.sep_or.2 ⟨h12.symm, hs2⟩, by rw [← Mem.or_assoc, Mem.or_comm h12, Mem.or_assoc], hB, μ1, μ3, h13, rfl, hA, hL⟩

/-- One of the parts, ahead. -/
theorem Ow.at : ∀ {L : List Asn} (i : Nat) {A : Asn} {μ : Mem}, L[i]? = some A → Ow L μ → Ow (A :: L.eraseIdx i) μ
  | [], i, A, μ, h, _ => by simp at h
  | B :: L, 0, A, μ, h, hO => by
    simp only [List.getElem?_cons_zero, Option.some.injEq] at h
    subst h; exact hO
  | B :: L, i + 1, A, μ, h, hO => by
    simp only [List.getElem?_cons_succ] at h
    exact (hO.tail fun μ h' => Ow.at i h h').swap

theorem Ow.back : ∀ {L : List Asn} (i : Nat) {A : Asn} {μ : Mem}, i < L.length → Ow (A :: L.eraseIdx i) μ → Ow (L.set i A) μ
  | [], i, A, μ, h, _ => by simp at h
  | B :: L, 0, A, μ, h, hO => hO
  | B :: L, i + 1, A, μ, h, hO => (Ow.swap hO).tail fun μ h' => Ow.back i (by simpa using h) h'

theorem lt_of_get {α : Type} {L : List α} {i : Nat} {a : α} (h : L[i]? = some a) : i < L.length := (List.getElem?_eq_some_iff.1 h).1

theorem Ow.nest : ∀ {L1 L : List Asn} {μ : Mem}, Ow (Ow L1 :: L) μ → Ow (L1 ++ L) μ
  | [], L, μ, h => h.drop
  | A :: L1, L, μ, h => by
    obtain ⟨_, μ2, hs, rfl, ⟨μa, μb, hs2, rfl, hA, hB⟩, hL⟩ := h
    obtain ⟨h1, h2⟩ := Mem.or_sep.1 hs
    exact ⟨μa, μb.or μ2, Mem.sep_or.2 ⟨hs2, h1⟩, Mem.or_assoc _ _ _, hA, Ow.nest ⟨μb, μ2, h2, rfl, hB, hL⟩⟩

theorem Ow.pack : ∀ {L1 L : List Asn} {μ : Mem}, Ow (L1 ++ L) μ → Ow (Ow L1 :: L) μ
  | [], L, μ, h => ⟨M0, μ, Mem.sep_M0 μ, (Mem.M0_or μ).symm, trivial, h⟩
  | A :: L1, L, μ, h => by
    obtain ⟨μa, _, hs, rfl, hA, h⟩ := h
    obtain ⟨μb, μ2, hs2, rfl, hB, hL⟩ := Ow.pack h
    obtain ⟨h1, h2⟩ := Mem.sep_or.1 hs
    exact ⟨μa.or μb, μ2, Mem.or_sep.2 ⟨h2, hs2⟩, (Mem.or_assoc _ _ _).symm, ⟨μa, μb, h1, rfl, hA, hB⟩, hL⟩

theorem Ow.append_tail {L1 L L' : List Asn} {μ : Mem} (h : Ow (L1 ++ L) μ) (hi : ∀ μ, Ow L μ → Ow L' μ) : Ow (L1 ++ L') μ := (h.pack.tail hi).nest
theorem Ow.append_head {L1 L1' L : List Asn} {μ : Mem} (h : Ow (L1 ++ L) μ) (hi : ∀ μ, Ow L1 μ → Ow L1' μ) : Ow (L1' ++ L) μ := (h.pack.imp hi).nest
theorem Ow.comm {L1 L : List Asn} {μ : Mem} (h : Ow (L1 ++ L) μ) : Ow (L ++ L1) μ := by
  have h1 : Ow (Ow L :: Ow L1 :: []) μ := (h.pack.tail fun μ h' => (Ow.pack (L := []) (by simpa using h'))).swap
  refine h1.nest.append_tail fun μ h' => ?_
  have := h'.nest
  simpa using this

theorem Ow.perm {L L' : List Asn} (hp : L.Perm L') {μ : Mem} : Ow L μ → Ow L' μ := by
  induction hp generalizing μ with
  | nil => exact id
  | cons A _ ih => exact fun h => h.tail fun _ h' => ih h'
  | swap A B l => exact fun h => h.swap
  | trans _ _ h1 h2 => exact fun h => h2 (h1 h)

/-- One out of the middle, and back. -/
theorem Ow.pick {P A B L : List Asn} {x : Asn} {μ : Mem} (h : Ow (P ++ ((A ++ x :: B) ++ L)) μ) : Ow (x :: (P ++ ((A ++ B) ++ L))) μ := by
  refine h.perm ?_
  have e1 : P ++ ((A ++ x :: B) ++ L) = (P ++ A) ++ x :: (B ++ L) := by simp
  have e2 : P ++ ((A ++ B) ++ L) = (P ++ A) ++ (B ++ L) := by simp
  rw [e1, e2]; exact List.perm_middle
theorem Ow.unpick {P A B L : List Asn} {x : Asn} {μ : Mem} (h : Ow (x :: (P ++ ((A ++ B) ++ L))) μ) : Ow (P ++ ((A ++ x :: B) ++ L)) μ := by
  refine h.perm ?_
  have e1 : P ++ ((A ++ x :: B) ++ L) = (P ++ A) ++ x :: (B ++ L) := by simp
  have e2 : P ++ ((A ++ B) ++ L) = (P ++ A) ++ (B ++ L) := by simp
  rw [e1, e2]; exact List.perm_middle.symm
theorem Ow.mid {L1 L : List Asn} {A : Asn} {μ : Mem} (h : Ow (L1 ++ A :: L) μ) : Ow (A :: (L1 ++ L)) μ := h.perm List.perm_middle
theorem Ow.unmid {L1 L : List Asn} {A : Asn} {μ : Mem} (h : Ow (A :: (L1 ++ L)) μ) : Ow (L1 ++ A :: L) μ := h.perm List.perm_middle.symm

theorem Ow.ex {α : Type} {A : α → Asn} {L : List Asn} {μ : Mem} (h : Ow ((fun μ => ∃ x, A x μ) :: L) μ) : ∃ x, Ow (A x :: L) μ := by
  obtain ⟨μ1, μ2, hs, e, ⟨x, hA⟩, hL⟩ := h
  exact ⟨x, μ1, μ2, hs, e, hA, hL⟩
theorem Ow.and {p : Prop} {A : Asn} {L : List Asn} {μ : Mem} (h : Ow ((fun μ => p ∧ A μ) :: L) μ) : p ∧ Ow (A :: L) μ := by
  obtain ⟨μ1, μ2, hs, e, ⟨hp, hA⟩, hL⟩ := h
  exact ⟨hp, μ1, μ2, hs, e, hA, hL⟩
theorem Ow.fact {p : Prop} {A : Asn} {L : List Asn} {μ : Mem} (h : Ow (A :: L) μ) (hp : ∀ μ, A μ → p) : p := by
  obtain ⟨μ1, μ2, hs, e, hA, hL⟩ := h
  exact hp _ hA

/-! ### cells -/
/-- Cells of one's own. -/
def Pt (b : Nat) (T : TypeId) (cs : List PV) : Asn := fun μ => μ b = some (.cells T cs)

theorem Ow.get {L : List Asn} {μ : Mem} (i : Nat) {b : Nat} {T : TypeId} {cs : List PV} (hO : Ow L μ) (hi : L[i]? = some (Pt b T cs)) : μ b = some (.cells T cs) := by
  obtain ⟨μ1, μ2, hs, rfl, hA, _⟩ := Ow.at i hi hO
  exact Mem.or_left hA

theorem Ow.rd {L : List Asn} {μ : Mem} (i : Nat) {b : Nat} {T : TypeId} {cs : List PV} {o n : Nat} (hO : Ow L μ) (hi : L[i]? = some (Pt b T cs)) (hl : o + n ≤ cs.length) : rdM μ b o n = some ((cs.drop o).take n) := rdM_at (hO.get i hi) hl

theorem Ow.put {L : List Asn} {μ : Mem} {b : Nat} {T T' : TypeId} {cs cs' : List PV} (hO : Ow (Pt b T cs :: L) μ) : Ow (Pt b T' cs' :: L) (μ.set b (some (.cells T' cs'))) := by
  obtain ⟨μ1, μ2, hs, rfl, hA, hL⟩ := hO
  have hn : μ2 b = none := (hs b).resolve_left (by rw [hA]; simp)
  refine ⟨μ1.set b (some (.cells T' cs')), μ2, fun x => ?_, ?_, Mem.set_same _ _ _, hL⟩
  · by_cases e : x = b
    · subst e; exact .inr hn
    · rw [Mem.set_ne _ _ e]; exact hs x
  · funext x
    by_cases e : x = b
    · subst e; rw [Mem.set_same, Mem.or_left (Mem.set_same _ _ _)]
    · rw [Mem.set_ne _ _ e]; unfold Mem.or; rw [Mem.set_ne _ _ e]

theorem Ow.st {L : List Asn} {μ : Mem} (i : Nat) {b : Nat} {T : TypeId} {cs : List PV} {o : Nat} {vs : List PV} {K : Mem → Prop} (hO : Ow L μ) (hi : L[i]? = some (Pt b T cs)) (hl : o + vs.length ≤ cs.length) (hk : ∀ μ', Ow (L.set i (Pt b T (wrL cs o vs))) μ' → K μ') : stM b o vs μ K :=
  ⟨T, cs, hO.get i hi, hl, hk _ (Ow.back i (lt_of_get hi) (Ow.at i hi hO).put)⟩

theorem Ow.new {L : List Asn} {μ : Mem} {b : Nat} (T : TypeId) (cs : List PV) (hO : Ow L μ) (hb : μ b = none) : Ow (Pt b T cs :: L) (μ.set b (some (.cells T cs))) := by
  refine ⟨M0.set b (some (.cells T cs)), μ, fun x => ?_, ?_, Mem.set_same _ _ _, hO⟩
  · by_cases e : x = b
    · subst e; exact .inr hb
    · rw [Mem.set_ne _ _ e]; exact .inl rfl
  · funext x
    by_cases e : x = b
    · subst e; rw [Mem.set_same, Mem.or_left (Mem.set_same _ _ _)]
    · rw [Mem.set_ne _ _ e, Mem.or_right (by rw [Mem.set_ne _ _ e]; rfl)]

theorem Ow.ne {L : List Asn} {μ : Mem} {b : Nat} {o : Option Ob} (hO : Ow L μ) (hb : μ b = none) : Ow L (μ.set b o) := hO.mono fun x o' hx => by
  have : x ≠ b := by rintro rfl; rw [hb] at hx; cases hx
  rw [Mem.set_ne _ _ this]; exact hx

/-! ### calls -/
/-- What a call does not look at stays. -/
theorem Ow.call {P : Program} {g : FuncId} {args : List PV} {A : Asn} {B : PV → Asn} {L : List Asn} {μ : Mem} {K : PV → Mem → Prop} (hO : Ow (A :: L) μ) (h : ∀ μ1, A μ1 → CallP P g args μ1 B) (hk : ∀ p μ', Ow (B p :: L) μ' → K p μ') : CallP P g args μ K := by
  obtain ⟨μ1, μ2, hs, rfl, hA, hL⟩ := hO
  refine (CallP.frame (h μ1 hA) hs).mono fun v μ' ⟨μ1', hs', e, hB⟩ => hk v μ' ?_
  subst e
  exact ⟨μ1', μ2, hs', rfl, hB, hL⟩

theorem CallVS.frame {P : Program} {f : PV} {args : List PV} {μ ν : Mem} {K : PV → Mem → Prop} (h : CallVS P f args μ K) (hs : μ.sep ν) : CallVS P f args (μ.or ν) fun v μ' => ∃ μ1, μ1.sep ν ∧ μ' = μ1.or ν ∧ K v μ1 := fun Z u fv vs hg hw hfv ha => by
  have hμ : ∀ b o, μ b = some o → (o.rw = true → u.pub b) ∧ ObOk Z u b o := fun b o e => hg.mem b o (Mem.or_left e)
  have hν : ∀ b o, ν b = some o → μ b = none ∧ (o.rw = true → u.pub b) ∧ ObOk Z u b o := fun b o e => by
    have hn : μ b = none := (hs b).resolve_right (by rw [e]; simp)
    exact ⟨hn, hg.mem b o (by rw [Mem.or_right hn]; exact e)⟩
  have hg1 : Good Z ⟨u.toWorld, fun b => ∃ o, μ b = some o ∧ o.rw = true⟩ μ := ⟨hg.zok, fun b o e => ⟨fun hr => ⟨o, e, hr⟩, (hμ b o e).2⟩⟩
  obtain ⟨F, hF, hcall⟩ := CallV_iff.1 (h Z ⟨u.toWorld, fun b => ∃ o, μ b = some o ∧ o.rw = true⟩ fv vs hg1 (fun b ⟨o, ho, _⟩ => hg1.ltM (by rw [ho]; simp)) hfv ha)
  refine CallV_iff.2 ⟨F, fun b hb => ?_, hcall.mono fun v lo w' hm hlo _ hp => ?_⟩
  · obtain ⟨o, ho, hr⟩ := hF b hb
    exact (hμ b o ho).1 hr
  · obtain ⟨Z', μ1, p, e, g', hr, hK⟩ := hp
    have hnb : ∀ b o, ν b = some o → w'.heap[b]? = u.heap[b]? ∧ Z' b = Z b ∧ μ1 b = none := fun b o hb => by
      obtain ⟨h1, _, h2⟩ := hν b o hb
      have hlt := h2.lt
      refine ⟨hm.keep b hlt fun hf => (by obtain ⟨o', ho', _⟩ := hF b hf; rw [h1] at ho'; cases ho'), ?_, ?_⟩
      · cases hz : Z b with
        | some C => exact e.zs b C hz h1
        | none =>
          cases hz' : Z' b with
          | none => rfl
          | some C =>
            rcases e.zn b (by rw [hz']; simp) with h3 | h3 | h3
            · exact absurd hz h3
            · exact absurd h1 h3
            · have : u.heap.size ≤ b := h3; omega
      · cases hx : μ1 b with
        | none => rfl
        | some o' =>
          rcases e.mn b (by rw [hx]; simp) with h3 | h3
          · exact absurd h1 h3
          · have : u.heap.size ≤ b := h3; omega
    refine ⟨Z', μ1.or ν, p, ⟨e.le, fun b C hb hn => ?_, fun b hb => ?_, fun b hb => ?_, e.lt⟩, ⟨g'.zok, fun b o ho => ?_⟩, hr, μ1, fun b => ?_, rfl, hK⟩
    · refine e.zs b C hb ?_
      cases hx : μ b with
      | none => rfl
      | some o => rw [Mem.or_left hx] at hn; cases hn
    · rcases e.zn b hb with h3 | h3 | h3
      · exact .inl h3
      · refine .inr (.inl ?_)
        cases hx : μ b with
        | none => exact absurd hx h3
        | some o => rw [Mem.or_left hx]; simp
      · exact .inr (.inr h3)
    · rcases Mem.or_ne hb with h3 | h3
      · rcases e.mn b h3 with h4 | h4
        · left
          cases hx : μ b with
          | none => exact absurd hx h4
          | some o => rw [Mem.or_left hx]; simp
        · exact .inr h4
      · cases hx : ν b with
        | none => exact absurd hx h3
        | some o => exact .inl (by rw [Mem.or_right (hν b o hx).1, hx]; simp)
    · cases hx : μ1 b with
      | some o' =>
        rw [Mem.or_left hx] at ho; cases ho
        obtain ⟨p1, p2⟩ := g'.mem b _ hx
        refine ⟨fun hrw => ?_, p2⟩
        rcases p1 hrw with ⟨o2, hy, hr2⟩ | p1
        · exact .inl ((hμ b o2 hy).1 hr2)
        · exact .inr p1
      | none =>
        rw [Mem.or_right hx] at ho
        obtain ⟨h1, h2, h3⟩ := hν b o ho
        obtain ⟨h4, h5, h6⟩ := hnb b o ho
        exact ⟨fun hrw => .inl (h2 hrw), h3.go e.le h5 h4⟩
    · cases hx : ν b with
      | none => exact .inr rfl
      | some o => exact .inl (hnb b o hx).2.2


theorem CallVP.frame {P : Program} {f : PV} {args : List PV} {μ ν : Mem} {K : PV → Mem → Prop} (h : CallVP P f args μ K) (hs : μ.sep ν) : CallVP P f args (μ.or ν) fun v μ' => ∃ μ1, μ1.sep ν ∧ μ' = μ1.or ν ∧ K v μ1 := by
  unfold CallVP at h ⊢
  split at h
  · exact h.frame hs
  · exact CallVS.frame h hs

/-- A function value is called with a part of the memory. -/
theorem Ow.callV {P : Program} {f : PV} {args : List PV} {A : Asn} {B : PV → Asn} {L : List Asn} {μ : Mem} {K : PV → Mem → Prop} (hO : Ow (A :: L) μ) (h : ∀ μ1, A μ1 → CallVP P f args μ1 B) (hk : ∀ p μ', Ow (B p :: L) μ' → K p μ') : CallVP P f args μ K := by
  obtain ⟨μ1, μ2, hs, rfl, hA, hL⟩ := hO
  refine (CallVP.frame (h μ1 hA) hs).mono fun v μ' ⟨μ1', hs', e, hB⟩ => hk v μ' ?_
  subst e
  exact ⟨μ1', μ2, hs', rfl, hB, hL⟩

/-- Something turned in its own place alone. -/
theorem Ow.mv {A : Asn} {L : List Asn} {μ μ' : Mem} {F F' : List Nat} {B : Asn} (hO : ∃ μ1 μ2, Mem.sep μ1 μ2 ∧ μ = μ1.or μ2 ∧ (∀ x ∈ F, μ1 x ≠ none) ∧ Ow L μ2) (hm : Mv μ μ' F F') (hB : ∀ ν, (∀ x ∈ F', ν x = μ' x) → B ν) : Ow (B :: L) μ' := by
  obtain ⟨μ1, μ2, hs, rfl, hF, hL⟩ := hO
  have h2 : ∀ x o, μ2 x = some o → μ' x = some o ∧ x ∉ F' := fun x o hx => by
    have h1 : μ1 x = none := (hs x).resolve_right (by rw [hx]; simp)
    have hm1 : (μ1.or μ2) x = some o := by rw [Mem.or_right h1]; exact hx
    have hn : x ∉ F := fun hf => hF x hf h1
    refine ⟨by rw [hm.keep x (by rw [hm1]; simp) hn]; exact hm1, fun hf => ?_⟩
    rcases hm.grow x hf with h | h
    · exact hn h
    · rw [hm1] at h; cases h
  refine ⟨fun x => match μ2 x with | some _ => none | none => μ' x, μ2, fun x => ?_, ?_, hB _ fun x hx => ?_, hL⟩
  · cases hx : μ2 x with
    | none => exact .inr rfl
    | some o => exact .inl (by simp [hx])
  · funext x
    cases hx : μ2 x with
    | none =>
      unfold Mem.or
      simp only [hx]
      cases μ' x <;> rfl
    | some o =>
      rw [Mem.or_right (by simp [hx]), hx]; exact (h2 x o hx).1
  · cases hx' : μ2 x with
    | none => simp [hx']
    | some o => exact absurd hx (h2 x o hx').2

/-- A function that touches nothing that was there, and what it made. -/
theorem CallP.q {P : Program} {g : FuncId} {args : List PV} {μ : Mem} {K K2 : PV → Mem → Prop} (h : CallP P g args M0 K) (hk : ∀ p μ', μ.sep μ' → K p μ' → K2 p μ') : CallQ P g args μ K2 := fun Z u vs hg hw ha => by
  obtain ⟨hc, hcall⟩ := h Z ⟨u.toWorld, fun _ => False⟩ vs ⟨hg.zok, fun b o e => by cases e⟩ (fun _ h => h.elim) ha
  refine ⟨hc, hcall.mono' fun v lo w' _ _ hp => ?_⟩
  obtain ⟨Z', μ', p, e, g', hr, hK⟩ := hp
  refine ⟨Z', μ', p, e, g', hr, hk p μ' (fun b => ?_) hK⟩
  cases hx : μ b with
  | none => exact .inl rfl
  | some o =>
    right
    cases hy : μ' b with
    | none => rfl
    | some o' =>
      have hlt := hg.ltM (b := b) (by rw [hx]; simp)
      rcases e.mn b (by rw [hy]; simp) with h1 | h1
      · exact absurd rfl h1
      · have : u.heap.size ≤ b := h1
        omega
theorem Ow.side {L M : List Asn} {μ ν : Mem} (h : Ow L μ) (hs : μ.sep ν) (k : Ow M ν) : Ow (M ++ L) (μ.or ν) := Ow.nest ⟨ν, μ, hs.symm, Mem.or_comm hs, k, h⟩

/-! ### lists that grow -/
/-- A list under construction. -/
def Tip (fl : Fl) (n size : Nat) : Asn := TipIn fl n size

theorem Ow.nil {L : List Asn} {μ : Mem} (hO : Ow L μ) {n size : Nat} {fl : Fl} (h : fl = .nil ∨ fl = .nr) : Ow (Tip fl n size :: L) μ :=
  ⟨M0, μ, Mem.sep_M0 μ, (Mem.M0_or μ).symm, by rcases h with rfl | rfl <;> exact trivial, hO⟩

theorem Ow.app {L : List Asn} {μ : Mem} {size bytes : Nat} {fl : Fl} {n : Nat} {rows new : List (List PV)} {K : Fl → Mem → Prop} (hO : Ow (Tip fl n size :: L) μ) (hn : rows.length = n) (hb : (n + new.length) * bytes ≤ 140737488355328) (h62 : n + new.length < 4611686018427387904)
    (hk : ∀ fl' μ', Ow (Tip fl' (n + new.length) size :: L) μ' → K fl' μ') : appL false size bytes fl rows new μ K := by
  subst hn
  obtain ⟨μ1, μ2, hs, rfl, hT, hL⟩ := hO
  have hT' : TipIn fl rows.length size (μ1.or μ2) := by
    cases fl with
    | tip b c => exact Mem.or_left hT
    | sh => exact hT
    | nr => trivial
    | nil => trivial
  refine appL.go hT' hb h62 fun fl' μ' h1 h2 => hk fl' μ' ?_
  have h3 : ∀ x o, μ2 x = some o → μ' x = some o ∧ ¬ fl'.at x := fun x o hx => by
    have hx1 : μ1 x = none := (hs x).resolve_right (by rw [hx]; simp)
    refine h2 x o (by rw [Mem.or_right hx1]; exact hx) fun hat => ?_
    cases fl with
    | tip b c =>
      have : x = b := hat
      subst this
      have : μ1 x = _ := hT
      rw [this] at hx1; cases hx1
    | sh => exact hat
    | nr => exact hat
    | nil => exact hat
  refine ⟨fun x => match μ2 x with | some _ => none | none => μ' x, μ2, fun x => ?_, ?_, ?_, hL⟩
  · cases hx : μ2 x with
    | none => exact .inr rfl
    | some o => exact .inl (by simp [hx])
  · funext x
    cases hx : μ2 x with
    | none =>
      unfold Mem.or
      simp only [hx]
      cases μ' x <;> rfl
    | some o => rw [Mem.or_right (by simp [hx]), hx]; exact (h3 x o hx).1
  · show TipIn _ _ _ _
    cases fl' with
    | tip b c =>
      have hb' : μ' b = _ := h1
      cases hx : μ2 b with
      | none => simp only [TipIn, hx]; exact hb'
      | some o => exact absurd rfl (h3 b o hx).2
    | sh => exact h1
    | nr => trivial
    | nil => trivial

/-! ### slices of one's own -/
/-- A slice, and its own cells. -/
def Vec (e : TypeId) (sz : Nat) (p : PV) (rows : List (List PV)) : Asn := fun μ => ∃ F, OwnV e sz μ p rows F

theorem Vec.nil (e : TypeId) (sz : Nat) {L : List Asn} {μ : Mem} (hO : Ow L μ) : Ow (Vec e sz (.raw (.slice none 0 0)) [] :: L) μ := ⟨M0, μ, Mem.sep_M0 μ, (Mem.M0_or μ).symm, ⟨[], .inl ⟨rfl, rfl, rfl⟩⟩, hO⟩

theorem Vec.split {e : TypeId} {sz : Nat} {p : PV} {rows : List (List PV)} {L : List Asn} {μ : Mem} (hO : Ow (Vec e sz p rows :: L) μ) : ∃ F, OwnV e sz μ p rows F ∧ ∃ μ1 μ2, Mem.sep μ1 μ2 ∧ μ = μ1.or μ2 ∧ (∀ x ∈ F, μ1 x ≠ none) ∧ Ow L μ2 := by
  obtain ⟨μ1, μ2, hs, rfl, ⟨F, h⟩, hL⟩ := hO
  refine ⟨F, h.same fun x hx => ?_, μ1, μ2, hs, rfl, h.at_, hL⟩
  cases hy : μ1 x with
  | none => exact absurd hy (h.at_ x hx)
  | some o => rw [Mem.or_left hy]

theorem Vec.app {e : TypeId} {sz : Nat} {p : PV} {rows : List (List PV)} {L : List Asn} {μ : Mem} (hO : Ow (Vec e sz p rows :: L) μ) (hr : ∀ r ∈ rows, r.length = sz) : ∃ a c, p = .raw (.slice a rows.length c) ∧
    ∀ (r : List PV) (bytes : Nat) (K : Option Addr → Nat → Nat → Mem → Prop), r.length = sz → allCell r = true → (rows.length + 1) * bytes ≤ 140737488355328 → rows.length + 1 < 4611686018427387904 →
      (∀ b' c' μ2, Ow (Vec e sz (.raw (.slice (some ⟨b', 0, none⟩) (rows.length + 1) c')) (rows ++ [r]) :: L) μ2 → K (some ⟨b', 0, none⟩) (rows.length + 1) c' μ2) →
      appR sz bytes e a rows.length c (.list sz .nr [r]) μ K := by
  obtain ⟨F, h, hsp⟩ := Vec.split hO
  obtain ⟨a, c, rfl, happ⟩ := h.app hr
  refine ⟨a, c, rfl, fun r bytes K hl hcl hb h62 hK => happ r bytes K hl hcl hb h62 fun b' c' rest μ2 hb' hrest hc' hm => hK b' c' μ2 ?_⟩
  refine Ow.mv (A := fun _ => True) hsp hm fun ν hν => ⟨[b'], .inr ⟨b', c', rest, by simp, rfl, ?_, by simpa using hrest, by simpa using hc'⟩⟩
  rw [hν b' (by simp)]; exact hb'

/-! ### sequences -/
/-- More memory does not matter to it. -/
def UpC (A : Asn) : Prop := ∀ μ μ' : Mem, (∀ b o, μ b = some o → μ' b = some o) → A μ → A μ'
theorem UpC.own (L : List Asn) : UpC (Ow L) := fun _ _ h hO => hO.mono h
theorem UpC.ex {α : Type} {A : α → Asn} (h : ∀ x, UpC (A x)) : UpC fun μ => ∃ x, A x μ := fun μ μ' hs ⟨x, hx⟩ => ⟨x, h x μ μ' hs hx⟩
theorem UpC.and {p : Prop} {A : Asn} (h : UpC A) : UpC fun μ => p ∧ A μ := fun μ μ' hs ⟨hp, hx⟩ => ⟨hp, h μ μ' hs hx⟩
theorem UpC.one {A : Asn} (h : UpC A) {μ : Mem} (hO : Ow [A] μ) : A μ := by
  obtain ⟨μ1, μ2, hs, rfl, hA, _⟩ := hO
  exact h μ1 _ (fun b o hb => Mem.or_left hb) hA
theorem Ow.one {A : Asn} {μ : Mem} (h : A μ) : Ow [A] μ := ⟨μ, M0, (Mem.sep_M0 μ).symm, (Mem.or_M0 μ).symm, h, trivial⟩
theorem Ow.ones {L : List Asn} {μ : Mem} (h : Ow [Ow L] μ) : Ow L μ := (UpC.own L).one h

/-- A record of the machine's. -/
def Rc (l : Nat) (o : Ob) : Asn := fun μ => μ l = some o

/-- Calling f with a function y calls y with these, one behind the other, till it says no; A is what f asks of the memory, A' what it leaves of it ahead of the first. -/
def SeqO (P : Program) (f : PV) (items : List (List PV)) (A A' : Asn) : Prop :=
  (∃ g a b, f = .fn (.func g) a b) ∧ ∀ (fy : Fn) (ya yb : List PV) (I : Nat → Asn) (S : Asn) (C : Asn) (μ : Mem), fnOk fy True → Ow [A, C] μ → (∀ μ', Ow [A', C] μ' → Ow [I 0] μ') →
    (∀ (k : Nat) (h : k < items.length) (μ : Mem), I k μ → CallVP P (.fn fy ya yb) items[k] μ fun v μ' => (v = pB true ∧ Ow [I (k + 1)] μ') ∨ (v = pB false ∧ Ow [S] μ')) →
    CallVP P f [.fn fy ya yb] μ fun _ μ' => Ow [I items.length] μ' ∨ Ow [S] μ'

theorem SeqO.mk {P : Program} {g : FuncId} {a b : List PV} {items : List (List PV)} {A A' : Asn}
    (h : ∀ (fy : Fn) (ya yb : List PV) (I : Nat → Asn) (S : Asn) (C : Asn) (μ : Mem), fnOk fy True → Ow [A, C] μ → (∀ μ', Ow [A', C] μ' → Ow [I 0] μ') →
      (∀ (k : Nat) (h : k < items.length) (μ : Mem), I k μ → CallVP P (.fn fy ya yb) items[k] μ fun v μ' => (v = pB true ∧ Ow [I (k + 1)] μ') ∨ (v = pB false ∧ Ow [S] μ')) →
      CallP P g (a ++ [.fn fy ya yb] ++ b) μ fun _ μ' => Ow [I items.length] μ' ∨ Ow [S] μ') : SeqO P (.fn (.func g) a b) items A A' :=
  ⟨⟨g, a, b, rfl⟩, fun fy ya yb I S C μ hy h0 h1 hstep => h fy ya yb I S C μ hy h0 h1 hstep⟩

theorem SeqO.ofP {P : Program} {f : PV} {items : List (List PV)} (h : SeqP P f items) : SeqO P f items (fun _ => True) (fun _ => True) := by
  refine ⟨h.1, fun fy ya yb I S C μ hy hO h0 hstep => ?_⟩
  have hl : (items.map flatItem).length = items.length := by simp
  have := h.2 fy ya yb (fun k => Ow [I k]) (Ow [S]) μ hy (fun μ' e => by subst e; exact h0 _ hO) (fun k hk vs μ1 μ2 hI hit => ?_)
  · rw [hl] at this; exact this
  · have hk' : k < items.length := by simpa using hk
    simp only [List.getElem_map, flatItem] at hit
    obtain ⟨rfl, rfl⟩ := hit
    refine Ow.callV hI (fun ν hν => hstep k hk' ν hν) fun p μ' hO => ?_
    obtain ⟨ν1, ν2, hs, rfl, (⟨rfl, h1⟩ | ⟨rfl, h1⟩), _⟩ := hO
    · exact .inl ⟨rfl, h1.mono fun b o hb => Mem.or_left hb⟩
    · exact .inr ⟨rfl, h1.mono fun b o hb => Mem.or_left hb⟩

/-- A part whose posts are one of two. -/
theorem Ow.split2 {p q : Prop} {A B : Asn} {L : List Asn} {μ : Mem} (h : Ow ((fun μ => (p ∧ Ow [A] μ) ∨ (q ∧ Ow [B] μ)) :: L) μ) : (p ∧ Ow (A :: L) μ) ∨ (q ∧ Ow (B :: L) μ) := by
  obtain ⟨μ1, μ2, hs, rfl, (⟨hp, h1⟩ | ⟨hp, h1⟩), hL⟩ := h
  · exact .inl ⟨hp, Ow.nest (L1 := [A]) ⟨μ1, μ2, hs, rfl, h1, hL⟩⟩
  · exact .inr ⟨hp, Ow.nest (L1 := [B]) ⟨μ1, μ2, hs, rfl, h1, hL⟩⟩

theorem RangeP.own {P : Program} {f : PV} {items : List (List PV)} {A A' : Asn} {L : List Asn} {body : List PV → (Option Code → Mem → Prop) → Mem → Prop} {K : Option Code → Mem → Prop} {μ : Mem} (hs : SeqO P f items A A') (hO : Ow (A :: L) μ)
    (I : Nat → Asn) (S : Code → Asn) (hI : ∀ k, UpC (I k)) (hS : ∀ c, UpC (S c)) (h0 : ∀ μ', Ow (A' :: L) μ' → I 0 μ')
    (hstep : ∀ (k : Nat) (h : k < items.length) (μ : Mem) (R : Option Code → Mem → Prop), I k μ → (∀ μ', I (k + 1) μ' → R none μ') → (∀ c μ', S c μ' → R (some c) μ') → body items[k] R μ)
    (hend : ∀ μ, I items.length μ → K none μ) (hstop : ∀ c μ, S c μ → K (some c) μ) : RangeP P f body K μ := by
  obtain ⟨hf, hs⟩ := hs
  refine ⟨hf, fun l rec hl hy => ?_⟩
  have cut : ∀ {ν : Mem} {o : Ob} {M : List Asn}, Ow (Rc l o :: M) ν → ν l = some o ∧ Ow M (ν.set l none) := fun {ν o M} h => by
    obtain ⟨ν1, ν2, hsep, rfl, hR, hM⟩ := h
    refine ⟨Mem.or_left hR, hM.mono fun b o' hb => ?_⟩
    have hb1 : ν1 b = none := (hsep b).resolve_right (by rw [hb]; simp)
    have hne : b ≠ l := by
      rintro rfl
      have : ν1 b = _ := hR
      rw [this] at hb1; cases hb1
    rw [Mem.set_ne _ _ hne, Mem.or_right hb1]; exact hb
  have glue : ∀ {ν : Mem} {o : Ob}, ν l = some o → ν = (ν.set l none).set l (some o) := fun {ν o} h => by
    rw [Mem.set_set, Mem.set_self h]
  have lift : ∀ {ν μ3 : Mem} {o : Ob} {ν1 ν2 : Mem}, μ3 l = none → ν1 = μ3.set l (some o) → Mem.sep ν1 ν2 → ν = ν1.or ν2 → ν l = some o ∧ ∀ b o', μ3 b = some o' → (ν.set l none) b = some o' := fun {ν μ3 o ν1 ν2} h1 h2 hsep e => by
    subst h2 e
    refine ⟨Mem.or_left (Mem.set_same _ _ _), fun b o' hb => ?_⟩
    have hne : b ≠ l := by rintro rfl; rw [h1] at hb; cases hb
    rw [Mem.set_ne _ _ hne]
    exact Mem.or_left (by rw [Mem.set_ne _ _ hne]; exact hb)
  refine (hs (.yield l) [] [] (fun k ν => ∃ μ3, μ3 l = none ∧ ν = μ3.set l (some (rec none)) ∧ I k μ3) (fun ν => ∃ c μ3, μ3 l = none ∧ ν = μ3.set l (some (rec (some c))) ∧ S c μ3) (Ow (Rc l (rec none) :: L)) _ trivial ?_ (fun μ' hO' => Ow.one ?_) ?_).mono ?_
  · have h1 : Ow (Rc l (rec none) :: A :: L) (μ.set l (some (rec none))) := by
      refine ⟨M0.set l (some (rec none)), μ, fun x => ?_, ?_, Mem.set_same _ _ _, hO⟩
      · by_cases e : x = l
        · subst e; exact .inr hl
        · rw [Mem.set_ne _ _ e]; exact .inl rfl
      · funext x
        by_cases e : x = l
        · subst e; rw [Mem.set_same, Mem.or_left (Mem.set_same _ _ _)]
        · rw [Mem.set_ne _ _ e, Mem.or_right (by rw [Mem.set_ne _ _ e]; rfl)]
    refine h1.swap.tail fun ν hν => Ow.one hν
  · have h1 : Ow (A' :: (Rc l (rec none) :: L)) μ' := hO'.tail fun ν hν => hν.ones
    obtain ⟨h2, h3⟩ := cut h1.swap
    exact ⟨_, Mem.set_same _ _ _, glue h2, h0 _ h3⟩
  · rintro k hk _ ⟨μ3, h1, rfl, hIk⟩
    refine (hy items[k] μ3 (fun p μ' => match p with | none => I (k + 1) μ' | some c => S c μ') h1 (hstep k hk μ3 _ hIk (fun μ' h => h) (fun c μ' h => h))).mono ?_
    rintro v μ2 ⟨p, μ4, rfl, h3, rfl, hR⟩
    cases p with
    | none => exact .inl ⟨rfl, Ow.one ⟨μ4, h3, rfl, hR⟩⟩
    | some c => exact .inr ⟨rfl, Ow.one ⟨c, μ4, h3, rfl, hR⟩⟩
  · rintro v ν (h | h)
    · obtain ⟨ν1, ν2, hsep, e, ⟨μ3, h1, h2, h3⟩, _⟩ := h
      obtain ⟨h4, h5⟩ := lift h1 h2 hsep e
      exact ⟨none, ν.set l none, Mem.set_same _ _ _, glue h4, hend _ (hI _ _ _ h5 h3)⟩
    · obtain ⟨ν1, ν2, hsep, e, ⟨c, μ3, h1, h2, h3⟩, _⟩ := h
      obtain ⟨h4, h5⟩ := lift h1 h2 hsep e
      exact ⟨some c, ν.set l none, Mem.set_same _ _ _, glue h4, hstop c _ (hS _ _ _ h5 h3)⟩

end Go.Eng

/-
  What the statements keep: sizes, what is too heavy, copies.
-/
namespace Go.Proofs.Ytfjemjnbemdkgaa
open Go.Eng Go.RowKit
set_option linter.unusedVariables false
set_option linter.unusedSimpArgs false
set_option linter.unnecessarySimpa false

theorem sEq (s : ByteArray) : strEq s s = true := strEq_iff.2 rfl

theorem condRow (c : Cond) : rowM c.pv 0 7 = some [pI c.kind, pB c.goal, pS c.id, .list 6 .sh (c.attr.map Test.pv), .list 6 .sh (c.value.map Test.pv), pB c.acc, .list 7 .sh (c.conds.map Cond.pv)] := by rw [Cond.pv_eq]; rfl

theorem cKSize : ∀ (n : Nat) (fl : Fl) (l : List Cond) (most deep : Nat), sizeL l ≤ n → most ≤ 1000 → deep ≤ 21 → PureK Try.prog 36 [.list 7 fl (l.map Cond.pv), pI (most : Nat), pI (deep : Nat)] fun p => ∃ r : Nat, p = pI (r : Nat) ∧ r ≤ most + 1 ∧ (r ≤ most → sizeL l = r) := by
  intro n
  induction n with
  | zero =>
    intro fl l most deep h hm hd
    have : l = [] := by
      cases l with
      | nil => rfl
      | cons c l => simp [sizeL, sizeC_eq] at h
    subst this
    refine PureK.of (G_ponderkeep_Size.c ?_)
    refine CIf.mk (fun h => ⟨most + 1, ?_, by omega, fun h => by omega⟩) (fun h => ?_)
    · rw [wrap_id (by omega) (by omega)]; rfl
    · refine ⟨fun s _ => s = 0, ?_, ?_⟩
      · exact LoopI.up2 0 (by omega) (fun k x u => x = 0) rfl fun k x u next hk hx hnext => by
          have : k = 0 := by omega
          subst this hx
          exact CIf.f (by simp) rfl
      · rintro s u rfl
        rw [wrap_id (by omega) (by omega), if_neg (by omega)]
        exact ⟨0, rfl, by omega, fun _ => rfl⟩
  | succ n ih =>
    intro fl l most deep h hm hd
    refine PureK.of (G_ponderkeep_Size.c ?_)
    refine CIf.mk (fun h => ⟨most + 1, ?_, by omega, fun h => by omega⟩) (fun hdd => ?_)
    · rw [wrap_id (by omega) (by omega)]; rfl
    · have hdd := of_decide_eq_false hdd
      refine ⟨fun s _ => ∃ m : Nat, s = (m : Int) ∧ m ≤ 2 * most + 2 ∧ (m ≤ most → sizeL l = m), ?_, ?_⟩
      · refine LoopI.up2 (2 * most + 5) (by omega) (fun k x u => ∃ m : Nat, x = (m : Int) ∧ k ≤ m ∧ m ≤ 2 * most + 2 ∧ (m ≤ most → sizeL (l.take k) = m)) ⟨0, rfl, by omega, by omega, fun _ => by simp [sizeL]⟩ ?_
        rintro k _ u next hk ⟨m, rfl, hkm, hmm, hsz⟩ hnext
        refine CIf.mk (fun h1 => CIf.mk (fun h2 => ?_) (fun h2 => ?_)) (fun h1 => ?_)
        · have h1 := of_decide_eq_true h1
          have h2 := of_decide_eq_true h2
          simp only [List.length_map] at h1
          have hk' : k < l.length := by omega
          have hs := hsz (by omega)
          have hmem := sizeL_mem (List.getElem_mem hk')
          refine ⟨by omega, _, atRow hk', .sh, l[k].conds.map Cond.pv, by rw [Cond.pv_eq]; rfl, ?_⟩
          rw [wrap_id (x := (deep : Int) + 1) (by omega) (by omega)]
          refine (ih .sh l[k].conds most (deep + 1) (by omega) hm (by omega)).call ?_
          rintro _ ⟨r, rfl, hr1, hr2⟩
          refine ⟨_, rfl, ?_⟩
          dsimp only
          rw [wrap_id (x := (1 : Int) + _) (by omega) (by omega), wrap_id (x := (m : Int) + _) (by omega) (by omega)]
          refine hnext (by omega) _ _ ⟨m + 1 + r, by omega, by omega, by omega, fun hle => ?_⟩
          rw [sizeL_take hk', hs, hr2 (by omega)]; omega
        · have h2 := of_decide_eq_false h2
          exact ⟨m, rfl, hmm, fun hle => by omega⟩
        · have h1 := of_decide_eq_false h1
          simp only [List.length_map] at h1
          rw [takeAll (by omega)] at hsz
          exact ⟨m, rfl, hmm, hsz⟩
      · rintro _ u ⟨m, rfl, hmm, hsz⟩
        rw [wrap_id (by omega) (by omega)]
        by_cases hlt : (most : Int) + 1 < (m : Int)
        · rw [if_pos hlt]
          exact ⟨most + 1, rfl, by omega, fun h => by omega⟩
        · rw [if_neg hlt]
          exact ⟨m, rfl, by omega, hsz⟩

theorem cHeavyTests (fl : Fl) (l : List Test) (hl : l.length ≤ 1000000) : PureK Try.prog 63 [.list 6 fl (l.map Test.pv)] fun p => ∃ q : Bool, p = pB q ∧ (q = false → ∀ t ∈ l, lightT t) := by
  refine PureK.of (G_ponderkeep_heavyTests.c ?_)
  refine LoopI.each (n := l.length) (by omega) (fun k u => ∀ t ∈ l.take k, lightT t) (by simp) ?_ ?_
  · intro k u next hk hg hnext
    have yes : ∃ q : Bool, wk (pB true) = pB q ∧ (q = false → ∀ t ∈ l, lightT t) := ⟨true, rfl, fun h => by cases h⟩
    refine CIf.t (by simpa using hk) ⟨by omega, _, atRow hk, _, _, rfl, CIf.mk (fun _ => yes) (fun a1 => ⟨by omega, _, atRow hk, _, rfl, CIf.mk (fun _ => yes) (fun a2 => ⟨by omega, _, atRow hk, _, rfl, CIf.mk (fun _ => yes) (fun a3 => hnext _ ?_)⟩)⟩)⟩
    have a1 := of_decide_eq_false a1
    have a2 := of_decide_eq_false a2
    have a3 := of_decide_eq_false a3
    simp only [List.length_map] at a1
    intro t ht
    rw [List.take_add_one, List.getElem?_eq_getElem hk, List.mem_append] at ht
    rcases ht with ht | ht
    · exact hg t ht
    · simp only [Option.toList_some, List.mem_singleton] at ht
      subst ht
      exact ⟨by omega, by omega, by omega⟩
  · intro u next hg
    rw [List.take_length] at hg
    exact CIf.f (by simp) ⟨false, rfl, fun _ => hg⟩

theorem cHeavyConds : ∀ (n : Nat) (fl : Fl) (l : List Cond), sizeL l ≤ n → sizeL l ≤ 1000000 → PureK Try.prog 37 [.list 7 fl (l.map Cond.pv)] fun p => ∃ q : Bool, p = pB q ∧ (q = false → lightL l) := by
  intro n
  induction n with
  | zero =>
    intro fl l h _
    have : l = [] := by
      cases l with
      | nil => rfl
      | cons c l => simp [sizeL, sizeC_eq] at h
    subst this
    refine PureK.of (G_ponderkeep_HeavyConds.c ?_)
    exact LoopI.each (n := 0) (by omega) (fun k u => True) trivial (fun k u next hk => by omega) (fun u next _ => CIf.f (by simp) ⟨false, rfl, fun _ => trivial⟩)
  | succ n ih =>
    intro fl l h h6
    refine PureK.of (G_ponderkeep_HeavyConds.c ?_)
    have hll := sizeL_len l
    refine LoopI.each (n := l.length) (by omega) (fun k u => ∀ c ∈ l.take k, lightC c) (by simp) ?_ ?_
    · intro k u next hk hg hnext
      have hm := sizeL_mem (List.getElem_mem hk)
      have yes : ∃ q : Bool, wk (pB true) = pB q ∧ (q = false → lightL l) := ⟨true, rfl, fun h => by cases h⟩
      refine CIf.t (by simpa using hk) ⟨by omega, _, atRow hk, _, _, _, _, _, _, _, _, _, _, by rw [Cond.pv_eq]; rfl, CIf.mk (fun _ => yes) (fun a1 => CIf.mk (fun _ => yes) (fun a2 => CIf.mk (fun _ => yes) (fun a3 => ?_)))⟩
      have a1 := of_decide_eq_false a1
      have a2 := of_decide_eq_false a2
      have a3 := of_decide_eq_false a3
      simp only [List.length_map] at a2 a3
      refine (cHeavyTests .sh l[k].attr (by omega)).call ?_
      rintro _ ⟨q1, rfl, hq1⟩
      refine ⟨_, rfl, CIf.mk (fun _ => yes) (fun b1 => (cHeavyTests .sh l[k].value (by omega)).call ?_)⟩
      rintro _ ⟨q2, rfl, hq2⟩
      refine ⟨_, rfl, CIf.mk (fun _ => yes) (fun b2 => (ih .sh l[k].conds (by omega) (by omega)).call ?_)⟩
      rintro _ ⟨q3, rfl, hq3⟩
      refine ⟨_, rfl, CIf.mk (fun _ => yes) (fun b3 => hnext _ ?_)⟩
      intro c hc
      rw [List.take_add_one, List.getElem?_eq_getElem hk, List.mem_append] at hc
      rcases hc with hc | hc
      · exact hg c hc
      · simp only [Option.toList_some, List.mem_singleton] at hc
        subst hc
        exact (lightC_eq _).2 ⟨by omega, by omega, by omega, hq1 b1, hq2 b2, hq3 b3⟩
    · intro u next hg
      rw [List.take_length] at hg
      exact CIf.f (by simp) ⟨false, rfl, fun _ => lightL_iff.2 hg⟩

/-- A number out of n, told by any number. -/
def withinV (v : Int) (n : Nat) : Nat := (if Int.tmod v n < 0 then Int.tmod v n + n else Int.tmod v n).toNat
theorem withinV_lt (v : Int) {n : Nat} (h : 1 ≤ n) : withinV v n < n := by
  unfold withinV
  have h1 := Int.tmod_lt_of_pos v (show (0 : Int) < (n : Int) by omega)
  have h2 := Int.lt_tmod_of_pos v (show (0 : Int) < (n : Int) by omega)
  split <;> omega
theorem cWithinV (v : Int) (n : Nat) (h1 : 1 ≤ n) (h2 : n ≤ 1000000) : Pure Try.prog 20 [pI v, pI (n : Nat)] (pI (withinV v n : Nat)) := by
  refine PureK.of (G_ponderkeep_Within.c ?_)
  have hm := Int.tmod_lt_of_pos v (show (0 : Int) < (n : Int) by omega)
  have hlo := Int.lt_tmod_of_pos v (show (0 : Int) < (n : Int) by omega)
  refine CIf.f (by simp; omega) ⟨by omega, CIf.mk (fun h => ?_) (fun h => ?_)⟩
  · have h := of_decide_eq_true h
    rw [wrap_id (by omega) (by omega)]
    simp only [wk, wk1, withinV]
    rw [if_pos h]
    congr 2; omega
  · have h := of_decide_eq_false h
    simp only [wk, wk1, withinV]
    rw [if_neg h]
    congr 2; omega
theorem cWithin (v : Int) (n : Nat) (h1 : 1 ≤ n) (h2 : n ≤ 1000000) : PureK Try.prog 20 [pI v, pI (n : Nat)] fun p => ∃ k : Nat, p = pI (k : Nat) ∧ k < n := by
  refine PureK.of (G_ponderkeep_Within.c ?_)
  have hm := Int.tmod_lt_of_pos v (show (0 : Int) < (n : Int) by omega)
  refine CIf.f (by simp; omega) ⟨by omega, CIf.mk (fun h => ?_) (fun h => ?_)⟩
  · have h := of_decide_eq_true h
    have hlo : -(n : Int) < Int.tmod v n := by
      have := Int.lt_tmod_of_pos v (show (0 : Int) < (n : Int) by omega); omega
    refine ⟨(Int.tmod v n + n).toNat, ?_, by omega⟩
    rw [wrap_id (by omega) (by omega)]
    simp only [wk, wk1]
    congr 2; omega
  · have h := of_decide_eq_false h
    refine ⟨(Int.tmod v n).toNat, ?_, by omega⟩
    simp only [wk, wk1]
    congr 2; omega

theorem cCopySyms (f : Fl) (l : List Sym) (hl : l.length ≤ 1000000) : Pure Try.prog 97 [.list 3 f (l.map Sym.pv)] (.list 3 .sh (l.map Sym.pv)) := by
  refine PureK.of (G_ponderkeep_Copy_api_Sym.c ?_)
  exact appL.go1 (by trivial) (by simp; omega) (by simp; omega) fun f1 μ1 t1 => rfl

theorem cCopyTests (f : Fl) (l : List Test) (hl : l.length ≤ 1000000) (ht : ∀ t ∈ l, t.list.length ≤ 1000000) : Pure Try.prog 89 [.list 6 f (l.map Test.pv)] (.list 6 .sh (l.map Test.pv)) := by
  refine PureK.of (G_ponderkeep_CopyTests.c ?_)
  refine LoopI.each2 (n := l.length) (by omega) (fun i x u => x.2 = (l.take i).map Test.pv ∧ TipIn x.1 i 6 u) ⟨rfl, trivial⟩ ?_ ?_
  · rintro i ⟨f, _⟩ u next hi ⟨rfl, ht'⟩ hnext
    refine CIf.t (by simpa using hi) ⟨by omega, _, atRow hi, _, _, _, _, _, _, _, rfl, by omega, _, atRow hi, _, _, rfl, ?_⟩
    refine (cCopySyms .sh l[i].list (ht _ (List.getElem_mem hi))).call ⟨_, _, rfl, ?_⟩
    have hlen : ((l.take i).map Test.pv).length = i := by rw [List.length_map, List.length_take]; omega
    refine appL.go1 (by rw [hlen]; exact ht') (by rw [hlen]; simp; omega) (by rw [hlen]; simp; omega) fun f1 μ1 t1 => hnext _ _ ⟨?_, ?_⟩
    · rw [mapTake hi]
    · rw [hlen] at t1; exact t1
  · rintro ⟨f, _⟩ u next ⟨rfl, ht'⟩
    refine CIf.f (by simp) ?_
    rw [List.take_length]; rfl

theorem cCopyConds : ∀ (n : Nat) (f : Fl) (l : List Cond), sizeL l ≤ n → sizeL l ≤ 1000000 → lightL l → Pure Try.prog 48 [.list 7 f (l.map Cond.pv)] (.list 7 .sh (l.map Cond.pv)) := by
  intro n
  induction n with
  | zero =>
    intro f l h _ _
    have : l = [] := by
      cases l with
      | nil => rfl
      | cons c l => simp [sizeL, sizeC_eq] at h
    subst this
    refine PureK.of (G_ponderkeep_CopyConds.c ?_)
    exact LoopI.each2 (n := 0) (by omega) (fun _ x _ => x.2 = []) rfl (fun k x u next hk => by omega) (fun x u next hx => CIf.f (by simp) (by rw [hx]; rfl))
  | succ n ih =>
    intro f l h h6 hli
    have hll := sizeL_len l
    refine PureK.of (G_ponderkeep_CopyConds.c ?_)
    refine LoopI.each2 (n := l.length) (by omega) (fun i x u => x.2 = (l.take i).map Cond.pv ∧ TipIn x.1 i 7 u) ⟨rfl, trivial⟩ ?_ ?_
    · rintro i ⟨f, _⟩ u next hi ⟨rfl, ht'⟩ hnext
      have hm := sizeL_mem (List.getElem_mem hi)
      obtain ⟨_, ha, hv, hta, htv, hcs⟩ := (lightC_eq _).1 (lightL_iff.1 hli _ (List.getElem_mem hi))
      refine CIf.t (by simpa using hi) ⟨by omega, _, atRow hi, _, _, _, _, _, _, _, _, _, _, condRow _, ?_⟩
      refine Pure.call (r := .agg l[i].pv) (PureK.of (G_ponderkeep_CopyCond.c ?_)) ?_
      · refine (cCopyTests .sh _ (by omega) (lightTs hta)).call ⟨_, _, rfl, (cCopyTests .sh _ (by omega) (lightTs htv)).call ⟨_, _, rfl, (ih .sh _ (by omega) (by omega) hcs).call ⟨_, _, rfl, ?_⟩⟩⟩
        rw [Cond.pv_eq]; rfl
      · rw [Cond.pv_eq]
        refine ⟨_, _, _, _, _, _, _, _, _, _, rfl, ?_⟩
        have hlen : ((l.take i).map Cond.pv).length = i := by rw [List.length_map, List.length_take]; omega
        refine appL.go1 (by rw [hlen]; exact ht') (by rw [hlen]; simp; omega) (by rw [hlen]; simp; omega) fun f1 μ1 t1 => hnext _ _ ⟨?_, ?_⟩
        · rw [mapTake hi, Cond.pv_eq l[i]]
        · rw [hlen] at t1; exact t1
    · rintro ⟨f, _⟩ u next ⟨rfl, ht'⟩
      refine CIf.f (by simp) ?_
      rw [List.take_length]; rfl


end Go.Proofs.Ytfjemjnbemdkgaa

/-
  What is more than is played.
-/
namespace Go.Proofs.Ytfjemjnbemdkgaa
open Go.Eng Go.RowKit
set_option linter.unusedVariables false
set_option linter.unusedSimpArgs false
set_option linter.unnecessarySimpa false

def lightP (p : Prod) : Prop := lightL p.conds ∧ sizeL p.conds ≤ 40 ∧ p.acts.length ≤ 40 ∧ p.name.size ≤ 100

theorem cHeavy (fc fa : Fl) (p : Prod) : PureK Try.prog 11 [.agg [pS p.name, .list 7 fc (p.conds.map Cond.pv), .list 19 fa (p.acts.map Actn.pv)]] fun r => ∃ q : Bool, r = pB q ∧ (q = false → lightP p) := by
  refine PureK.of (G_ponderkeep_Heavy.c ?_)
  have yes : ∃ q : Bool, wk (pB true) = pB q ∧ (q = false → lightP p) := ⟨true, rfl, fun h => by cases h⟩
  refine (cKSize _ fc p.conds 40 0 (Nat.le_refl _) (by omega) (by omega)).call ?_
  rintro _ ⟨r, rfl, hr1, hr2⟩
  refine ⟨_, rfl, CIf.mk (fun _ => yes) (fun a1 => CIf.mk (fun _ => yes) (fun a2 => CIf.mk (fun _ => yes) (fun a3 => ?_)))⟩
  have a1 := of_decide_eq_false a1
  have a2 := of_decide_eq_false a2
  have a3 := of_decide_eq_false a3
  simp only [List.length_map] at a2
  have hs := hr2 (by omega)
  refine (cHeavyConds _ fc p.conds (Nat.le_refl _) (by omega)).call ?_
  rintro _ ⟨q, rfl, hq⟩
  exact ⟨_, rfl, q, rfl, fun h => ⟨hq h, by omega, by omega, by omega⟩⟩

end Go.Proofs.Ytfjemjnbemdkgaa

/-
  The document's example.
-/
namespace Go.Proofs.Ytfjemjnbemdkgaa
open Go.Eng Go.RowKit
set_option linter.unusedVariables false
set_option linter.unusedSimpArgs false
set_option linter.unnecessarySimpa false

theorem cW (t : ByteArray) : Pure Try.prog 27 [pS t] (.agg [pI 3, pS t, pI 0]) := PureK.of (G_ponderlaw06_W.c rfl)
theorem cN (n : Int) : Pure Try.prog 21 [pI n] (.agg [pI 2, pS ⟨#[]⟩, pI n]) := PureK.of (G_ponderlaw06_N.c rfl)

def oneC (g : Bool) : Cond := .mk 1 g ⟨#[115]⟩ [⟨1, ⟨#[]⟩, ⟨3, ⟨#[120]⟩, 0⟩, []⟩] [⟨1, ⟨#[]⟩, ⟨2, ⟨#[]⟩, 1⟩, []⟩] false []
def oneA : Actn := ⟨⟨#[115]⟩, ⟨⟨#[]⟩, ⟨3, ⟨#[121]⟩, 0⟩⟩, ⟨0, ⟨⟨#[]⟩, ⟨2, ⟨#[]⟩, 2⟩⟩, ⟨⟨#[]⟩, ⟨0, ⟨#[]⟩, 0⟩⟩⟩, 1, ⟨⟨#[]⟩, ⟨0, ⟨#[]⟩, 0⟩⟩⟩
def oneP (g : Bool) : Prod := ⟨⟨#[97]⟩, [oneC g], [oneA]⟩

theorem cOneP {μ : Mem} {R : PV → Mem → Prop} (hk : ∀ μ' b c, μ b = none → μ c = none → b ≠ c → μ' b = some (.cells 37 (oneC true).pv) → μ' c = some (.cells 45 oneA.pv) → (∀ x, x ≠ b → x ≠ c → μ' x = μ x) → R (.agg [pS ⟨#[97]⟩, .raw (.slice (some ⟨b, 0, none⟩) 1 1), .raw (.slice (some ⟨c, 0, none⟩) 1 1)]) μ') : CallP Try.prog 19 [] μ R := by
  refine G_ponderlaw06_One.c ?_
  refine (cW _).call ⟨_, _, _, rfl, (cN _).call ⟨_, _, _, rfl, fun b hb => (cW _).call ⟨_, _, _, rfl, (cN _).call ⟨_, _, _, rfl, fun c hc => ?_⟩⟩⟩⟩
  have hne : b ≠ c := by rintro rfl; rw [Mem.set_same] at hc; cases hc
  have hc0 : μ c = none := by rw [Mem.set_ne _ _ (Ne.symm hne)] at hc; exact hc
  refine hk _ b c hb hc0 hne ?_ ?_ fun x h1 h2 => by rw [Mem.set_ne _ _ h2, Mem.set_ne _ _ h1]
  · rw [Mem.set_ne _ _ hne, Mem.set_same, Cond.pv_eq]; rfl
  · rw [Mem.set_same]; rfl

theorem slOne {μ : Mem} {b sz : Nat} {T : TypeId} {row : List PV} (h : μ b = some (.cells T row)) (hl : row.length = sz) (hc : allCell row = true) : SlM μ (some ⟨b, 0, none⟩) 1 1 sz [row] :=
  ⟨rfl, Nat.le_refl _, .inr fun x h => by cases h; rfl, fun r hr => by simp at hr; rw [hr]; exact hl, by simpa using hc, fun _ => ⟨b, 0, rfl, by simp [rdM, h, ← hl]⟩⟩

theorem cCheckRaw {μ : Mem} {b c : Nat} (g : Bool) (hb : μ b = some (.cells 37 (oneC g).pv)) (hc : μ c = some (.cells 45 oneA.pv)) {R : PV → Mem → Prop} (hk : R (.tup [pI (checkE (oneP g)).1, pI (checkE (oneP g)).2.1]) μ) :
    CallP Try.prog 16 [.agg [pS ⟨#[97]⟩, .raw (.slice (some ⟨b, 0, none⟩) 1 1), .raw (.slice (some ⟨c, 0, none⟩) 1 1)]] μ R := by
  refine CallP.borrow (cCheck .sh .sh (oneP g) ?_ ?_ ?_) rfl (fun i p q hp hq => ?_) (fun p hp => by rw [hp]; rfl) (fun p hp => by rw [hp]; exact hk)
  · refine ⟨(lightC_eq _).2 ⟨by cases g <;> decide, by cases g <;> decide, by cases g <;> decide, ?_, ?_, trivial⟩, trivial⟩
    · intro t ht; simp [oneC, Cond.attr] at ht; subst ht; exact ⟨by decide, by decide, by decide⟩
    · intro t ht; simp [oneC, Cond.value] at ht; subst ht; exact ⟨by decide, by decide, by decide⟩
  · simp [oneP, sizeL, sizeC_eq, oneC, Cond.conds]
  · simp [oneP]
  · cases i with
    | succ i => simp at hp
    | zero =>
      simp only [List.getElem?_cons_zero, Option.some.injEq] at hp hq
      subst hp hq
      refine .agg rfl fun j x y hx hy => ?_
      match j with
      | 0 => simp at hx hy; subst hx hy; exact .inl rfl
      | 1 =>
        simp at hx hy; subst hx hy
        exact .inr ⟨_, _, _, _, _, rfl, rfl, slOne hb (by rw [Cond.pv_eq]; rfl) (by rw [Cond.pv_eq]; rfl)⟩
      | 2 =>
        simp at hx hy; subst hx hy
        exact .inr ⟨_, _, _, _, _, rfl, rfl, slOne hc rfl rfl⟩
      | n + 3 => simp at hx

theorem check1 : (checkE (oneP true)).1 = -1 ∧ (checkE (oneP true)).2.1 = 0 := ⟨by kernel_rfl, by kernel_rfl⟩
theorem check2 : (checkE (oneP false)).1 = 0 ∧ (checkE (oneP false)).2.1 = 6 := ⟨by kernel_rfl, by kernel_rfl⟩

theorem cWakes : Pure Try.prog 12 [] (pB true) := by
  refine PureK.of (G_ponderlaw06_wakes.c ?_)
  refine cOneP fun μ b c hb hc hne h1 h2 h3 => ⟨_, _, _, _, _, _, _, rfl, ?_⟩
  refine cCheckRaw true h1 h2 ⟨_, _, rfl, ?_⟩
  refine ⟨by omega, by omega, _, _, h1, by rw [Cond.pv_eq]; simp, ?_⟩
  have e : wrL (oneC true).pv (0 + Int.toNat 0 * 7 + 1) [pB false] = (oneC false).pv := by rw [Cond.pv_eq, Cond.pv_eq]; rfl
  rw [e]
  refine cCheckRaw false (Mem.set_same _ _ _) (by rw [Mem.set_ne _ _ (Ne.symm hne)]; exact h2) ⟨_, _, rfl, ?_⟩
  rw [check1.1, check1.2, check2.1, check2.2]
  exact CIf.t rfl (CIf.t rfl (CIf.t rfl rfl))

end Go.Proofs.Ytfjemjnbemdkgaa

/-
  Which variables are known: the document's way.
-/
namespace Go.Proofs.Ytfjemjnbemdkgaa
open Go.Eng Go.RowKit
set_option linter.unusedVariables false
set_option linter.unusedSimpArgs false
set_option linter.unnecessarySimpa false

theorem LoopI.eachA {α γ : Type} {body : (α → γ → Prop) → α → γ → Prop} {s0 : α} {u : γ} (n : Nat) (I : Nat → α → γ → Prop) (h0 : I 0 s0 u)
    (hin : ∀ (k : Nat) (s : α) (u : γ) (next : α → γ → Prop), k < n → I k s u → (∀ s' u', I (k + 1) s' u' → next s' u') → body next s u) (hout : ∀ (s : α) (u : γ) (next : α → γ → Prop), I n s u → body next s u) : LoopI body s0 u := by
  refine ⟨fun m s w => ∃ k, k ≤ n ∧ m = n - k ∧ I k s w, ⟨n, 0, by omega, rfl, h0⟩, ?_⟩
  rintro m s w ⟨k, hk, rfl, hI⟩
  by_cases h : k < n
  · exact hin k s w _ h hI fun s' u' h' => ⟨n - (k + 1), by omega, k + 1, by omega, rfl, h'⟩
  · have : k = n := by omega
    subst this
    exact hout s w _ hI

theorem hasB_take {K : List ByteArray} {v : ByteArray} {i : Nat} (hi : i < K.length) (h : hasB (K.take i) v = false) (hn : strEq K[i] v = false) : hasB (K.take (i + 1)) v = false := by
  unfold hasB at *
  rw [List.take_add_one, List.any_append, h, List.getElem?_eq_getElem hi]
  simp [hn]

theorem cRHas (fl : Fl) (K : List ByteArray) (v : ByteArray) (hl : K.length ≤ 1000000) : Pure Try.prog 79 [.list 1 fl (rowsS K), pS v] (pB (hasB K v)) := by
  refine PureK.of (G_ponderref06_has.c ?_)
  refine LoopI.each (n := K.length) (by omega) (fun i u => hasB (K.take i) v = false) rfl ?_ ?_
  · intro i u next hi hI hnext
    refine CIf.t (by simpa using hi) ⟨by omega, _, rowsS_at hi, _, rfl, CIf.mk (fun h => ?_) (fun h => hnext _ (hasB_take hi hI h))⟩
    have : hasB K v = true := hasB_iff.2 (by rw [← strEq_iff.1 h]; exact List.getElem_mem hi)
    rw [this]; rfl
  · intro u next hI
    rw [List.take_length] at hI
    rw [hI]
    exact CIf.f (by simp) rfl

@[reducible] def metPV : Option (List ByteArray) → PV
  | none => .tup [.list 1 .sh [], pB false]
  | some K => .tup [.list 1 .sh (rowsS K), pB true]

theorem rowsS_append (K e : List ByteArray) : rowsS (K ++ e) = rowsS K ++ rowsS e := by simp [rowsS]

theorem metT_ref {K : List ByteArray} {t : Test} (h : okT t) : metT K t = (bif strEq t.var ⟨#[]⟩ then some K else bif hasB K t.var then some K else bif t.rel != 1 then none else some (K ++ [t.var])) := by
  unfold metT newK
  cases hv : strEq t.var ⟨#[]⟩ with
  | true => simp
  | false =>
    have h8 : (t.rel == 8) = false := by
      cases h8 : t.rel == 8 with
      | false => rfl
      | true => rw [h (by simpa using h8)] at hv; cases hv
    rw [h8, show (t.rel != 1) = !(t.rel == 1) from rfl]
    cases hasB K t.var <;> cases t.rel == 1 <;> simp

theorem metL_append' {K : List ByteArray} {a b : List Test} : metL K (a ++ b) = (metL K a).bind fun K1 => metL K1 b := metL_append K a b

theorem tipKeep {fl f1 f2 : Fl} {n sz : Nat} {μ μ' : Mem} (h : TipIn fl n sz μ) (hd : ∀ x ∈ tipL fl, ¬ f1.at x) (hk : ∀ b o, μ b = some o → ¬ f1.at b → μ' b = some o ∧ ¬ f2.at b) : TipIn fl n sz μ' ∧ ∀ x ∈ tipL fl, ¬ f2.at x := by
  cases fl with
  | tip b c =>
    have := hk b _ h (hd b (by simp [tipL]))
    exact ⟨this.1, fun x hx => by simp [tipL] at hx; subst hx; exact this.2⟩
  | sh => exact ⟨h, fun x hx => by simp [tipL] at hx⟩
  | nr => exact ⟨h, fun x hx => by simp [tipL] at hx⟩
  | nil => exact ⟨h, fun x hx => by simp [tipL] at hx⟩

theorem cRMet (fl : Fl) (c : Cond) (K : List ByteArray) (hc : okC c) (hl : K.length ≤ 10000) : Pure Try.prog 78 [.agg c.pv, .list 1 fl (rowsS K)] (metPV (metC K c)) := by
  obtain ⟨_, ha, hv, hta, htv, _⟩ := (okC_eq c).1 hc
  rw [Cond.pv_eq]
  refine PureK.of (G_ponderref06_met.c ?_)
  refine appL.go1 (by trivial) (by simp; omega) (by simp; omega) fun f1 μ1 t1 => ?_
  simp only [List.nil_append, List.length_nil, Nat.zero_add, rowsS_len] at t1 ⊢
  have go : ∀ (K0 : List ByteArray) (f : Fl) (u : Mem), K0.length ≤ 10001 → TipIn f K0.length 1 u → metC K c = (metL K0 c.attr).bind (fun K1 => metL K1 c.value) →
      appL true 6 80 .nil [] (c.attr.map Test.pv) u fun f26 u_4 => appL false 6 80 f26 (c.attr.map Test.pv) (c.value.map Test.pv) u_4 fun f29 u_5 =>
      LoopI (α := (Fl × List (List PV)) × Int) (fun next s_1 u_6 =>
      CIf (decide ((s_1.2 : Int) < ((List.length (c.attr.map Test.pv ++ c.value.map Test.pv) : Nat) : Int)))
      ((0 : Int) ≤ s_1.2 ∧ ∃ (r38 : List PV), (c.attr.map Test.pv ++ c.value.map Test.pv)[Int.toNat s_1.2]? = some r38 ∧
        ∃ (x40 : ByteArray), rowM r38 1 1 = some [(pS x40)] ∧
        CIf (strEq x40 ⟨#[]⟩)
        (next ((s_1.1.1, s_1.1.2), (IntKind.wrap .i64 (s_1.2 + (1)))) u_6)
        ((0 : Int) ≤ s_1.2 ∧ ∃ (r46 : List PV), (c.attr.map Test.pv ++ c.value.map Test.pv)[Int.toNat s_1.2]? = some r46 ∧
          ∃ (x48 : ByteArray), rowM r46 1 1 = some [(pS x48)] ∧
          CallP Try.prog 79 [(.list 1 s_1.1.1 s_1.1.2), (pS x48)] u_6 fun v_1 u_7 =>
          ∃ (x49 : Bool), v_1 = (pB x49) ∧
          CIf x49
          (next ((s_1.1.1, s_1.1.2), (IntKind.wrap .i64 (s_1.2 + (1)))) u_7)
          ((0 : Int) ≤ s_1.2 ∧ ∃ (r53 : List PV), (c.attr.map Test.pv ++ c.value.map Test.pv)[Int.toNat s_1.2]? = some r53 ∧
            ∃ (x55 : Int), rowM r53 0 1 = some [(pI x55)] ∧
            CIf ((x55 : Int) != (1))
            (wk (.tup [(.list 1 .nil []), (pB false)]) = metPV (metC K c))
            ((0 : Int) ≤ s_1.2 ∧ ∃ (r60 : List PV), (c.attr.map Test.pv ++ c.value.map Test.pv)[Int.toNat s_1.2]? = some r60 ∧
              ∃ (x62 : ByteArray), rowM r60 1 1 = some [(pS x62)] ∧
              appL false 1 16 s_1.1.1 s_1.1.2 [[(pS x62)]] u_7 fun f64 u_8 =>
              next ((f64, (s_1.1.2 ++ [[(pS x62)]])), (IntKind.wrap .i64 (s_1.2 + (1)))) u_8))))
      (wk (.tup [(.list 1 s_1.1.1 s_1.1.2), (pB true)]) = metPV (metC K c))) ((f, rowsS K0), (0)) u_5 := by
    intro K0 f u hK0 tf hm
    rw [← metL_append'] at hm
    refine appL.go (by trivial) (by simp; omega) (by simp; omega) (fun f26 u4 t26 k26 => ?_)
    obtain ⟨tf4, d4⟩ := tipKeep (f1 := .nil) tf (fun x _ h => h) k26
    refine appL.go (by simpa using t26) (by simp; omega) (by simp; omega) fun f29 u5 t29 k29 => ?_
    obtain ⟨tf5, d5⟩ := tipKeep tf4 d4 k29
    rw [← List.map_append]
    have hlen : (c.attr ++ c.value).length ≤ 8 := by rw [List.length_append]; omega
    have hok : ∀ t ∈ c.attr ++ c.value, okT t := fun t ht => (List.mem_append.1 ht).elim (hta t) (htv t)
    refine LoopI.each2 (n := (c.attr ++ c.value).length) (by omega) (fun i x u => ∃ Ki, x.2 = rowsS Ki ∧ TipIn x.1 Ki.length 1 u ∧ metL K0 ((c.attr ++ c.value).take i) = some Ki ∧ Ki.length ≤ K0.length + i) ⟨K0, rfl, tf5, by simp [metL], by omega⟩ ?_ ?_
    · rintro i ⟨f, _⟩ u next hi ⟨Ki, rfl, i1, i2, i3⟩ hnext
      have hT := metL_take hi i2
      rw [metT_ref (hok _ (List.getElem_mem hi))] at hT
      refine CIf.t (decide_eq_true (by rw [List.length_map]; omega)) ⟨by omega, _, atRow hi, _, rfl, CIf.mk (fun h1 => hnext _ _ ⟨Ki, rfl, i1, by rw [hT, h1]; rfl, by omega⟩) (fun h1 => ⟨by omega, _, atRow hi, _, rfl, ?_⟩)⟩
      refine (cRHas f Ki _ (by omega)).call ⟨_, rfl, CIf.mk (fun h2 => hnext _ _ ⟨Ki, rfl, i1, by rw [hT, h1, h2]; rfl, by omega⟩) (fun h2 => ⟨by omega, _, atRow hi, _, rfl, CIf.mk (fun h3 => ?_) (fun h3 => ⟨by omega, _, atRow hi, _, rfl, ?_⟩)⟩)⟩
      · rw [h1, h2, h3] at hT
        have hn : metL K0 (c.attr ++ c.value) = none := metL_stop hi i2 (by rw [metT_ref (hok _ (List.getElem_mem hi)), h1, h2, h3]; rfl)
        rw [hm, hn]; rfl
      · rw [h1, h2, h3] at hT
        refine appL.go1 (by rw [rowsS_len]; exact i1) (by simp; omega) (by simp; omega) fun f' u' t' => hnext _ _ ⟨Ki ++ [(c.attr ++ c.value)[i].var], ?_, ?_, hT, by rw [List.length_append, List.length_singleton]; omega⟩
        · rw [rowsS_append]; rfl
        · simpa using t'
    · rintro ⟨f, _⟩ u next ⟨Ki, rfl, i1, i2, i3⟩
      rw [List.take_length] at i2
      refine CIf.f (by rw [List.length_map]; simp) ?_
      rw [hm, i2]; rfl
  refine CJoin.of fun J hJ => (cRHas f1 K c.id (by omega)).call ⟨_, rfl, CIf.mk (fun h1 => CIf.mk (fun h2 => ?_) (fun h2 => ?_)) (fun h1 => ?_)⟩
  · have h1 := nb h1; have h2 := nb h2
    have : metC K c = none := by simp [metC, h1, h2]
    rw [this]; rfl
  · have h1 := nb h1; have h2 := nt h2
    refine appL.go1 (by rw [rowsS_len]; exact t1) (by simp; omega) (by simp; omega) fun f2 μ2 t2 => hJ _ _ ?_
    have := go (K ++ [c.id]) f2 μ2 (by simp; omega) (by simpa using t2) (by
      have hh : hasB (K ++ [c.id]) c.id = true := hasB_iff.2 (by simp)
      simp [metC, h2, newK, h1, hh])
    rw [rowsS_append] at this
    exact this
  · have h1 := nt h1
    refine hJ _ _ (go K f1 _ (by omega) t1 ?_)
    cases hg : c.goal <;> simp [metC, hg, newK, h1]

@[reducible] def knowPV : Except Nat (List ByteArray) → PV
  | .error e => .tup [.list 1 .sh [], pI (e : Nat), pB false]
  | .ok K => .tup [.list 1 .sh (rowsS K), pI (-1), pB true]

theorem metC_len {K K' : List ByteArray} {c : Cond} (hc : okC c) (h : metC K c = some K') : K'.length ≤ K.length + 9 := by
  obtain ⟨_, ha, hv, _, _, _⟩ := (okC_eq c).1 hc
  have hT : ∀ {K K' : List ByteArray} {t : Test}, metT K t = some K' → K'.length ≤ K.length + 1 := by
    intro K K' t h
    unfold metT at h
    have := newK_len K t.var
    cases h1 : (t.rel == 8) || strEq t.var ⟨#[]⟩ <;> rw [h1] at h
    · simp only [cond_false] at h
      cases h2 : t.rel == 1 <;> rw [h2] at h
      · simp only [cond_false] at h
        cases h3 : hasB K t.var <;> rw [h3] at h
        · cases h
        · cases h; omega
      · cases h; rw [List.length_append]; omega
    · cases h; omega
  have hL : ∀ (ts : List Test) {K K' : List ByteArray}, metL K ts = some K' → K'.length ≤ K.length + ts.length := by
    intro ts
    induction ts with
    | nil => intro K K' h; cases h; simp
    | cons t ts ih =>
      intro K K' h
      simp only [metL] at h
      cases h1 : metT K t with
      | none => rw [h1] at h; cases h
      | some K1 =>
        rw [h1] at h
        have := ih h
        have := hT h1
        rw [List.length_cons]; omega
  unfold metC at h
  have hg : (bif c.goal then K ++ newK K c.id else K).length ≤ K.length + 1 := by
    have := newK_len K c.id
    cases c.goal
    · simp
    · rw [cond_true, List.length_append]; omega
  generalize hK0 : (bif c.goal then K ++ newK K c.id else K) = K0 at h hg
  simp only at h
  cases hh : hasB K0 c.id <;> rw [hh] at h
  · cases h
  · simp only [cond_true] at h
    cases h1 : metL K0 c.attr with
    | none => rw [h1] at h; cases h
    | some K1 =>
      rw [h1] at h
      have := hL _ h1
      have := hL _ (show metL K1 c.value = some K' from h)
      omega

theorem knowL_len : ∀ {l : List Cond} {n : Nat} {K K' : List ByteArray}, okL l → knowL l n K = .ok K' → K'.length ≤ K.length + 9 * sizeL l
  | [], n, K, K', _, h => by cases h; simp
  | c :: l, n, K, K', ho, h => by
    simp only [knowL] at h
    cases hc : knowC c n K with
    | error e => rw [hc] at h; cases h
    | ok K1 =>
      rw [hc] at h
      have h1 := knowL_len ho.2 h
      have h2 : K1.length ≤ K.length + 9 := by
        rw [knowC_eq] at hc
        cases h3 : c.kind == 3 <;> rw [h3] at hc
        · simp only [cond_false] at hc
          cases hm : metC K c with
          | none => rw [hm] at hc; cases hc
          | some K2 =>
            rw [hm] at hc
            have := metC_len ho.1 hm
            cases h4 : c.kind == 1 <;> rw [h4] at hc <;> cases hc
            · simp
            · exact this
        · simp only [cond_true] at hc
          cases hk : knowL c.conds (n + 1) K with
          | error e => rw [hk] at hc; cases hc
          | ok K2 => rw [hk] at hc; cases hc; omega
      simp only [sizeL, sizeC_eq]
      omega

theorem cKnows : ∀ (n : Nat) (fl fk : Fl) (l : List Cond) (at_ : Nat) (K : List ByteArray), sizeL l ≤ n → okL l → K.length ≤ 9 * at_ → at_ + sizeL l ≤ 1000 → Pure Try.prog 51 [.list 7 fl (l.map Cond.pv), pI (at_ : Nat), .list 1 fk (rowsS K)] (knowPV (knowL l at_ K)) := by
  intro n
  induction n with
  | zero =>
    intro fl fk l at_ K h _ _ _
    have : l = [] := by
      cases l with
      | nil => rfl
      | cons c l => simp [sizeL, sizeC_eq] at h
    subst this
    refine PureK.of (G_ponderref06_knows.c ?_)
    exact LoopI.eachA 0 (fun k s u => s = ((at_ : Int), (fk, rowsS K), (0 : Int))) rfl (fun k s u next hk => by omega) (fun s u next hs => by subst hs; exact CIf.f (by simp) rfl)
  | succ n ih =>
    intro fl fk l at_ K h hokl hK hsz
    have hll := sizeL_len l
    refine PureK.of (G_ponderref06_knows.c ?_)
    refine LoopI.eachA l.length (fun i s u => ∃ f Ki, s = (((at_ + sizeL (l.take i) : Nat) : Int), (f, rowsS Ki), (i : Int)) ∧ knowL (l.take i) at_ K = .ok Ki ∧ Ki.length ≤ 9 * (at_ + sizeL (l.take i))) ⟨fk, K, by simp [sizeL], by simp [knowL], by simp [sizeL]; omega⟩ ?_ ?_
    · rintro i _ u next hi ⟨f, Ki, rfl, i1, i2⟩ hnext
      have hm := sizeL_mem (List.getElem_mem hi)
      have hs := sizeL_split l (i + 1)
      have hst := sizeL_take hi
      rw [hst] at hs
      have hokc := okL_iff.1 hokl l[i] (List.getElem_mem hi)
      obtain ⟨hkind, _, _, _, _, hokcs⟩ := (okC_eq _).1 hokc
      have hT := knowL_take hi i1
      have hC := knowC_eq l[i] (at_ + sizeL (l.take i)) Ki
      have hk0 : rowM l[i].pv 0 1 = some [pI l[i].kind] := by rw [Cond.pv_eq]; rfl
      have hk6 : rowM l[i].pv 6 1 = some [.list 7 .sh (l[i].conds.map Cond.pv)] := by rw [Cond.pv_eq]; rfl
      have hrow : rowM l[i].pv 0 7 = some [pI l[i].kind, pB l[i].goal, pS l[i].id, .list 6 .sh (l[i].attr.map Test.pv), .list 6 .sh (l[i].value.map Test.pv), pB l[i].acc, .list 7 .sh (l[i].conds.map Cond.pv)] := by rw [Cond.pv_eq]; rfl
      refine CIf.t (by simpa using hi) ?_
      have hat1 : IntKind.wrap .i64 (((at_ + sizeL (l.take i) : Nat) : Int) + 1) = ((at_ + sizeL (l.take i) + 1 : Nat) : Int) := by rw [wrap_id (by omega) (by omega)]; omega
      have go : ∀ (f : Fl) (K' : List ByteArray) (u' : Mem), knowC l[i] (at_ + sizeL (l.take i)) Ki = .ok K' → K'.length ≤ 9 * (at_ + sizeL (l.take (i + 1))) →
          ((0 : Int) ≤ (i : Int) ∧ ∃ (r65 : List PV), (l.map Cond.pv)[Int.toNat (i : Int)]? = some r65 ∧ ∃ (x67f : Fl) (x67 : List (List PV)), rowM r65 6 1 = some [(.list 7 x67f x67)] ∧
            CallP Try.prog 45 [(.list 7 x67f x67)] u' fun v_2 u_4 => ∃ (x68 : Int), v_2 = (pI x68) ∧ next ((IntKind.wrap .i64 (((at_ + sizeL (l.take i) : Nat) : Int) + (IntKind.wrap .i64 ((1) + x68)))), (f, rowsS K'), (IntKind.wrap .i64 ((i : Int) + (1)))) u_4) := by
        intro f K' u' hk hlen
        refine ⟨by omega, _, atRow hi, _, _, hk6, (cRefSize _ .sh l[i].conds (Nat.le_refl _) (by omega)).call ⟨_, rfl, hnext _ _ ⟨f, K', ?_, by rw [hT, hk], hlen⟩⟩⟩
        rw [wrap_id (x := (1 : Int) + _) (by omega) (by omega), wrap_id (x := ((at_ + sizeL (l.take i) : Nat) : Int) + _) (by omega) (by omega), wrap_id (x := (i : Int) + 1) (by omega) (by omega), hst]
        congr 1
        omega
      refine CJoin.of fun J hJ => ⟨Int.natCast_nonneg i, _, atRow hi, _, hk0, CIf.mk (fun h3 => ?_) (fun h3 => ?_)⟩
      · rw [h3] at hC
        refine ⟨Int.natCast_nonneg i, _, atRow hi, _, _, hk6, ?_⟩
        dsimp only
        rw [hat1]
        refine (ih .sh f l[i].conds (at_ + sizeL (l.take i) + 1) Ki (by omega) hokcs (by omega) (by omega)).call ?_
        cases hr : knowL l[i].conds (at_ + sizeL (l.take i) + 1) Ki with
        | error e =>
          refine ⟨_, _, _, _, rfl, CIf.t rfl ?_⟩
          rw [knowL_stop hi i1 (e := e) (by rw [hC, hr]; rfl)]; rfl
        | ok K' =>
          refine ⟨_, _, _, _, rfl, CIf.f rfl (hJ _ _ (go f Ki _ (by rw [hC, hr]; rfl) ?_))⟩
          rw [hst]; omega
      · rw [h3] at hC
        have hcs : l[i].conds.length = 0 := by
          rcases hkind with h | h
          · rw [h] at h3; simp at h3
          · exact h.2
        have hpv : PV.agg [pI l[i].kind, pB l[i].goal, pS l[i].id, .list 6 .sh (l[i].attr.map Test.pv), .list 6 .sh (l[i].value.map Test.pv), pB l[i].acc, .list 7 .sh (l[i].conds.map Cond.pv)] = .agg l[i].pv := by rw [Cond.pv_eq]
        refine ⟨Int.natCast_nonneg i, _, atRow hi, _, _, _, _, _, _, _, _, _, _, hrow, ?_⟩
        rw [hpv]
        refine (cRMet f l[i] Ki hokc (by omega)).call ?_
        cases hr : metC Ki l[i] with
        | none =>
          refine ⟨_, _, _, rfl, CIf.t rfl ?_⟩
          rw [knowL_stop hi i1 (e := at_ + sizeL (l.take i)) (by rw [hC, hr]; rfl)]; rfl
        | some K' =>
          have hml := metC_len hokc hr
          refine ⟨_, _, _, rfl, CIf.f rfl ⟨Int.natCast_nonneg i, _, atRow hi, _, hk0, CIf.mk (fun h1 => hJ _ _ (go _ K' _ ?_ ?_)) (fun h1 => hJ _ _ (go f Ki _ ?_ ?_))⟩⟩
          · rw [hC, hr, h1]; rfl
          · rw [hst]; omega
          · rw [hC, hr, h1]; rfl
          · rw [hst]; omega
    · rintro _ u next ⟨f, Ki, rfl, i1, i2⟩
      rw [List.take_length] at i1
      refine CIf.f (by simp) ?_
      rw [i1]; rfl

theorem cSeen (fl : Fl) (a : Atom) (K : List ByteArray) (hl : K.length ≤ 1000000) : Pure Try.prog 52 [.agg a.pv, .list 1 fl (rowsS K)] (pB (!lackB K a)) := by
  refine PureK.of (G_ponderref06_seen.c ?_)
  refine CIf.mk (fun h => ?_) (fun h => (cRHas fl K a.var hl).call ⟨_, rfl, ?_⟩)
  · have : lackB K a = false := by unfold lackB; rw [h]; rfl
    rw [this]; rfl
  · have : lackB K a = !hasB K a.var := by unfold lackB; rw [h]; rfl
    rw [this, Bool.not_not]; rfl

theorem cRCheck (fc fa : Fl) (p : Prod) (hl : lightL p.conds) (hs : sizeL p.conds ≤ 1000000) (ha : p.acts.length ≤ 1000000) : Pure Try.prog 17 [prodPV fc fa p] (.tup [pI (checkE p).1, pI (checkE p).2.1]) := by
  refine PureK.of (G_ponderref06_Check.c ?_)
  refine (cRefShape .sh .sh p hl hs ha).call ⟨_, _, rfl, CIf.mk (fun h1 => ?_) (fun h1 => ?_)⟩
  · unfold checkE; rw [h1]; rfl
  have h0 : (shapeE p).2 = 0 := by simpa using h1
  obtain ⟨s1, s2, s3, s4, hok⟩ := shapeE_ok h0
  cases hc : p.conds with
  | nil => rw [hc] at s1; simp [sizeL] at s1
  | cons c cs =>
  refine ⟨by omega, c.pv, rfl, _, by rw [Cond.pv_eq]; rfl, CIf.mk (fun h2 => ?_) (fun h2 => ?_)⟩
  · unfold checkE; rw [h1, hc]; simp only [cond_false, List.head?_cons, Option.map_some, Option.getD_some, h2, cond_true]; rfl
  have hE : checkE p = match knowL p.conds 0 [] with
      | .error n => ((n : Int), 6, [])
      | .ok K => match firstL K 0 p.acts with
        | some i => (((sizeL p.conds + i : Nat) : Int), 6, [])
        | none => (-1, 0, K) := by
    unfold checkE
    rw [h1]
    simp only [cond_false]
    rw [show (p.conds.head?.map Cond.kind).getD 0 = c.kind by rw [hc]; rfl, h2]
    rfl
  rw [← hc]
  refine (cKnows _ fc .nil p.conds 0 [] (Nat.le_refl _) hok (by simp) (by omega)).call ?_
  cases hk : knowL p.conds 0 [] with
  | error e =>
    refine ⟨_, _, _, _, rfl, CIf.t rfl ?_⟩
    rw [hE, hk]; rfl
  | ok K =>
    have hKl : K.length ≤ 1000 := by have := knowL_len hok hk; simp at this; omega
    refine ⟨_, _, _, _, rfl, CIf.f rfl ((cRefSize _ fc p.conds (Nat.le_refl _) hs).call ⟨_, rfl, ?_⟩)⟩
    refine LoopI.each (n := p.acts.length) (by omega) (fun i u => firstL K 0 (p.acts.take i) = none) rfl ?_ ?_
    · rintro i u next hi hf hnext
      have hT := firstL_take hi hf
      refine CIf.t (by simpa using hi) ⟨by omega, _, atRow hi, _, _, _, _, _, _, _, _, _, _, _, _, _, _, _, _, _, _, _, rfl, ?_⟩
      have hit : lackA K p.acts[i] = true → wk (.tup [pI (IntKind.wrap .i64 (((sizeL p.conds : Nat) : Int) + (i : Int))), pI 6]) = .tup [pI (checkE p).1, pI (checkE p).2.1] := fun hl => by
        rw [hE, hk]
        simp only [firstL_hit hi hf hl, Nat.zero_add]
        rw [wrap_id (by omega) (by omega)]
        rfl
      have miss : lackA K p.acts[i] = false → next (IntKind.wrap .i64 ((i : Int) + 1)) u := fun hl => hnext _ (by rw [hT, hl]; rfl)
      refine (cSeen .sh p.acts[i].attr K (by omega)).call ⟨_, rfl, CIf.mk (fun a1 => ?_) (fun a1 => ?_)⟩
      · rw [Bool.not_not] at a1; exact hit (by unfold lackA; rw [a1]; rfl)
      rw [Bool.not_not] at a1
      refine CIf.mk (fun a2 => ?_) (fun a2 => miss (by unfold lackA; rw [a1, a2]; rfl))
      refine (cSeen .sh p.acts[i].value.a K (by omega)).call ⟨_, rfl, CIf.mk (fun a3 => ?_) (fun a3 => ?_)⟩
      · rw [Bool.not_not] at a3; exact hit (by unfold lackA; rw [a1, a2, a3]; rfl)
      rw [Bool.not_not] at a3
      refine (cSeen .sh p.acts[i].value.b K (by omega)).call ⟨_, rfl, CIf.mk (fun a4 => ?_) (fun a4 => ?_)⟩
      · rw [Bool.not_not] at a4; exact hit (by unfold lackA; rw [a1, a2, a3, a4]; rfl)
      · rw [Bool.not_not] at a4; exact miss (by unfold lackA; rw [a1, a2, a3, a4]; rfl)
    · rintro u next hf
      rw [List.take_length] at hf
      refine CIf.f (by simp) ?_
      rw [hE, hk]
      simp only [hf]
      rfl

theorem cRKnown (fc fa : Fl) (p : Prod) (hok : okL p.conds) (hs : sizeL p.conds ≤ 1000) : Pure Try.prog 54 [prodPV fc fa p, pI (p.conds.length : Nat)] (.list 1 .sh (match knowL p.conds 0 [] with | .error _ => [] | .ok K => rowsS K)) := by
  refine PureK.of (G_ponderref06_Known.c ?_)
  refine ⟨by omega, by omega, by simp, ?_⟩
  have e : List.drop (Int.toNat (0 : Int)) (List.take (Int.toNat ((p.conds.length : Nat) : Int)) (p.conds.map Cond.pv)) = p.conds.map Cond.pv := by
    rw [Int.toNat_natCast, List.take_of_length_le (by simp)]; rfl
  rw [e]
  refine (cKnows _ .sh .nil p.conds 0 [] (Nat.le_refl _) hok (by simp) (by omega)).call ?_
  cases knowL p.conds 0 [] with
  | error e => exact ⟨_, _, _, _, rfl, rfl⟩
  | ok K => exact ⟨_, _, _, _, rfl, rfl⟩

theorem checkE_ok {p : Prod} (h : (checkE p).2.1 = 0) : (shapeE p).2 = 0 ∧ knowL p.conds 0 [] = .ok (checkE p).2.2 := by
  unfold checkE at h ⊢
  cases h1 : (shapeE p).2 != 0 <;> rw [h1] at h
  · have h0 : (shapeE p).2 = 0 := by simpa using h1
    refine ⟨h0, ?_⟩
    simp only [cond_false] at h ⊢
    cases h2 : (p.conds.head?.map Cond.kind).getD 0 != 1 <;> rw [h2] at h
    · simp only [cond_false] at h ⊢
      cases hk : knowL p.conds 0 [] with
      | error e => rw [hk] at h; simp at h
      | ok K =>
        rw [hk] at h
        simp only at h ⊢
        cases hf : firstL K 0 p.acts with
        | some i => rw [hf] at h; simp at h
        | none => rfl
    · simp at h
  · simp only [cond_true] at h; simp [h] at h1

theorem checkE_no {p : Prod} (h : (checkE p).2.1 ≠ 0) : (checkE p).2.2 = [] := by
  unfold checkE at h ⊢
  cases h1 : (shapeE p).2 != 0 <;> rw [h1] at h
  · simp only [cond_false] at h ⊢
    cases h2 : (p.conds.head?.map Cond.kind).getD 0 != 1 <;> rw [h2] at h
    · simp only [cond_false] at h ⊢
      cases hk : knowL p.conds 0 [] with
      | error e => rfl
      | ok K =>
        rw [hk] at h
        simp only at h ⊢
        cases hf : firstL K 0 p.acts with
        | some i => rfl
        | none => rw [hf] at h; simp at h
    · rfl
  · rfl

theorem cRVars (fc fa : Fl) (p : Prod) (hl : lightL p.conds) (hs : sizeL p.conds ≤ 1000000) (ha : p.acts.length ≤ 1000000) : Pure Try.prog 24 [prodPV fc fa p] (.list 1 .sh (rowsS (checkE p).2.2)) := by
  refine PureK.of (G_ponderref06_Vars.c ?_)
  refine (cRCheck .sh .sh p hl hs ha).call ⟨_, _, rfl, CIf.mk (fun h => ?_) (fun h => ?_)⟩
  · rw [checkE_no (by simpa using h)]; rfl
  · obtain ⟨h1, h2⟩ := checkE_ok (p := p) (by simpa using h)
    obtain ⟨_, s2, _, _, hok⟩ := shapeE_ok h1
    rw [List.length_map]
    refine (cRKnown .sh .sh p hok (by omega)).call ⟨_, _, rfl, ?_⟩
    rw [h2]; rfl

end Go.Proofs.Ytfjemjnbemdkgaa

/-
  Copies and comparisons.
-/
namespace Go.Proofs.Ytfjemjnbemdkgaa
open Go.Eng Go.RowKit
set_option linter.unusedVariables false
set_option linter.unusedSimpArgs false
set_option linter.unnecessarySimpa false

theorem cKSyms (f g : Fl) (l : List Sym) (hl : l.length ≤ 1000000) : Pure Try.prog 32 [.list 3 f (l.map Sym.pv), .list 3 g (l.map Sym.pv)] (pB true) := by
  refine PureK.of (G_ponderkeep_Syms.c (CIf.f (by simp) ?_))
  refine LoopI.each (n := l.length) (by omega) (fun _ _ => True) trivial (fun k u next hk _ hnext => ?_) (fun u next _ => CIf.f (by simp) rfl)
  exact CIf.t (by simpa using hk) ⟨by omega, _, atRow hk, _, _, _, rfl, by omega, _, atRow hk, _, _, _, rfl, CIf.f (by simp [sEq]) (hnext _ trivial)⟩

theorem cKTests (f g : Fl) (l : List Test) (hl : l.length ≤ 1000000) (ht : ∀ t ∈ l, t.list.length ≤ 1000000) : Pure Try.prog 82 [.list 6 f (l.map Test.pv), .list 6 g (l.map Test.pv)] (pB true) := by
  refine PureK.of (G_ponderkeep_Tests.c (CIf.f (by simp) ?_))
  refine LoopI.each (n := l.length) (by omega) (fun _ _ => True) trivial (fun k u next hk _ hnext => ?_) (fun u next _ => CIf.f (by simp) rfl)
  refine CIf.t (by simpa using hk) ⟨by omega, _, atRow hk, _, rfl, by omega, _, atRow hk, _, rfl, CIf.f (by simp) ⟨by omega, _, atRow hk, _, rfl, by omega, _, atRow hk, _, rfl, CIf.f (by simp [sEq]) ⟨by omega, _, atRow hk, _, _, _, rfl, by omega, _, atRow hk, _, _, _, rfl, CIf.f (by simp [sEq]) ⟨by omega, _, atRow hk, _, _, rfl, by omega, _, atRow hk, _, _, rfl, ?_⟩⟩⟩⟩
  exact (cKSyms .sh .sh l[k].list (ht _ (List.getElem_mem hk))).call ⟨_, rfl, CIf.f rfl (hnext _ trivial)⟩

theorem cKActs (f g : Fl) (l : List Actn) (hl : l.length ≤ 1000000) : Pure Try.prog 53 [.list 19 f (l.map Actn.pv), .list 19 g (l.map Actn.pv)] (pB true) := by
  refine PureK.of (G_ponderkeep_Acts.c (CIf.f (by simp) ?_))
  refine LoopI.each (n := l.length) (by omega) (fun _ _ => True) trivial (fun k u next hk _ hnext => ?_) (fun u next _ => CIf.f (by simp) rfl)
  exact CIf.t (by simpa using hk) ⟨by omega, _, atRow hk, _, _, _, _, _, _, _, _, _, _, _, _, _, _, _, _, _, _, _, rfl, by omega, _, atRow hk, _, _, _, _, _, _, _, _, _, _, _, _, _, _, _, _, _, _, _, rfl, CIf.f (by simp [sEq]) (hnext _ trivial)⟩

theorem cKConds' : ∀ (n : Nat) (f g : Fl) (l : List Cond), sizeL l ≤ n → sizeL l ≤ 1000000 → lightL l → Pure Try.prog 31 [.list 7 f (l.map Cond.pv), .list 7 g (l.map Cond.pv)] (pB true) := by
  intro n
  induction n with
  | zero =>
    intro f g l h _ _
    have : l = [] := by
      cases l with
      | nil => rfl
      | cons c l => simp [sizeL, sizeC_eq] at h
    subst this
    refine PureK.of (G_ponderkeep_Conds.c (CIf.f (by simp) ?_))
    exact LoopI.each (n := 0) (by omega) (fun _ _ => True) trivial (fun k u next hk => by omega) (fun u next _ => CIf.f (by simp) rfl)
  | succ n ih =>
    intro f g l h h6 hli
    have hll := sizeL_len l
    refine PureK.of (G_ponderkeep_Conds.c (CIf.f (by simp) ?_))
    refine LoopI.each (n := l.length) (by omega) (fun _ _ => True) trivial (fun k u next hk _ hnext => ?_) (fun u next _ => CIf.f (by simp) rfl)
    have hm := sizeL_mem (List.getElem_mem hk)
    obtain ⟨_, ha, hv, hta, htv, hcs⟩ := (lightC_eq _).1 (lightL_iff.1 hli _ (List.getElem_mem hk))
    refine CIf.t (by simpa using hk) ⟨by omega, _, atRow hk, _, _, _, _, _, _, _, _, _, _, condRow _, by omega, _, atRow hk, _, _, _, _, _, _, _, _, _, _, condRow _, ?_⟩
    refine Pure.call (r := pB true) (PureK.of (G_ponderkeep_Cond.c (CIf.t (by simp) (CIf.t (by simp) (CIf.t (sEq _) (CIf.t (by simp) ?_)))))) ⟨_, rfl, CIf.f rfl (hnext _ trivial)⟩
    refine (cKTests .sh .sh _ (by omega) (lightTs hta)).call ⟨_, rfl, CIf.t rfl ((cKTests .sh .sh _ (by omega) (lightTs htv)).call ⟨_, rfl, CIf.t rfl ((ih .sh .sh _ (by omega) (by omega) hcs).call ⟨_, rfl, rfl⟩)⟩)⟩

theorem cKProd (f1 f2 g1 g2 : Fl) (p : Prod) (hl : lightL p.conds) (hs : sizeL p.conds ≤ 1000000) (ha : p.acts.length ≤ 1000000) : Pure Try.prog 18 [.agg [pS p.name, .list 7 f1 (p.conds.map Cond.pv), .list 19 f2 (p.acts.map Actn.pv)], .agg [pS p.name, .list 7 g1 (p.conds.map Cond.pv), .list 19 g2 (p.acts.map Actn.pv)]] (pB true) := by
  refine PureK.of (G_ponderkeep_Prod.c (CIf.t (sEq _) ?_))
  exact (cKConds' _ f1 g1 p.conds (Nat.le_refl _) hs hl).call ⟨_, rfl, CIf.t rfl ((cKActs f2 g2 p.acts ha).call ⟨_, rfl, rfl⟩)⟩

/-! ### copies -/
theorem cCopyActs (f : Fl) (l : List Actn) (hl : l.length ≤ 1000000) : Pure Try.prog 49 [.list 19 f (l.map Actn.pv)] (.list 19 .sh (l.map Actn.pv)) := by
  refine PureK.of (G_ponderkeep_Copy_api_Act.c ?_)
  exact appL.go1 (by trivial) (by simp; omega) (by simp; omega) fun f1 μ1 t1 => rfl

theorem cCopyProd (fc fa : Fl) (p : Prod) (hl : lightL p.conds) (hs : sizeL p.conds ≤ 1000000) (ha : p.acts.length ≤ 1000000) : Pure Try.prog 15 [.agg [pS p.name, .list 7 fc (p.conds.map Cond.pv), .list 19 fa (p.acts.map Actn.pv)]] (.agg p.pv) := by
  refine PureK.of (G_ponderkeep_CopyProd.c ?_)
  exact (cCopyConds _ fc p.conds (Nat.le_refl _) hs hl).q ⟨_, _, rfl, (cCopyActs fa p.acts ha).q ⟨_, _, rfl, rfl⟩⟩

end Go.Proofs.Ytfjemjnbemdkgaa

/-
  The laws of chapter 6: checks.
-/
namespace Go.Proofs.Ytfjemjnbemdkgaa
open Go.Eng Go.RowKit
set_option linter.unusedVariables false

theorem cShapeChecks (p : Prod) : Pure Try.prog 4 [.agg p.pv] (pB true) := by
  refine PureK.of (G_ponderlaw06_ShapeChecks.c ?_)
  refine (cHeavy .sh .sh p).call ?_
  rintro _ ⟨q, rfl, hq⟩
  refine ⟨_, rfl, CIf.mk (fun h => cWakes.call ⟨_, rfl, rfl⟩) (fun h => ?_)⟩
  obtain ⟨hl, hs, ha, hn⟩ := hq h
  refine (cCopyProd .sh .sh p hl (by omega) (by omega)).call ⟨_, _, _, _, _, rfl, ?_⟩
  refine (cCheck .sh .sh p hl (by omega) (by omega)).call ⟨_, _, rfl, (cRCheck .sh .sh p hl (by omega) (by omega)).call ⟨_, _, rfl, CIf.t (by simp) (CIf.t (by simp) ?_)⟩⟩
  exact (cKProd .sh .sh .sh .sh p hl (by omega) (by omega)).call ⟨_, rfl, CIf.t rfl (cWakes.call ⟨_, rfl, rfl⟩)⟩

end Go.Proofs.Ytfjemjnbemdkgaa

/-
  The laws of chapter 6: variables.
-/
namespace Go.Proofs.Ytfjemjnbemdkgaa
open Go.Eng Go.RowKit
set_option linter.unusedVariables false

theorem cKTexts (f g : Fl) (l : List ByteArray) (hl : l.length ≤ 1000000) : Pure Try.prog 23 [.list 1 f (rowsS l), .list 1 g (rowsS l)] (pB true) := by
  refine PureK.of (G_ponderkeep_Texts.c (CIf.f (by simp) ?_))
  refine LoopI.each (n := l.length) (by omega) (fun _ _ => True) trivial (fun k u next hk _ hnext => ?_) (fun u next _ => CIf.f (by simp) rfl)
  exact CIf.t (by simpa using hk) ⟨by omega, _, rowsS_at hk, _, rfl, by omega, _, rowsS_at hk, _, rfl, CIf.f (by simp [sEq]) (hnext _ trivial)⟩

theorem varsLen (p : Prod) : (checkE p).2.2.length ≤ 1000 := by
  by_cases h : (checkE p).2.1 = 0
  · obtain ⟨h1, h2⟩ := checkE_ok h
    obtain ⟨_, s2, _, _, hok⟩ := shapeE_ok h1
    have := knowL_len hok h2
    simp at this; omega
  · rw [checkE_no h]; simp

theorem cShapeVars (p : Prod) : Pure Try.prog 6 [.agg p.pv] (pB true) := by
  refine PureK.of (G_ponderlaw06_ShapeVars.c ?_)
  refine (cHeavy .sh .sh p).call ?_
  rintro _ ⟨q, rfl, hq⟩
  refine ⟨_, rfl, CIf.mk (fun h => cWakes.call ⟨_, rfl, rfl⟩) (fun h => ?_)⟩
  obtain ⟨hl, hs, ha, hn⟩ := hq h
  have hlen := varsLen p
  refine cVarsR .sh .sh p hl (by omega) (by omega) fun μ q Fr ho hm => ?_
  have hv := ho.view (rowsS_each _) (rowsS_cell _)
  obtain ⟨a, c, rfl, _⟩ := ho.app (rowsS_each _)
  refine ⟨_, _, _, rfl, (cRVars .sh .sh p hl (by omega) (by omega)).call ⟨_, _, rfl, ?_⟩⟩
  refine CallP.view (cKTexts .sh .sh _ (by omega)) rfl (fun i x y hx hy => ?_) (fun p hp => by rw [hp]; rfl) (fun r hr => ?_)
  · match i with
    | 0 => simp only [List.getElem?_cons_zero, Option.some.injEq] at hx hy; subst hx hy; exact ⟨hv, rfl⟩
    | 1 => simp at hx hy; subst hx hy; exact ⟨.same _, rfl⟩
    | n + 2 => simp at hx
  subst hr
  refine ⟨_, rfl, CIf.f rfl ?_⟩
  rw [rowsS_len]
  refine LoopI.each (n := (checkE p).2.2.length) (by omega) (fun i u => (checkE p).2.2.length ≠ 0 → ∃ b T cs, a = some ⟨b, 0, none⟩ ∧ u b = some (.cells T cs) ∧ (checkE p).2.2.length ≤ cs.length) (fun h0 => ?_) ?_ ?_
  · rcases ho with ⟨_, h1, _⟩ | ⟨b, c', rest, h1, _, h2, _⟩
    · have := congrArg List.length h1; simp at this; simp [this] at h0
    · simp only [PV.raw.injEq, Value.slice.injEq] at h1
      refine ⟨b, _, _, h1.1, h2, ?_⟩
      have hfl := flatLen (rowsS_each (checkE p).2.2)
      rw [rowsS_len] at hfl
      rw [List.length_append, hfl]; omega
  · intro i u next hi hI hnext
    obtain ⟨b, T, cs, rfl, h2, h3⟩ := hI (by omega)
    refine CIf.t (by simpa using hi) ⟨by omega, by omega, _, _, h2, by simp; omega, hnext _ fun _ => ⟨b, T, _, rfl, Mem.set_same _ _ _, ?_⟩⟩
    unfold wrL
    simp only [List.length_append, List.length_take, List.length_drop, List.length_singleton]
    omega
  · intro u next hI
    refine CIf.f (by simp) ?_
    refine (cVars .sh .sh p hl (by omega) (by omega)).q ⟨_, _, rfl, (cRVars .sh .sh p hl (by omega) (by omega)).call ⟨_, _, rfl, (cKTexts .sh .sh _ (by omega)).call ⟨_, rfl, CIf.t rfl (cWakes.call ⟨_, rfl, rfl⟩)⟩⟩⟩

end Go.Proofs.Ytfjemjnbemdkgaa

/-
  The laws of chapter 6: all conditions, one by one.
-/
namespace Go.Proofs.Ytfjemjnbemdkgaa
open Go.Eng Go.RowKit
set_option linter.unusedVariables false
set_option linter.unusedSimpArgs false
set_option linter.unnecessarySimpa false

abbrev tyCond : TypeId := 37

def eachL (l : List Cond) : List Cond := (preL l 0 0).map fun x => x.2.2

theorem pre_snd (l : List Cond) (a d a' d' : Nat) : (preL l a d).map (fun x => x.2.2) = (preL l a' d').map fun x => x.2.2 := by
  have key : ∀ n (l : List Cond), sizeL l ≤ n → ∀ a d a' d', (preL l a d).map (fun x => x.2.2) = (preL l a' d').map fun x => x.2.2 := by
    intro n
    induction n with
    | zero =>
      intro l h
      cases l with
      | nil => intros; rfl
      | cons c l => simp [sizeL, sizeC_eq] at h
    | succ n ih =>
      intro l
      induction l with
      | nil => intros; rfl
      | cons c l ihl =>
        intro h a d a' d'
        simp only [sizeL, sizeC_eq] at h
        simp only [preL, preC_eq, List.map_append, List.map_cons]
        rw [ih c.conds (by omega) (a + 1) (d + 1) (a' + 1) (d' + 1), ihl (by omega) (a + sizeC c) d (a' + sizeC c) d']
  exact key _ l (Nat.le_refl _) a d a' d'

theorem eachL_nil : eachL [] = [] := rfl
theorem eachL_take {l : List Cond} {i : Nat} (hi : i < l.length) : eachL (l.take (i + 1)) = eachL (l.take i) ++ (l[i] :: eachL l[i].conds) := by
  unfold eachL
  rw [List.take_add_one, List.getElem?_eq_getElem hi, preL_append, List.map_append]
  simp only [Option.toList_some, preL, List.append_nil, preC_eq, List.map_cons]
  rw [pre_snd l[i].conds _ _ 0 0]
theorem eachL_len (l : List Cond) : (eachL l).length = sizeL l := by unfold eachL; rw [List.length_map, preL_len]

theorem cREach : ∀ (n : Nat) (f : Fl) (l : List Cond), sizeL l ≤ n → sizeL l ≤ 1000000 → Pure Try.prog 29 [.list 7 f (l.map Cond.pv)] (.list 7 .sh ((eachL l).map Cond.pv)) := by
  intro n
  induction n with
  | zero =>
    intro f l h _
    have : l = [] := by
      cases l with
      | nil => rfl
      | cons c l => simp [sizeL, sizeC_eq] at h
    subst this
    refine PureK.of (G_ponderref06_Each.c ?_)
    exact LoopI.each2 (n := 0) (by omega) (fun _ x _ => x.2 = []) rfl (fun k x u next hk => by omega) (fun x u next hx => CIf.f (by simp) (by rw [hx]; rfl))
  | succ n ih =>
    intro f l h h6
    have hll := sizeL_len l
    refine PureK.of (G_ponderref06_Each.c ?_)
    refine LoopI.each2 (n := l.length) (by omega) (fun i x u => x.2 = (eachL (l.take i)).map Cond.pv ∧ TipIn x.1 (sizeL (l.take i)) 7 u) ⟨rfl, trivial⟩ ?_ ?_
    · rintro i ⟨f, _⟩ u next hi ⟨rfl, ht⟩ hnext
      have hm := sizeL_mem (List.getElem_mem hi)
      have hs := sizeL_split l (i + 1)
      have hst := sizeL_take hi
      rw [hst] at hs
      have hlen : ((eachL (l.take i)).map Cond.pv).length = sizeL (l.take i) := by rw [List.length_map, eachL_len]
      refine CIf.t (by simpa using hi) ⟨by omega, _, atRow hi, _, _, _, _, _, _, _, _, _, _, condRow _, ?_⟩
      refine appL.go1 (by rw [hlen]; exact ht) (by rw [hlen]; simp; omega) (by rw [hlen]; simp; omega) fun f1 μ1 t1 => ⟨by omega, _, atRow hi, _, _, by rw [Cond.pv_eq]; rfl, ?_⟩
      refine (ih .sh l[i].conds (by omega) (by omega)).call ⟨_, _, rfl, ?_⟩
      refine appL.go1 (by rw [List.length_append]; exact t1) (by rw [List.length_append, hlen, List.length_map, eachL_len]; simp; omega) (by rw [List.length_append, hlen, List.length_map, eachL_len]; simp; omega) fun f2 μ2 t2 => hnext _ _ ⟨?_, ?_⟩
      · rw [eachL_take hi, List.map_append, List.map_cons, Cond.pv_eq l[i], List.append_assoc]; rfl
      · rw [List.length_append, hlen, List.length_map, eachL_len] at t2
        rw [hst]
        simp only [List.length_singleton] at t2
        rw [← Nat.add_assoc]; exact t2
    · rintro ⟨f, _⟩ u next ⟨rfl, ht⟩
      refine CIf.f (by simp) ?_
      rw [List.take_length]; rfl

theorem cSizeP (f : Fl) (l : List Cond) (hs : sizeL l ≤ 1000000) : Pure Try.prog 28 [.list 7 f (l.map Cond.pv)] (pI (sizeL l : Nat)) := by
  refine PureK.of (G_shape_Size.c ?_)
  refine CallP.mono (cWalk (.func 55) [] [] trivial (fun _ _ => True) (fun _ => False) _ f l 0 0 0 _ (Nat.le_refl _) (by omega) (by omega) trivial fun k x μ hx _ => ?_) ?_
  · show CallP _ _ _ _ _
    rw [Cond.pv_eq]
    exact G_shape_Size_1.c (.inl ⟨rfl, trivial⟩)
  · rintro v μ (⟨rfl, _⟩ | ⟨x, _, h⟩)
    · refine ⟨_, _, rfl, ?_⟩
      rw [Nat.zero_add]; rfl
    · exact h.elim

@[reducible] def eachF (l : List Cond) : PV := .fn (.func 80) [] [.fptr [.list 7 .sh (l.map Cond.pv)] 0]
theorem cEach (f : Fl) (l : List Cond) : Pure Try.prog 56 [.list 7 f (l.map Cond.pv)] (eachF l) := PureK.of (G_shape_Each.c rfl)

theorem seqEach (l : List Cond) (hs : sizeL l ≤ 1000000) : SeqP Try.prog (eachF l) ((preL l 0 0).map fun x => [pI (x.1 : Nat), .agg x.2.2.pv]) := by
  refine SeqP.mk fun fy ya yb I S μ hy h0 hstep => ?_
  show CallP _ _ [.fn fy ya yb, .fptr [.list 7 .sh (l.map Cond.pv)] 0] _ _
  refine G_shape_Each_1.c ⟨_, _, rfl, ?_⟩
  refine CallP.mono (cWalk (.func 81) [] [.fptr [.fn fy ya yb] 0] trivial I S _ .sh l 0 0 0 _ (Nat.le_refl _) (by omega) (by omega) h0 fun k x μ hx hI => ?_) ?_
  · have hk : k < (preL l 0 0).length := (List.getElem?_eq_some_iff.1 hx).1
    have hxe : (preL l 0 0)[k] = x := (List.getElem?_eq_some_iff.1 hx).2
    rw [Nat.zero_add] at hI ⊢
    have := hstep k (by simpa using hk) μ hI
    simp only [List.getElem_map, hxe] at this
    show CallP _ _ _ _ _
    rw [Cond.pv_eq] at this ⊢
    refine G_shape_Each_1_1.c ⟨_, _, _, rfl, CallVP.mono this ?_⟩
    rintro v μ' (⟨rfl, h⟩ | ⟨rfl, h⟩)
    · exact ⟨_, rfl, .inl ⟨rfl, h⟩⟩
    · exact ⟨_, rfl, .inr ⟨rfl, h⟩⟩
  · rintro v μ' (⟨rfl, h⟩ | ⟨x, rfl, h⟩)
    · refine ⟨_, _, rfl, .inl ?_⟩
      rw [Nat.zero_add] at h
      rw [List.length_map, preL_len]; exact h
    · exact ⟨_, _, rfl, .inr h⟩

end Go.Proofs.Ytfjemjnbemdkgaa

/-
  What rises by a key: plain. And how a set lies in memory, as one of its parts.
-/
namespace Go.Eng
open Go.RowKit
set_option linter.unusedVariables false
set_option linter.unusedSimpArgs false
set_option linter.unnecessarySimpa false

section
variable {T κ : Type} (ck : κ → κ → Int) (key : T → κ)

/-- It rises by its keys. -/
def UpK (L : List T) : Prop := L.Pairwise fun a b => ck (key a) (key b) < 0
def ltK (k : κ) (y : T) : Bool := decide (ck (key y) k < 0)
def gtK (k : κ) (y : T) : Bool := decide (0 < ck (key y) k)
def eqK (k : κ) (y : T) : Bool := decide (ck (key y) k = 0)
def getK (k : κ) (L : List T) : Option T := L.find? (eqK ck key k)
def posK (k : κ) (L : List T) : Nat := (L.filter (ltK ck key k)).length
def insK (x : T) (L : List T) : List T := L.filter (ltK ck key (key x)) ++ x :: L.filter (gtK ck key (key x))
def delK (k : κ) (L : List T) : List T := L.filter fun y => !eqK ck key k y
/-- x is there, and nothing else turned. -/
def putK (x : T) (L : List T) : List T := if (getK ck key (key x) L).isSome then L else insK ck key x L
end

section
variable {T κ : Type} {ck : κ → κ → Int} {key : T → κ}

theorem Cmp.self (hc : Cmp ck) (a : κ) : ck a a = 0 := (hc.zero a a).2 rfl

theorem UpK.up {L : List T} (h : UpK ck key L) : Up ck (L.map key) := by
  unfold Up; rw [List.pairwise_map]; exact h

theorem filter_take {α : Type} {p : α → Bool} {L : List α} {k : Nat} (hk : k ≤ L.length) (h1 : ∀ (i : Nat) (h : i < L.length), i < k → p L[i] = true) (h2 : ∀ (i : Nat) (h : i < L.length), k ≤ i → p L[i] = false) : L.filter p = L.take k := by
  have e := List.take_append_drop k L
  rw [← e, List.filter_append]
  rw [List.filter_eq_self.2 fun x hx => ?_, List.filter_eq_nil_iff.2 fun x hx => ?_]
  · simp [Nat.min_eq_left hk]
  · obtain ⟨i, hi, rfl⟩ := List.mem_iff_getElem.1 hx
    rw [List.getElem_drop]
    simp only [List.length_drop] at hi
    simp [h2 (k + i) (by omega) (by omega)]
  · obtain ⟨i, hi, rfl⟩ := List.mem_iff_getElem.1 hx
    rw [List.getElem_take]
    simp only [List.length_take] at hi
    exact h1 i (by omega) (by omega)

theorem filter_drop {α : Type} {p : α → Bool} {L : List α} {k : Nat} (hk : k ≤ L.length) (h1 : ∀ (i : Nat) (h : i < L.length), i < k → p L[i] = false) (h2 : ∀ (i : Nat) (h : i < L.length), k ≤ i → p L[i] = true) : L.filter p = L.drop k := by
  have e := List.take_append_drop k L
  rw [← e, List.filter_append]
  rw [List.filter_eq_nil_iff.2 fun x hx => ?_, List.filter_eq_self.2 fun x hx => ?_]
  · simp [Nat.min_eq_left hk]
  · obtain ⟨i, hi, rfl⟩ := List.mem_iff_getElem.1 hx
    rw [List.getElem_drop]
    simp only [List.length_drop] at hi
    exact h2 (k + i) (by omega) (by omega)
  · obtain ⟨i, hi, rfl⟩ := List.mem_iff_getElem.1 hx
    rw [List.getElem_take]
    simp only [List.length_take] at hi
    simp [h1 i (by omega) (by omega)]

section
variable {L : List T} {x : κ} {k : Nat}

theorem FoundAt.lowK {there : Bool} (h : FoundAt ck (L.map key) x k there) (i : Nat) (hi : i < L.length) (hik : i < k) : ck (key L[i]) x < 0 := by
  have := h.low i (by simpa using hi) hik
  simpa using this
theorem FoundAt.leK {there : Bool} (h : FoundAt ck (L.map key) x k there) : k ≤ L.length := by simpa using h.le
theorem FoundAt.missK (h : FoundAt ck (L.map key) x k false) (i : Nat) (hi : i < L.length) (hik : k ≤ i) : 0 < ck (key L[i]) x := by
  have := h.miss rfl i (by simpa using hi) hik
  simpa using this
theorem FoundAt.hitK (h : FoundAt ck (L.map key) x k true) : ∃ hk : k < L.length, key L[k] = x := by
  obtain ⟨h1, h2⟩ := h.hit rfl
  exact ⟨by simpa using h1, by simpa using h2⟩

theorem FoundAt.pos {there : Bool} (hc : Cmp ck) (h : FoundAt ck (L.map key) x k there) (hu : UpK ck key L) : k = posK ck key x L := by
  unfold posK
  rw [filter_take (k := k) h.leK (fun i hi hik => ?_) (fun i hi hik => ?_)]
  · simp [h.leK]
  · have := h.lowK i hi hik; simp [ltK]; omega
  · cases there with
    | false => have := h.missK i hi hik; simp [ltK]; omega
    | true =>
      obtain ⟨hk, e⟩ := h.hitK
      by_cases hik' : i = k
      · subst hik'; simp [ltK, e, hc.self]
      · have h1 := hu.up.lt (i := k) (j := i) (by omega) (by simpa using hi)
        simp only [List.getElem_map] at h1
        rw [e] at h1
        have := (hc.flip _ _).1 h1
        simp [ltK]; omega

theorem FoundAt.none (hc : Cmp ck) (h : FoundAt ck (L.map key) x k false) : getK ck key x L = Option.none := by
  unfold getK
  rw [List.find?_eq_none]
  intro y hy
  obtain ⟨i, hi, rfl⟩ := List.mem_iff_getElem.1 hy
  by_cases hik : i < k
  · have := h.lowK i hi hik; simp [eqK]; omega
  · have := h.missK i hi (by omega); simp [eqK]; omega

theorem getK_at (hc : Cmp ck) (hu : UpK ck key L) (hk : k < L.length) (e : key L[k] = x) : getK ck key x L = some L[k] := by
  unfold getK
  rw [List.find?_eq_some_iff_getElem]
  refine ⟨by simp [eqK, e, hc.self], k, hk, rfl, fun j hj => ?_⟩
  have h1 := hu.up.lt (i := j) (j := k) hj (by simpa using hk)
  simp only [List.getElem_map] at h1
  rw [e] at h1
  simp [eqK]; omega

theorem FoundAt.some (hc : Cmp ck) (h : FoundAt ck (L.map key) x k true) (hu : UpK ck key L) : ∃ hk : k < L.length, getK ck key x L = Option.some L[k] := by
  obtain ⟨hk, e⟩ := h.hitK
  exact ⟨hk, getK_at hc hu hk e⟩

theorem FoundAt.isSome {there : Bool} (hc : Cmp ck) (h : FoundAt ck (L.map key) x k there) (hu : UpK ck key L) : there = (getK ck key x L).isSome := by
  cases there with
  | false => rw [h.none hc]; rfl
  | true => obtain ⟨_, e⟩ := h.some hc hu; rw [e]; rfl

theorem FoundAt.ins (hc : Cmp ck) {y : T} (h : FoundAt ck (L.map key) (key y) k false) : L.take k ++ y :: L.drop k = insK ck key y L := by
  unfold insK
  rw [filter_take (k := k) h.leK (fun i hi hik => ?_) (fun i hi hik => ?_), filter_drop (k := k) h.leK (fun i hi hik => ?_) (fun i hi hik => ?_)]
  · have := h.lowK i hi hik; simp [gtK]; omega
  · have := h.missK i hi hik; simp [gtK]; omega
  · have := h.lowK i hi hik; simp [ltK]; omega
  · have := h.missK i hi hik; simp [ltK]; omega

theorem FoundAt.del (hc : Cmp ck) (h : FoundAt ck (L.map key) x k true) (hu : UpK ck key L) : L.eraseIdx k = delK ck key x L := by
  obtain ⟨hk, e⟩ := h.hitK
  have e1 := List.take_append_drop k L
  have e2 : L.drop k = L[k] :: L.drop (k + 1) := List.drop_eq_getElem_cons hk
  rw [List.eraseIdx_eq_take_drop_succ]
  unfold delK
  conv => rhs; rw [← e1, e2]
  rw [List.filter_append, List.filter_cons]
  have h0 : eqK ck key x L[k] = true := by simp [eqK, e, hc.self]
  simp only [h0, Bool.not_true, Bool.false_eq_true, if_false]
  rw [List.filter_eq_self.2 fun z hz => ?_, List.filter_eq_self.2 fun z hz => ?_]
  · obtain ⟨i, hi, rfl⟩ := List.mem_iff_getElem.1 hz
    rw [List.getElem_drop]
    simp only [List.length_drop] at hi
    have h1 := hu.up.lt (i := k) (j := k + 1 + i) (by omega) (by simp; omega)
    simp only [List.getElem_map] at h1
    rw [e] at h1
    have := (hc.flip _ _).1 h1
    simp [eqK]; omega
  · obtain ⟨i, hi, rfl⟩ := List.mem_iff_getElem.1 hz
    rw [List.getElem_take]
    simp only [List.length_take] at hi
    have := h.lowK i (by omega) (by omega)
    simp [eqK]; omega
end

theorem mem_insK (hc : Cmp ck) {x y : T} {L : List T} : y ∈ insK ck key x L ↔ y = x ∨ (y ∈ L ∧ key y ≠ key x) := by
  unfold insK
  simp only [List.mem_append, List.mem_cons, List.mem_filter, ltK, gtK, decide_eq_true_eq]
  have h0 : key y = key x ↔ ck (key y) (key x) = 0 := (hc.zero _ _).symm
  constructor
  · rintro (⟨h, h1⟩ | h | ⟨h, h1⟩)
    · exact .inr ⟨h, fun e => by rw [h0] at e; omega⟩
    · exact .inl h
    · exact .inr ⟨h, fun e => by rw [h0] at e; omega⟩
  · rintro (h | ⟨h, h1⟩)
    · exact .inr (.inl h)
    · rw [ne_eq, h0] at h1
      by_cases h2 : ck (key y) (key x) < 0
      · exact .inl ⟨h, h2⟩
      · exact .inr (.inr ⟨h, by omega⟩)
theorem mem_delK (hc : Cmp ck) {k : κ} {y : T} {L : List T} : y ∈ delK ck key k L ↔ y ∈ L ∧ key y ≠ k := by
  unfold delK
  simp only [List.mem_filter, eqK, Bool.not_eq_true', decide_eq_false_iff_not, hc.zero, ne_eq]

theorem UpK.filter {L : List T} (h : UpK ck key L) (p : T → Bool) : UpK ck key (L.filter p) := List.Pairwise.filter _ h
theorem UpK.ins (hc : Cmp ck) {L : List T} (h : UpK ck key L) (x : T) : UpK ck key (insK ck key x L) := by
  unfold insK UpK
  rw [List.pairwise_append, List.pairwise_cons]
  refine ⟨h.filter _, ⟨fun y hy => ?_, h.filter _⟩, fun y hy z hz => ?_⟩
  · simp only [List.mem_filter, gtK, decide_eq_true_eq] at hy
    exact (hc.flip _ _).2 hy.2
  · simp only [List.mem_filter, ltK, decide_eq_true_eq] at hy
    rcases List.mem_cons.1 hz with rfl | hz
    · exact hy.2
    · simp only [List.mem_filter, gtK, decide_eq_true_eq] at hz
      exact hc.trans _ _ _ hy.2 ((hc.flip _ _).2 hz.2)
theorem UpK.del {L : List T} (h : UpK ck key L) (k : κ) : UpK ck key (delK ck key k L) := h.filter _
theorem UpK.put (hc : Cmp ck) {L : List T} (h : UpK ck key L) (x : T) : UpK ck key (putK ck key x L) := by
  unfold putK; split
  · exact h
  · exact h.ins hc x

theorem UpK.inj (hc : Cmp ck) {L : List T} (h : UpK ck key L) {a b : T} (ha : a ∈ L) (hb : b ∈ L) (e : key a = key b) : a = b := by
  obtain ⟨i, hi, rfl⟩ := List.mem_iff_getElem.1 ha
  obtain ⟨j, hj, rfl⟩ := List.mem_iff_getElem.1 hb
  rcases Nat.lt_trichotomy i j with hl | rfl | hl
  · have := List.pairwise_iff_getElem.1 h i j hi hj hl
    rw [e, hc.self] at this; omega
  · rfl
  · have := List.pairwise_iff_getElem.1 h j i hj hi hl
    rw [e, hc.self] at this; omega

theorem getK_iff (hc : Cmp ck) {L : List T} (h : UpK ck key L) {k : κ} {x : T} : getK ck key k L = some x ↔ x ∈ L ∧ key x = k := by
  constructor
  · intro e
    have h1 := List.mem_of_find?_eq_some e
    have h2 := List.find?_some e
    exact ⟨h1, (hc.zero _ _).1 (by simpa [eqK] using h2)⟩
  · rintro ⟨hx, e⟩
    obtain ⟨i, hi, rfl⟩ := List.mem_iff_getElem.1 hx
    exact getK_at hc h hi e
theorem getK_none (hc : Cmp ck) {L : List T} {k : κ} : getK ck key k L = none ↔ ∀ x ∈ L, key x ≠ k := by
  unfold getK
  rw [List.find?_eq_none]
  simp only [eqK, decide_eq_true_eq, hc.zero, ne_eq]

/-- The same members in the same order. -/
theorem UpK.ext (hc : Cmp ck) : ∀ {L L' : List T}, UpK ck key L → UpK ck key L' → (∀ x, x ∈ L ↔ x ∈ L') → L = L'
  | [], [], _, _, _ => rfl
  | [], y :: L', _, _, h => absurd ((h y).2 (by simp)) (by simp)
  | x :: L, [], _, _, h => absurd ((h x).1 (by simp)) (by simp)
  | x :: L, y :: L', h1, h2, h => by
    have h1' := List.pairwise_cons.1 h1
    have h2' := List.pairwise_cons.1 h2
    have exy : x = y := by
      rcases List.mem_cons.1 ((h x).1 (by simp)) with e | hx
      · exact e
      · rcases List.mem_cons.1 ((h y).2 (by simp)) with e | hy
        · exact e.symm
        · have a1 := h2'.1 x hx
          have a2 := h1'.1 y hy
          have := (hc.flip _ _).1 a1
          omega
    subst exy
    congr 1
    refine UpK.ext hc h1'.2 h2'.2 fun z => ?_
    have hz := h z
    simp only [List.mem_cons] at hz
    constructor
    · intro hm
      rcases hz.1 (.inr hm) with e | hm'
      · subst e
        have := h1'.1 z hm
        rw [hc.self] at this; omega
      · exact hm'
    · intro hm
      rcases hz.2 (.inr hm) with e | hm'
      · subst e
        have := h2'.1 z hm
        rw [hc.self] at this; omega
      · exact hm'

theorem insK_len {x : T} {L : List T} : (insK ck key x L).length ≤ L.length + 1 := by
  have h : ∀ M : List T, (M.filter (ltK ck key (key x))).length + (M.filter (gtK ck key (key x))).length ≤ M.length := by
    intro M
    induction M with
    | nil => simp
    | cons y M ih =>
      simp only [List.filter_cons]
      by_cases h1 : ltK ck key (key x) y = true
      · have h2 : gtK ck key (key x) y = false := by
          simp only [ltK, decide_eq_true_eq] at h1; simp [gtK]; omega
        simp only [h1, h2, if_true, List.length_cons]; simp; omega
      · simp only [Bool.not_eq_true] at h1
        simp only [h1, Bool.false_eq_true, if_false]
        split
        · simp only [List.length_cons]; omega
        · simp only [List.length_cons]; omega
  have := h L
  unfold insK
  simp only [List.length_append, List.length_cons]; omega
theorem putK_len {x : T} {L : List T} : (putK ck key x L).length ≤ L.length + 1 := by
  unfold putK; split
  · omega
  · exact insK_len
theorem delK_len {k : κ} {L : List T} : (delK ck key k L).length ≤ L.length := List.length_filter_le _ _
end

section
variable {S T κ : Type} {ck : κ → κ → Int} {key : T → κ}
theorem UpK.map {f : S → T} {L : List S} (h : UpK ck (fun x => key (f x)) L) : UpK ck key (L.map f) := by unfold UpK; rw [List.pairwise_map]; exact h
theorem getK_map {f : S → T} {L : List S} {k : κ} : getK ck key k (L.map f) = (getK ck (fun x => key (f x)) k L).map f := by unfold getK; rw [List.find?_map]; rfl
theorem insK_map {f : S → T} {L : List S} {x : S} : insK ck key (f x) (L.map f) = (insK ck (fun x => key (f x)) x L).map f := by
  unfold insK
  rw [List.filter_map, List.filter_map, List.map_append, List.map_cons]; rfl
theorem delK_map {f : S → T} {L : List S} {k : κ} : delK ck key k (L.map f) = (delK ck (fun x => key (f x)) k L).map f := by
  unfold delK
  rw [List.filter_map]; rfl
theorem UpK.split (hc : Cmp ck) {L : List T} (hu : UpK ck key L) {x : T} (hx : x ∈ L) : insK ck key x L = L := by
  refine UpK.ext hc (hu.ins hc x) hu fun y => ?_
  rw [mem_insK hc]
  constructor
  · rintro (rfl | ⟨h, _⟩)
    · exact hx
    · exact h
  · intro h
    by_cases e : key y = key x
    · exact .inl (hu.inj hc h hx e)
    · exact .inr ⟨h, e⟩
theorem insK_perm (hc : Cmp ck) {L : List T} {x : T} (h : getK ck key (key x) L = none) : (insK ck key x L).Perm (x :: L) := by
  have hn := (getK_none hc).1 h
  have e : L.filter (gtK ck key (key x)) = L.filter fun y => !ltK ck key (key x) y := List.filter_congr fun y hy => by
    have h0 := hn y hy
    rw [ne_eq, ← hc.zero] at h0
    simp only [gtK, ltK]
    by_cases h1 : ck (key y) (key x) < 0
    · simp [h1]; omega
    · simp [h1]; omega
  unfold insK
  rw [e]
  exact List.perm_middle.trans (List.Perm.cons x (List.filter_append_perm _ L))
/-- One behind all. -/
theorem putK_last (hc : Cmp ck) {F : List T} {y : T} (h : ∀ x ∈ F, ck (key x) (key y) < 0) : putK ck key y F = F ++ [y] := by
  have hn : getK ck key (key y) F = none := (getK_none hc).2 fun x hx e => by
    have := h x hx
    rw [e, hc.self] at this; omega
  rw [putK, hn]
  show insK ck key y F = _
  unfold insK
  have f1 : F.filter (ltK ck key (key y)) = F := List.filter_eq_self.2 fun x hx => by
    simp only [ltK, decide_eq_true_eq]; exact h x hx
  have f2 : F.filter (gtK ck key (key y)) = [] := List.filter_eq_nil_iff.2 fun x hx => by
    have := h x hx
    simp only [gtK, decide_eq_true_eq]; omega
  rw [f1, f2]
/-- One in its place, and another of its key. -/
theorem UpK.at_ (hc : Cmp ck) {L : List T} (hu : UpK ck key L) {x : T} (hx : x ∈ L) : ∃ A B, L = A ++ x :: B ∧ delK ck key (key x) L = A ++ B ∧ ∀ y, key y = key x → insK ck key y L = A ++ y :: B := by
  refine ⟨L.filter (ltK ck key (key x)), L.filter (gtK ck key (key x)), (hu.split hc hx).symm, ?_, fun y e => by unfold insK; rw [e]⟩
  conv => lhs; rw [← hu.split hc hx]
  unfold delK insK
  rw [List.filter_append, List.filter_cons]
  have h0 : eqK ck key (key x) x = true := by simp [eqK, hc.self]
  simp only [h0, Bool.not_true, Bool.false_eq_true, if_false]
  congr 1
  · exact List.filter_eq_self.2 fun y hy => by
      simp only [List.mem_filter, ltK, decide_eq_true_eq] at hy
      simp [eqK]; omega
  · exact List.filter_eq_self.2 fun y hy => by
      simp only [List.mem_filter, gtK, decide_eq_true_eq] at hy
      simp [eqK]; omega
end

/-- Numbers. -/
def cmpI (a b : Int) : Int := if a < b then -1 else if b < a then 1 else 0
theorem cmpI_ok : Cmp cmpI := ⟨fun a b => by unfold cmpI; split <;> (try split) <;> omega, fun a b => by unfold cmpI; repeat' split <;> omega, fun a b d => by unfold cmpI; repeat' split <;> omega⟩
theorem cmpI_lt {a b : Int} : cmpI a b < 0 ↔ a < b := by unfold cmpI; split <;> (try split) <;> omega
theorem subI_ok : Cmp fun a b : Int => a - b := ⟨fun a b => by omega, fun a b => by omega, fun a b d => by omega⟩

/-! ### a set, as a part of the memory -/
def SetAt (Ts e : TypeId) (sz : Nat) (b : Nat) (rows : List (List PV)) : Asn := fun μ => ∃ F, SetIn Ts e sz μ b rows F

theorem SetAt.split {Ts e : TypeId} {sz b : Nat} {rows : List (List PV)} {L : List Asn} {μ : Mem} (hO : Ow (SetAt Ts e sz b rows :: L) μ) : ∃ F, SetIn Ts e sz μ b rows F ∧ ∀ {μ' : Mem} {rows' : List (List PV)} {F' : List Nat}, Mv μ μ' F F' → SetIn Ts e sz μ' b rows' F' → Ow (SetAt Ts e sz b rows' :: L) μ' := by
  obtain ⟨μ1, μ2, hs, rfl, ⟨F, h⟩, hL⟩ := hO
  refine ⟨F, h.same fun x hx => ?_, fun {μ' rows' F'} hm h' => ?_⟩
  · cases hy : μ1 x with
    | none => exact absurd hy (h.at_.2 x hx)
    | some o => rw [Mem.or_left hy]
  · exact Ow.mv (A := fun _ => True) ⟨μ1, μ2, hs, rfl, h.at_.2, hL⟩ hm fun ν hν => ⟨F', h'.same hν⟩

theorem rowsLenK {T : Type} {pv : T → List PV} {sz : Nat} (h : ∀ x, (pv x).length = sz) (L : List T) : ∀ r ∈ L.map pv, r.length = sz := fun r hr => by
  obtain ⟨x, _, rfl⟩ := List.mem_map.1 hr; exact h x
theorem rowsCellK {T : Type} {pv : T → List PV} (h : ∀ x, allCell (pv x) = true) (L : List T) : allCell (L.map pv).flatten = true := by
  unfold allCell
  rw [List.all_eq_true]
  intro x hx
  obtain ⟨r, hr, hx⟩ := List.mem_flatten.1 hx
  obtain ⟨y, _, rfl⟩ := List.mem_map.1 hr
  exact List.all_eq_true.1 (h y) x hx

/-! ### making room, closing up -/
section
variable {T : Type} {pv : T → List PV}
theorem insLenK (L : List T) (j : Nat) (y : T) : (L.take j ++ y :: L.drop j).length = L.length + 1 := by
  rw [List.length_append, List.length_cons, List.length_take, List.length_drop]; omega
theorem insStepK (L : List T) (j : Nat) (y : T) (h0 : 0 < j) (hj : j ≤ L.length) : ((L.take j ++ y :: L.drop j).map pv).set j (pv (L[j - 1]'(by omega))) = (L.take (j - 1) ++ (L[j - 1]'(by omega)) :: L.drop (j - 1)).map pv := by
  have e : L.drop (j - 1) = L[j - 1]'(by omega) :: L.drop j := by
    rw [List.drop_eq_getElem_cons (by omega)]; congr 2; omega
  have e2 : L.take j = L.take (j - 1) ++ [L[j - 1]'(by omega)] := by
    have := List.take_add_one (l := L) (i := j - 1)
    rw [show j - 1 + 1 = j by omega, List.getElem?_eq_getElem (by omega)] at this
    exact this
  have hlen : (L.take j).length = j := by rw [List.length_take]; omega
  rw [List.map_append, List.map_cons, List.set_append_right _ _ (by simp; omega)]
  simp only [List.length_map, hlen, Nat.sub_self, List.set_cons_zero]
  rw [e2, e, List.map_append, List.append_assoc, List.map_append]
  rfl
theorem insEndK (L : List T) (j : Nat) (x y : T) (hj : j ≤ L.length) : ((L.take j ++ y :: L.drop j).map pv).set j (pv x) = (L.take j ++ x :: L.drop j).map pv := by
  have hlen : (L.take j).length = j := by rw [List.length_take]; omega
  rw [List.map_append, List.map_cons, List.set_append_right _ _ (by simp; omega)]
  simp only [List.length_map, hlen, Nat.sub_self, List.set_cons_zero]
  rw [List.map_append, List.map_cons]
theorem insAtK (L : List T) (j : Nat) (y : T) (h0 : 0 < j) (hj : j ≤ L.length) : ((L.take j ++ y :: L.drop j).map pv)[j - 1]? = some (pv (L[j - 1]'(by omega))) := by
  rw [List.getElem?_map, List.getElem?_append_left (by rw [List.length_take]; omega), List.getElem?_take, if_pos (by omega), List.getElem?_eq_getElem (by omega)]
  rfl
/-- While what stood behind place k moves ahead: the first j - k of them moved. -/
def movK (L : List T) (k j : Nat) : List T := L.take k ++ (L.drop (k + 1)).take (j - k) ++ L.drop j
theorem movK0 (L : List T) (k : Nat) : movK L k k = L := by simp [movK, List.take_append_drop]
theorem movK_len {L : List T} {k j : Nat} (h1 : k ≤ j) (h2 : j < L.length) : (movK L k j).length = L.length := by
  simp only [movK, List.length_append, List.length_take, List.length_drop]; omega
theorem movK_at {L : List T} {k j : Nat} (h1 : k ≤ j) (h2 : j + 1 < L.length) : (movK L k j)[j + 1]? = some (L[j + 1]'h2) := by
  unfold movK
  have hl : (L.take k ++ (L.drop (k + 1)).take (j - k)).length = j := by
    simp only [List.length_append, List.length_take, List.length_drop]; omega
  rw [List.getElem?_append_right (by omega), hl, List.getElem?_drop, List.getElem?_eq_getElem (by omega)]
  congr 2; omega
theorem movK_step {L : List T} {k j : Nat} (h1 : k ≤ j) (h2 : j + 1 < L.length) : (movK L k j).set j (L[j + 1]'h2) = movK L k (j + 1) := by
  unfold movK
  have hl : (L.take k ++ (L.drop (k + 1)).take (j - k)).length = j := by
    simp only [List.length_append, List.length_take, List.length_drop]; omega
  rw [List.set_append_right _ _ (by omega), hl, Nat.sub_self]
  have e1 : L.drop j = (L[j]'(by omega)) :: L.drop (j + 1) := List.drop_eq_getElem_cons (by omega)
  rw [e1, List.set_cons_zero]
  have e2 : (L.drop (k + 1)).take (j + 1 - k) = (L.drop (k + 1)).take (j - k) ++ [L[j + 1]'h2] := by
    rw [show j + 1 - k = j - k + 1 by omega, List.take_add_one, List.getElem?_drop, List.getElem?_eq_getElem (by omega)]
    simp only [Option.toList_some]
    congr 3; omega
  rw [e2]; simp
theorem movK_end {L : List T} {k : Nat} (hk : k < L.length) : movK L k (L.length - 1) = L.eraseIdx k ++ [L[L.length - 1]'(by omega)] := by
  unfold movK
  rw [List.eraseIdx_eq_take_drop_succ]
  have e1 : (L.drop (k + 1)).take (L.length - 1 - k) = L.drop (k + 1) := List.take_of_length_le (by simp; omega)
  have e2 : L.drop (L.length - 1) = [L[L.length - 1]'(by omega)] := by
    rw [List.drop_eq_getElem_cons (by omega)]
    congr 1
    exact List.drop_of_length_le (by omega)
  rw [e1, e2]
end

end Go.Eng
