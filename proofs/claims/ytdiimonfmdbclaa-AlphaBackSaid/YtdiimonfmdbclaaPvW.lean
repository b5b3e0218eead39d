import Derived.Test.YtdiimonfmdbclaaPvS
import Derived.Test.YtdiimonfmdbclaaEngV
/-
  Memory in parts: each part by itself, the rest does not matter.
-/
namespace Go.Eng
open Go.RowKit
set_option linter.unusedVariables false
set_option linter.unusedSimpArgs false
set_option linter.unnecessarySimpa false

abbrev Asn := Mem → Prop

/-- The memory falls into these parts, and something else. -/
def Ow : List Asn → Mem → Prop
  | [], _ => True
  | A :: L, μ => ∃ μ1 μ2, Mem.sep μ1 μ2 ∧ μ = μ1.or μ2 ∧ A μ1 ∧ Ow L μ2

theorem Mem.sep.symm {μ ν : Mem} (h : μ.sep ν) : ν.sep μ := fun b => (h b).symm
theorem Mem.or_comm {μ ν : Mem} (h : μ.sep ν) : μ.or ν = ν.or μ := by
  funext b
  unfold Mem.or
  rcases h b with e | e <;> rw [e] <;> cases hx : μ b <;> cases hy : ν b <;> simp_all
theorem Mem.or_assoc (a b c : Mem) : (a.or b).or c = a.or (b.or c) := by
  funext x
  unfold Mem.or
  cases a x <;> rfl
theorem Mem.sep_or {a b c : Mem} : a.sep (b.or c) ↔ a.sep b ∧ a.sep c := by
  constructor
  · intro h
    refine ⟨fun x => ?_, fun x => ?_⟩
    · rcases h x with e | e
      · exact .inl e
      · right
        cases hb : b x with
        | none => rfl
        | some o => rw [Mem.or_left hb] at e; cases e
    · rcases h x with e | e
      · exact .inl e
      · right
        cases hb : b x with
        | none => rw [Mem.or_right hb] at e; exact e
        | some o => rw [Mem.or_left hb] at e; cases e
  · rintro ⟨h1, h2⟩ x
    rcases h1 x with e | e
    · exact .inl e
    · rcases h2 x with e' | e'
      · exact .inl e'
      · right; rw [Mem.or_right e]; exact e'
theorem Mem.or_sep {a b c : Mem} : (a.or b).sep c ↔ a.sep c ∧ b.sep c := by
  constructor
  · intro h
    have := Mem.sep_or.1 h.symm
    exact ⟨this.1.symm, this.2.symm⟩
  · rintro ⟨h1, h2⟩
    exact (Mem.sep_or.2 ⟨h1.symm, h2.symm⟩).symm

/-- More memory does not matter. -/
theorem Ow.mono : ∀ {L : List Asn} {μ μ' : Mem}, (∀ b o, μ b = some o → μ' b = some o) → Ow L μ → Ow L μ'
  | [], _, _, _, _ => trivial
  | A :: L, μ, μ', h, hO => by
    obtain ⟨μ1, μ2, hs, rfl, hA, hL⟩ := hO
    refine ⟨μ1, fun b => match μ1 b with | some _ => none | none => μ' b, fun b => ?_, ?_, hA, Ow.mono (fun b o hb => ?_) hL⟩
    · cases hb : μ1 b with
      | none => exact .inl rfl
      | some o => exact .inr (by simp [hb])
    · funext b
      cases hb : μ1 b with
      | none => rw [Mem.or_right hb]; simp [hb]
      | some o => rw [Mem.or_left hb]; exact h b o (Mem.or_left hb)
    · have hn : μ1 b = none := (hs b).resolve_right (by rw [hb]; simp)
      simp only [hn]
      exact h b o (by rw [Mem.or_right hn]; exact hb)

theorem Ow.drop {A : Asn} {L : List Asn} {μ : Mem} (h : Ow (A :: L) μ) : Ow L μ := by
  obtain ⟨μ1, μ2, hs, rfl, _, hL⟩ := h
  exact hL.mono fun b o hb => by rw [Mem.or_right ((hs b).resolve_right (by rw [hb]; simp))]; exact hb

theorem Ow.imp {A B : Asn} {L : List Asn} {μ : Mem} (h : Ow (A :: L) μ) (hi : ∀ μ, A μ → B μ) : Ow (B :: L) μ := by
  obtain ⟨μ1, μ2, hs, e, hA, hL⟩ := h
  exact ⟨μ1, μ2, hs, e, hi _ hA, hL⟩

theorem Ow.tail {A : Asn} {L L' : List Asn} {μ : Mem} (h : Ow (A :: L) μ) (hi : ∀ μ, Ow L μ → Ow L' μ) : Ow (A :: L') μ := by
  obtain ⟨μ1, μ2, hs, e, hA, hL⟩ := h
  exact ⟨μ1, μ2, hs, e, hA, hi _ hL⟩

theorem Ow.swap {A B : Asn} {L : List Asn} {μ : Mem} (h : Ow (A :: B :: L) μ) : Ow (B :: A :: L) μ := by
  obtain ⟨μ1, _, hs, rfl, hA, μ2, μ3, hs2, rfl, hB, hL⟩ := h
  obtain ⟨h12, h13⟩ := Mem.sep_or.1 hs
  exact ⟨μ2, μ1.or μ3, Mem.sep_or.2 ⟨h12.symm, hs2⟩, by rw [← Mem.or_assoc, Mem.or_comm h12, Mem.or_assoc], hB, μ1, μ3, h13, rfl, hA, hL⟩

/-- One of the parts, ahead. -/
theorem Ow.at : ∀ {L : List Asn} (i : Nat) {A : Asn} {μ : Mem}, L[i]? = some A → Ow L μ → Ow (A :: L.eraseIdx i) μ
  | [], i, A, μ, h, _ => by simp at h
  | B :: L, 0, A, μ, h, hO => by
    simp only [List.getElem?_cons_zero, Option.some.injEq] at h
    subst h; exact hO
  | B :: L, i + 1, A, μ, h, hO => by
    simp only [List.getElem?_cons_succ] at h
    exact (hO.tail fun μ h' => Ow.at i h h').swap

theorem Ow.back : ∀ {L : List Asn} (i : Nat) {A : Asn} {μ : Mem}, i < L.length → Ow (A :: L.eraseIdx i) μ → Ow (L.set i A) μ
  | [], i, A, μ, h, _ => by simp at h
  | B :: L, 0, A, μ, h, hO => hO
  | B :: L, i + 1, A, μ, h, hO => (Ow.swap hO).tail fun μ h' => Ow.back i (by simpa using h) h'

theorem lt_of_get {α : Type} {L : List α} {i : Nat} {a : α} (h : L[i]? = some a) : i < L.length := (List.getElem?_eq_some_iff.1 h).1

theorem Ow.nest : ∀ {L1 L : List Asn} {μ : Mem}, Ow (Ow L1 :: L) μ → Ow (L1 ++ L) μ
  | [], L, μ, h => h.drop
  | A :: L1, L, μ, h => by
    obtain ⟨_, μ2, hs, rfl, ⟨μa, μb, hs2, rfl, hA, hB⟩, hL⟩ := h
    obtain ⟨h1, h2⟩ := Mem.or_sep.1 hs
    exact ⟨μa, μb.or μ2, Mem.sep_or.2 ⟨hs2, h1⟩, Mem.or_assoc _ _ _, hA, Ow.nest ⟨μb, μ2, h2, rfl, hB, hL⟩⟩

theorem Ow.pack : ∀ {L1 L : List Asn} {μ : Mem}, Ow (L1 ++ L) μ → Ow (Ow L1 :: L) μ
  | [], L, μ, h => ⟨M0, μ, Mem.sep_M0 μ, (Mem.M0_or μ).symm, trivial, h⟩
  | A :: L1, L, μ, h => by
    obtain ⟨μa, _, hs, rfl, hA, h⟩ := h
    obtain ⟨μb, μ2, hs2, rfl, hB, hL⟩ := Ow.pack h
    obtain ⟨h1, h2⟩ := Mem.sep_or.1 hs
    exact ⟨μa.or μb, μ2, Mem.or_sep.2 ⟨h2, hs2⟩, (Mem.or_assoc _ _ _).symm, ⟨μa, μb, h1, rfl, hA, hB⟩, hL⟩

theorem Ow.append_tail {L1 L L' : List Asn} {μ : Mem} (h : Ow (L1 ++ L) μ) (hi : ∀ μ, Ow L μ → Ow L' μ) : Ow (L1 ++ L') μ := (h.pack.tail hi).nest
theorem Ow.append_head {L1 L1' L : List Asn} {μ : Mem} (h : Ow (L1 ++ L) μ) (hi : ∀ μ, Ow L1 μ → Ow L1' μ) : Ow (L1' ++ L) μ := (h.pack.imp hi).nest
theorem Ow.comm {L1 L : List Asn} {μ : Mem} (h : Ow (L1 ++ L) μ) : Ow (L ++ L1) μ := by
  have h1 : Ow (Ow L :: Ow L1 :: []) μ := (h.pack.tail fun μ h' => (Ow.pack (L := []) (by simpa using h'))).swap
  refine h1.nest.append_tail fun μ h' => ?_
  have := h'.nest
  simpa using this

theorem Ow.perm {L L' : List Asn} (hp : L.Perm L') {μ : Mem} : Ow L μ → Ow L' μ := by
  induction hp generalizing μ with
  | nil => exact id
  | cons A _ ih => exact fun h => h.tail fun _ h' => ih h'
  | swap A B l => exact fun h => h.swap
  | trans _ _ h1 h2 => exact fun h => h2 (h1 h)

/-- One out of the middle, and back. -/
theorem Ow.pick {P A B L : List Asn} {x : Asn} {μ : Mem} (h : Ow (P ++ ((A ++ x :: B) ++ L)) μ) : Ow (x :: (P ++ ((A ++ B) ++ L))) μ := by
  refine h.perm ?_
  have e1 : P ++ ((A ++ x :: B) ++ L) = (P ++ A) ++ x :: (B ++ L) := by simp
  have e2 : P ++ ((A ++ B) ++ L) = (P ++ A) ++ (B ++ L) := by simp
  rw [e1, e2]; exact List.perm_middle
theorem Ow.unpick {P A B L : List Asn} {x : Asn} {μ : Mem} (h : Ow (x :: (P ++ ((A ++ B) ++ L))) μ) : Ow (P ++ ((A ++ x :: B) ++ L)) μ := by
  refine h.perm ?_
  have e1 : P ++ ((A ++ x :: B) ++ L) = (P ++ A) ++ x :: (B ++ L) := by simp
  have e2 : P ++ ((A ++ B) ++ L) = (P ++ A) ++ (B ++ L) := by simp
  rw [e1, e2]; exact List.perm_middle.symm
theorem Ow.mid {L1 L : List Asn} {A : Asn} {μ : Mem} (h : Ow (L1 ++ A :: L) μ) : Ow (A :: (L1 ++ L)) μ := h.perm List.perm_middle
theorem Ow.unmid {L1 L : List Asn} {A : Asn} {μ : Mem} (h : Ow (A :: (L1 ++ L)) μ) : Ow (L1 ++ A :: L) μ := h.perm List.perm_middle.symm

theorem Ow.ex {α : Type} {A : α → Asn} {L : List Asn} {μ : Mem} (h : Ow ((fun μ => ∃ x, A x μ) :: L) μ) : ∃ x, Ow (A x :: L) μ := by
  obtain ⟨μ1, μ2, hs, e, ⟨x, hA⟩, hL⟩ := h
  exact ⟨x, μ1, μ2, hs, e, hA, hL⟩
theorem Ow.and {p : Prop} {A : Asn} {L : List Asn} {μ : Mem} (h : Ow ((fun μ => p ∧ A μ) :: L) μ) : p ∧ Ow (A :: L) μ := by
  obtain ⟨μ1, μ2, hs, e, ⟨hp, hA⟩, hL⟩ := h
  exact ⟨hp, μ1, μ2, hs, e, hA, hL⟩
theorem Ow.fact {p : Prop} {A : Asn} {L : List Asn} {μ : Mem} (h : Ow (A :: L) μ) (hp : ∀ μ, A μ → p) : p := by
  obtain ⟨μ1, μ2, hs, e, hA, hL⟩ := h
  exact hp _ hA

/-! ### cells -/
/-- Cells of one's own. -/
def Pt (b : Nat) (T : TypeId) (cs : List PV) : Asn := fun μ => μ b = some (.cells T cs)

theorem Ow.get {L : List Asn} {μ : Mem} (i : Nat) {b : Nat} {T : TypeId} {cs : List PV} (hO : Ow L μ) (hi : L[i]? = some (Pt b T cs)) : μ b = some (.cells T cs) := by
  obtain ⟨μ1, μ2, hs, rfl, hA, _⟩ := Ow.at i hi hO
  exact Mem.or_left hA

theorem Ow.rd {L : List Asn} {μ : Mem} (i : Nat) {b : Nat} {T : TypeId} {cs : List PV} {o n : Nat} (hO : Ow L μ) (hi : L[i]? = some (Pt b T cs)) (hl : o + n ≤ cs.length) : rdM μ b o n = some ((cs.drop o).take n) := rdM_at (hO.get i hi) hl

theorem Ow.put {L : List Asn} {μ : Mem} {b : Nat} {T T' : TypeId} {cs cs' : List PV} (hO : Ow (Pt b T cs :: L) μ) : Ow (Pt b T' cs' :: L) (μ.set b (some (.cells T' cs'))) := by
  obtain ⟨μ1, μ2, hs, rfl, hA, hL⟩ := hO
  have hn : μ2 b = none := (hs b).resolve_left (by rw [hA]; simp)
  refine ⟨μ1.set b (some (.cells T' cs')), μ2, fun x => ?_, ?_, Mem.set_same _ _ _, hL⟩
  · by_cases e : x = b
    · subst e; exact .inr hn
    · rw [Mem.set_ne _ _ e]; exact hs x
  · funext x
    by_cases e : x = b
    · subst e; rw [Mem.set_same, Mem.or_left (Mem.set_same _ _ _)]
    · rw [Mem.set_ne _ _ e]; unfold Mem.or; rw [Mem.set_ne _ _ e]

theorem Ow.st {L : List Asn} {μ : Mem} (i : Nat) {b : Nat} {T : TypeId} {cs : List PV} {o : Nat} {vs : List PV} {K : Mem → Prop} (hO : Ow L μ) (hi : L[i]? = some (Pt b T cs)) (hl : o + vs.length ≤ cs.length) (hk : ∀ μ', Ow (L.set i (Pt b T (wrL cs o vs))) μ' → K μ') : stM b o vs μ K :=
  ⟨T, cs, hO.get i hi, hl, hk _ (Ow.back i (lt_of_get hi) (Ow.at i hi hO).put)⟩

theorem Ow.new {L : List Asn} {μ : Mem} {b : Nat} (T : TypeId) (cs : List PV) (hO : Ow L μ) (hb : μ b = none) : Ow (Pt b T cs :: L) (μ.set b (some (.cells T cs))) := by
  refine ⟨M0.set b (some (.cells T cs)), μ, fun x => ?_, ?_, Mem.set_same _ _ _, hO⟩
  · by_cases e : x = b
    · subst e; exact .inr hb
    · rw [Mem.set_ne _ _ e]; exact .inl rfl
  · funext x
    by_cases e : x = b
    · subst e; rw [Mem.set_same, Mem.or_left (Mem.set_same _ _ _)]
    · rw [Mem.set_ne _ _ e, Mem.or_right (by rw [Mem.set_ne _ _ e]; rfl)]

theorem Ow.ne {L : List Asn} {μ : Mem} {b : Nat} {o : Option Ob} (hO : Ow L μ) (hb : μ b = none) : Ow L (μ.set b o) := hO.mono fun x o' hx => by
  have : x ≠ b := by rintro rfl; rw [hb] at hx; cases hx
  rw [Mem.set_ne _ _ this]; exact hx

/-! ### calls -/
/-- What a call does not look at stays. -/
theorem Ow.call {P : Program} {g : FuncId} {args : List PV} {A : Asn} {B : PV → Asn} {L : List Asn} {μ : Mem} {K : PV → Mem → Prop} (hO : Ow (A :: L) μ) (h : ∀ μ1, A μ1 → CallP P g args μ1 B) (hk : ∀ p μ', Ow (B p :: L) μ' → K p μ') : CallP P g args μ K := by
  obtain ⟨μ1, μ2, hs, rfl, hA, hL⟩ := hO
  refine (CallP.frame (h μ1 hA) hs).mono fun v μ' ⟨μ1', hs', e, hB⟩ => hk v μ' ?_
  subst e
  exact ⟨μ1', μ2, hs', rfl, hB, hL⟩

theorem CallVS.frame {P : Program} {f : PV} {args : List PV} {μ ν : Mem} {K : PV → Mem → Prop} (h : CallVS P f args μ K) (hs : μ.sep ν) : CallVS P f args (μ.or ν) fun v μ' => ∃ μ1, μ1.sep ν ∧ μ' = μ1.or ν ∧ K v μ1 := fun Z u fv vs hg hw hfv ha => by
  have hμ : ∀ b o, μ b = some o → (o.rw = true → u.pub b) ∧ ObOk Z u b o := fun b o e => hg.mem b o (Mem.or_left e)
  have hν : ∀ b o, ν b = some o → μ b = none ∧ (o.rw = true → u.pub b) ∧ ObOk Z u b o := fun b o e => by
    have hn : μ b = none := (hs b).resolve_right (by rw [e]; simp)
    exact ⟨hn, hg.mem b o (by rw [Mem.or_right hn]; exact e)⟩
  have hg1 : Good Z ⟨u.toWorld, fun b => ∃ o, μ b = some o ∧ o.rw = true⟩ μ := ⟨hg.zok, fun b o e => ⟨fun hr => ⟨o, e, hr⟩, (hμ b o e).2⟩⟩
  obtain ⟨F, hF, hcall⟩ := CallV_iff.1 (h Z ⟨u.toWorld, fun b => ∃ o, μ b = some o ∧ o.rw = true⟩ fv vs hg1 (fun b ⟨o, ho, _⟩ => hg1.ltM (by rw [ho]; simp)) hfv ha)
  refine CallV_iff.2 ⟨F, fun b hb => ?_, hcall.mono fun v lo w' hm hlo _ hp => ?_⟩
  · obtain ⟨o, ho, hr⟩ := hF b hb
    exact (hμ b o ho).1 hr
  · obtain ⟨Z', μ1, p, e, g', hr, hK⟩ := hp
    have hnb : ∀ b o, ν b = some o → w'.heap[b]? = u.heap[b]? ∧ Z' b = Z b ∧ μ1 b = none := fun b o hb => by
      obtain ⟨h1, _, h2⟩ := hν b o hb
      have hlt := h2.lt
      refine ⟨hm.keep b hlt fun hf => (by obtain ⟨o', ho', _⟩ := hF b hf; rw [h1] at ho'; cases ho'), ?_, ?_⟩
      · cases hz : Z b with
        | some C => exact e.zs b C hz h1
        | none =>
          cases hz' : Z' b with
          | none => rfl
          | some C =>
            rcases e.zn b (by rw [hz']; simp) with h3 | h3 | h3
            · exact absurd hz h3
            · exact absurd h1 h3
            · have : u.heap.size ≤ b := h3; omega
      · cases hx : μ1 b with
        | none => rfl
        | some o' =>
          rcases e.mn b (by rw [hx]; simp) with h3 | h3
          · exact absurd h1 h3
          · have : u.heap.size ≤ b := h3; omega
    refine ⟨Z', μ1.or ν, p, ⟨e.le, fun b C hb hn => ?_, fun b hb => ?_, fun b hb => ?_, e.lt⟩, ⟨g'.zok, fun b o ho => ?_⟩, hr, μ1, fun b => ?_, rfl, hK⟩
    · refine e.zs b C hb ?_
      cases hx : μ b with
      | none => rfl
      | some o => rw [Mem.or_left hx] at hn; cases hn
    · rcases e.zn b hb with h3 | h3 | h3
      · exact .inl h3
      · refine .inr (.inl ?_)
        cases hx : μ b with
        | none => exact absurd hx h3
        | some o => rw [Mem.or_left hx]; simp
      · exact .inr (.inr h3)
    · rcases Mem.or_ne hb with h3 | h3
      · rcases e.mn b h3 with h4 | h4
        · left
          cases hx : μ b with
          | none => exact absurd hx h4
          | some o => rw [Mem.or_left hx]; simp
        · exact .inr h4
      · cases hx : ν b with
        | none => exact absurd hx h3
        | some o => exact .inl (by rw [Mem.or_right (hν b o hx).1, hx]; simp)
    · cases hx : μ1 b with
      | some o' =>
        rw [Mem.or_left hx] at ho; cases ho
        obtain ⟨p1, p2⟩ := g'.mem b _ hx
        refine ⟨fun hrw => ?_, p2⟩
        rcases p1 hrw with ⟨o2, hy, hr2⟩ | p1
        · exact .inl ((hμ b o2 hy).1 hr2)
        · exact .inr p1
      | none =>
        rw [Mem.or_right hx] at ho
        obtain ⟨h1, h2, h3⟩ := hν b o ho
        obtain ⟨h4, h5, h6⟩ := hnb b o ho
        exact ⟨fun hrw => .inl (h2 hrw), h3.go e.le h5 h4⟩
    · cases hx : ν b with
      | none => exact .inr rfl
      | some o => exact .inl (hnb b o hx).2.2


theorem CallVP.frame {P : Program} {f : PV} {args : List PV} {μ ν : Mem} {K : PV → Mem → Prop} (h : CallVP P f args μ K) (hs : μ.sep ν) : CallVP P f args (μ.or ν) fun v μ' => ∃ μ1, μ1.sep ν ∧ μ' = μ1.or ν ∧ K v μ1 := by
  unfold CallVP at h ⊢
  split at h
  · exact h.frame hs
  · exact CallVS.frame h hs

/-- A function value is called with a part of the memory. -/
theorem Ow.callV {P : Program} {f : PV} {args : List PV} {A : Asn} {B : PV → Asn} {L : List Asn} {μ : Mem} {K : PV → Mem → Prop} (hO : Ow (A :: L) μ) (h : ∀ μ1, A μ1 → CallVP P f args μ1 B) (hk : ∀ p μ', Ow (B p :: L) μ' → K p μ') : CallVP P f args μ K := by
  obtain ⟨μ1, μ2, hs, rfl, hA, hL⟩ := hO
  refine (CallVP.frame (h μ1 hA) hs).mono fun v μ' ⟨μ1', hs', e, hB⟩ => hk v μ' ?_
  subst e
  exact ⟨μ1', μ2, hs', rfl, hB, hL⟩

/-- Something turned in its own place alone. -/
theorem Ow.mv {A : Asn} {L : List Asn} {μ μ' : Mem} {F F' : List Nat} {B : Asn} (hO : ∃ μ1 μ2, Mem.sep μ1 μ2 ∧ μ = μ1.or μ2 ∧ (∀ x ∈ F, μ1 x ≠ none) ∧ Ow L μ2) (hm : Mv μ μ' F F') (hB : ∀ ν, (∀ x ∈ F', ν x = μ' x) → B ν) : Ow (B :: L) μ' := by
  obtain ⟨μ1, μ2, hs, rfl, hF, hL⟩ := hO
  have h2 : ∀ x o, μ2 x = some o → μ' x = some o ∧ x ∉ F' := fun x o hx => by
    have h1 : μ1 x = none := (hs x).resolve_right (by rw [hx]; simp)
    have hm1 : (μ1.or μ2) x = some o := by rw [Mem.or_right h1]; exact hx
    have hn : x ∉ F := fun hf => hF x hf h1
    refine ⟨by rw [hm.keep x (by rw [hm1]; simp) hn]; exact hm1, fun hf => ?_⟩
    rcases hm.grow x hf with h | h
    · exact hn h
    · rw [hm1] at h; cases h
  refine ⟨fun x => match μ2 x with | some _ => none | none => μ' x, μ2, fun x => ?_, ?_, hB _ fun x hx => ?_, hL⟩
  · cases hx : μ2 x with
    | none => exact .inr rfl
    | some o => exact .inl (by simp [hx])
  · funext x
    cases hx : μ2 x with
    | none =>
      unfold Mem.or
      simp only [hx]
      cases μ' x <;> rfl
    | some o =>
      rw [Mem.or_right (by simp [hx]), hx]; exact (h2 x o hx).1
  · cases hx' : μ2 x with
    | none => simp [hx']
    | some o => exact absurd hx (h2 x o hx').2

/-- A function that touches nothing that was there, and what it made. -/
theorem CallP.q {P : Program} {g : FuncId} {args : List PV} {μ : Mem} {K K2 : PV → Mem → Prop} (h : CallP P g args M0 K) (hk : ∀ p μ', μ.sep μ' → K p μ' → K2 p μ') : CallQ P g args μ K2 := fun Z u vs hg hw ha => by
  obtain ⟨hc, hcall⟩ := h Z ⟨u.toWorld, fun _ => False⟩ vs ⟨hg.zok, fun b o e => by cases e⟩ (fun _ h => h.elim) ha
  refine ⟨hc, hcall.mono' fun v lo w' _ _ hp => ?_⟩
  obtain ⟨Z', μ', p, e, g', hr, hK⟩ := hp
  refine ⟨Z', μ', p, e, g', hr, hk p μ' (fun b => ?_) hK⟩
  cases hx : μ b with
  | none => exact .inl rfl
  | some o =>
    right
    cases hy : μ' b with
    | none => rfl
    | some o' =>
      have hlt := hg.ltM (b := b) (by rw [hx]; simp)
      rcases e.mn b (by rw [hy]; simp) with h1 | h1
      · exact absurd rfl h1
      · have : u.heap.size ≤ b := h1
        omega
theorem Ow.side {L M : List Asn} {μ ν : Mem} (h : Ow L μ) (hs : μ.sep ν) (k : Ow M ν) : Ow (M ++ L) (μ.or ν) := Ow.nest ⟨ν, μ, hs.symm, Mem.or_comm hs, k, h⟩

/-! ### lists that grow -/
/-- A list under construction. -/
def Tip (fl : Fl) (n size : Nat) : Asn := TipIn fl n size

theorem Ow.nil {L : List Asn} {μ : Mem} (hO : Ow L μ) {n size : Nat} {fl : Fl} (h : fl = .nil ∨ fl = .nr) : Ow (Tip fl n size :: L) μ :=
  ⟨M0, μ, Mem.sep_M0 μ, (Mem.M0_or μ).symm, by rcases h with rfl | rfl <;> exact trivial, hO⟩

theorem Ow.app {L : List Asn} {μ : Mem} {size bytes : Nat} {fl : Fl} {n : Nat} {rows new : List (List PV)} {K : Fl → Mem → Prop} (hO : Ow (Tip fl n size :: L) μ) (hn : rows.length = n) (hb : (n + new.length) * bytes ≤ 140737488355328) (h62 : n + new.length < 4611686018427387904)
    (hk : ∀ fl' μ', Ow (Tip fl' (n + new.length) size :: L) μ' → K fl' μ') : appL false size bytes fl rows new μ K := by
  subst hn
  obtain ⟨μ1, μ2, hs, rfl, hT, hL⟩ := hO
  have hT' : TipIn fl rows.length size (μ1.or μ2) := by
    cases fl with
    | tip b c => exact Mem.or_left hT
    | sh => exact hT
    | nr => trivial
    | nil => trivial
  refine appL.go hT' hb h62 fun fl' μ' h1 h2 => hk fl' μ' ?_
  have h3 : ∀ x o, μ2 x = some o → μ' x = some o ∧ ¬ fl'.at x := fun x o hx => by
    have hx1 : μ1 x = none := (hs x).resolve_right (by rw [hx]; simp)
    refine h2 x o (by rw [Mem.or_right hx1]; exact hx) fun hat => ?_
    cases fl with
    | tip b c =>
      have : x = b := hat
      subst this
      have : μ1 x = _ := hT
      rw [this] at hx1; cases hx1
    | sh => exact hat
    | nr => exact hat
    | nil => exact hat
  refine ⟨fun x => match μ2 x with | some _ => none | none => μ' x, μ2, fun x => ?_, ?_, ?_, hL⟩
  · cases hx : μ2 x with
    | none => exact .inr rfl
    | some o => exact .inl (by simp [hx])
  · funext x
    cases hx : μ2 x with
    | none =>
      unfold Mem.or
      simp only [hx]
      cases μ' x <;> rfl
    | some o => rw [Mem.or_right (by simp [hx]), hx]; exact (h3 x o hx).1
  · show TipIn _ _ _ _
    cases fl' with
    | tip b c =>
      have hb' : μ' b = _ := h1
      cases hx : μ2 b with
      | none => simp only [TipIn, hx]; exact hb'
      | some o => exact absurd rfl (h3 b o hx).2
    | sh => exact h1
    | nr => trivial
    | nil => trivial

/-! ### slices of one's own -/
/-- A slice, and its own cells. -/
def Vec (e : TypeId) (sz : Nat) (p : PV) (rows : List (List PV)) : Asn := fun μ => ∃ F, OwnV e sz μ p rows F

theorem Vec.nil (e : TypeId) (sz : Nat) {L : List Asn} {μ : Mem} (hO : Ow L μ) : Ow (Vec e sz (.raw (.slice none 0 0)) [] :: L) μ := ⟨M0, μ, Mem.sep_M0 μ, (Mem.M0_or μ).symm, ⟨[], .inl ⟨rfl, rfl, rfl⟩⟩, hO⟩

theorem Vec.split {e : TypeId} {sz : Nat} {p : PV} {rows : List (List PV)} {L : List Asn} {μ : Mem} (hO : Ow (Vec e sz p rows :: L) μ) : ∃ F, OwnV e sz μ p rows F ∧ ∃ μ1 μ2, Mem.sep μ1 μ2 ∧ μ = μ1.or μ2 ∧ (∀ x ∈ F, μ1 x ≠ none) ∧ Ow L μ2 := by
  obtain ⟨μ1, μ2, hs, rfl, ⟨F, h⟩, hL⟩ := hO
  refine ⟨F, h.same fun x hx => ?_, μ1, μ2, hs, rfl, h.at_, hL⟩
  cases hy : μ1 x with
  | none => exact absurd hy (h.at_ x hx)
  | some o => rw [Mem.or_left hy]

theorem Vec.app {e : TypeId} {sz : Nat} {p : PV} {rows : List (List PV)} {L : List Asn} {μ : Mem} (hO : Ow (Vec e sz p rows :: L) μ) (hr : ∀ r ∈ rows, r.length = sz) : ∃ a c, p = .raw (.slice a rows.length c) ∧
    ∀ (r : List PV) (bytes : Nat) (K : Option Addr → Nat → Nat → Mem → Prop), r.length = sz → allCell r = true → (rows.length + 1) * bytes ≤ 140737488355328 → rows.length + 1 < 4611686018427387904 →
      (∀ b' c' μ2, Ow (Vec e sz (.raw (.slice (some ⟨b', 0, none⟩) (rows.length + 1) c')) (rows ++ [r]) :: L) μ2 → K (some ⟨b', 0, none⟩) (rows.length + 1) c' μ2) →
      appR sz bytes e a rows.length c (.list sz .nr [r]) μ K := by
  obtain ⟨F, h, hsp⟩ := Vec.split hO
  obtain ⟨a, c, rfl, happ⟩ := h.app hr
  refine ⟨a, c, rfl, fun r bytes K hl hcl hb h62 hK => happ r bytes K hl hcl hb h62 fun b' c' rest μ2 hb' hrest hc' hm => hK b' c' μ2 ?_⟩
  refine Ow.mv (A := fun _ => True) hsp hm fun ν hν => ⟨[b'], .inr ⟨b', c', rest, by simp, rfl, ?_, by simpa using hrest, by simpa using hc'⟩⟩
  rw [hν b' (by simp)]; exact hb'

/-! ### sequences -/
/-- More memory does not matter to it. -/
def UpC (A : Asn) : Prop := ∀ μ μ' : Mem, (∀ b o, μ b = some o → μ' b = some o) → A μ → A μ'
theorem UpC.own (L : List Asn) : UpC (Ow L) := fun _ _ h hO => hO.mono h
theorem UpC.ex {α : Type} {A : α → Asn} (h : ∀ x, UpC (A x)) : UpC fun μ => ∃ x, A x μ := fun μ μ' hs ⟨x, hx⟩ => ⟨x, h x μ μ' hs hx⟩
theorem UpC.and {p : Prop} {A : Asn} (h : UpC A) : UpC fun μ => p ∧ A μ := fun μ μ' hs ⟨hp, hx⟩ => ⟨hp, h μ μ' hs hx⟩
theorem UpC.one {A : Asn} (h : UpC A) {μ : Mem} (hO : Ow [A] μ) : A μ := by
  obtain ⟨μ1, μ2, hs, rfl, hA, _⟩ := hO
  exact h μ1 _ (fun b o hb => Mem.or_left hb) hA
theorem Ow.one {A : Asn} {μ : Mem} (h : A μ) : Ow [A] μ := ⟨μ, M0, (Mem.sep_M0 μ).symm, (Mem.or_M0 μ).symm, h, trivial⟩
theorem Ow.ones {L : List Asn} {μ : Mem} (h : Ow [Ow L] μ) : Ow L μ := (UpC.own L).one h

/-- A record of the machine's. -/
def Rc (l : Nat) (o : Ob) : Asn := fun μ => μ l = some o

/-- Calling f with a function y calls y with these, one behind the other, till it says no; A is what f asks of the memory, A' what it leaves of it ahead of the first. -/
def SeqO (P : Program) (f : PV) (items : List (List PV)) (A A' : Asn) : Prop :=
  (∃ g a b, f = .fn (.func g) a b) ∧ ∀ (fy : Fn) (ya yb : List PV) (I : Nat → Asn) (S : Asn) (C : Asn) (μ : Mem), fnOk fy True → Ow [A, C] μ → (∀ μ', Ow [A', C] μ' → Ow [I 0] μ') →
    (∀ (k : Nat) (h : k < items.length) (μ : Mem), I k μ → CallVP P (.fn fy ya yb) items[k] μ fun v μ' => (v = pB true ∧ Ow [I (k + 1)] μ') ∨ (v = pB false ∧ Ow [S] μ')) →
    CallVP P f [.fn fy ya yb] μ fun _ μ' => Ow [I items.length] μ' ∨ Ow [S] μ'

theorem SeqO.mk {P : Program} {g : FuncId} {a b : List PV} {items : List (List PV)} {A A' : Asn}
    (h : ∀ (fy : Fn) (ya yb : List PV) (I : Nat → Asn) (S : Asn) (C : Asn) (μ : Mem), fnOk fy True → Ow [A, C] μ → (∀ μ', Ow [A', C] μ' → Ow [I 0] μ') →
      (∀ (k : Nat) (h : k < items.length) (μ : Mem), I k μ → CallVP P (.fn fy ya yb) items[k] μ fun v μ' => (v = pB true ∧ Ow [I (k + 1)] μ') ∨ (v = pB false ∧ Ow [S] μ')) →
      CallP P g (a ++ [.fn fy ya yb] ++ b) μ fun _ μ' => Ow [I items.length] μ' ∨ Ow [S] μ') : SeqO P (.fn (.func g) a b) items A A' :=
  ⟨⟨g, a, b, rfl⟩, fun fy ya yb I S C μ hy h0 h1 hstep => h fy ya yb I S C μ hy h0 h1 hstep⟩

theorem SeqO.ofP {P : Program} {f : PV} {items : List (List PV)} (h : SeqP P f items) : SeqO P f items (fun _ => True) (fun _ => True) := by
  refine ⟨h.1, fun fy ya yb I S C μ hy hO h0 hstep => ?_⟩
  have hl : (items.map flatItem).length = items.length := by simp
  have := h.2 fy ya yb (fun k => Ow [I k]) (Ow [S]) μ hy (fun μ' e => by subst e; exact h0 _ hO) (fun k hk vs μ1 μ2 hI hit => ?_)
  · rw [hl] at this; exact this
  · have hk' : k < items.length := by simpa using hk
    simp only [List.getElem_map, flatItem] at hit
    obtain ⟨rfl, rfl⟩ := hit
    refine Ow.callV hI (fun ν hν => hstep k hk' ν hν) fun p μ' hO => ?_
    obtain ⟨ν1, ν2, hs, rfl, (⟨rfl, h1⟩ | ⟨rfl, h1⟩), _⟩ := hO
    · exact .inl ⟨rfl, h1.mono fun b o hb => Mem.or_left hb⟩
    · exact .inr ⟨rfl, h1.mono fun b o hb => Mem.or_left hb⟩

/-- A part whose posts are one of two. -/
theorem Ow.split2 {p q : Prop} {A B : Asn} {L : List Asn} {μ : Mem} (h : Ow ((fun μ => (p ∧ Ow [A] μ) ∨ (q ∧ Ow [B] μ)) :: L) μ) : (p ∧ Ow (A :: L) μ) ∨ (q ∧ Ow (B :: L) μ) := by
  obtain ⟨μ1, μ2, hs, rfl, (⟨hp, h1⟩ | ⟨hp, h1⟩), hL⟩ := h
  · exact .inl ⟨hp, Ow.nest (L1 := [A]) ⟨μ1, μ2, hs, rfl, h1, hL⟩⟩
  · exact .inr ⟨hp, Ow.nest (L1 := [B]) ⟨μ1, μ2, hs, rfl, h1, hL⟩⟩

theorem RangeP.own {P : Program} {f : PV} {items : List (List PV)} {A A' : Asn} {L : List Asn} {body : List PV → (Option Code → Mem → Prop) → Mem → Prop} {K : Option Code → Mem → Prop} {μ : Mem} (hs : SeqO P f items A A') (hO : Ow (A :: L) μ)
    (I : Nat → Asn) (S : Code → Asn) (hI : ∀ k, UpC (I k)) (hS : ∀ c, UpC (S c)) (h0 : ∀ μ', Ow (A' :: L) μ' → I 0 μ')
    (hstep : ∀ (k : Nat) (h : k < items.length) (μ : Mem) (R : Option Code → Mem → Prop), I k μ → (∀ μ', I (k + 1) μ' → R none μ') → (∀ c μ', S c μ' → R (some c) μ') → body items[k] R μ)
    (hend : ∀ μ, I items.length μ → K none μ) (hstop : ∀ c μ, S c μ → K (some c) μ) : RangeP P f body K μ := by
  obtain ⟨hf, hs⟩ := hs
  refine ⟨hf, fun l rec hl hy => ?_⟩
  have cut : ∀ {ν : Mem} {o : Ob} {M : List Asn}, Ow (Rc l o :: M) ν → ν l = some o ∧ Ow M (ν.set l none) := fun {ν o M} h => by
    obtain ⟨ν1, ν2, hsep, rfl, hR, hM⟩ := h
    refine ⟨Mem.or_left hR, hM.mono fun b o' hb => ?_⟩
    have hb1 : ν1 b = none := (hsep b).resolve_right (by rw [hb]; simp)
    have hne : b ≠ l := by
      rintro rfl
      have : ν1 b = _ := hR
      rw [this] at hb1; cases hb1
    rw [Mem.set_ne _ _ hne, Mem.or_right hb1]; exact hb
  have glue : ∀ {ν : Mem} {o : Ob}, ν l = some o → ν = (ν.set l none).set l (some o) := fun {ν o} h => by
    rw [Mem.set_set, Mem.set_self h]
  have lift : ∀ {ν μ3 : Mem} {o : Ob} {ν1 ν2 : Mem}, μ3 l = none → ν1 = μ3.set l (some o) → Mem.sep ν1 ν2 → ν = ν1.or ν2 → ν l = some o ∧ ∀ b o', μ3 b = some o' → (ν.set l none) b = some o' := fun {ν μ3 o ν1 ν2} h1 h2 hsep e => by
    subst h2 e
    refine ⟨Mem.or_left (Mem.set_same _ _ _), fun b o' hb => ?_⟩
    have hne : b ≠ l := by rintro rfl; rw [h1] at hb; cases hb
    rw [Mem.set_ne _ _ hne]
    exact Mem.or_left (by rw [Mem.set_ne _ _ hne]; exact hb)
  refine (hs (.yield l) [] [] (fun k ν => ∃ μ3, μ3 l = none ∧ ν = μ3.set l (some (rec none)) ∧ I k μ3) (fun ν => ∃ c μ3, μ3 l = none ∧ ν = μ3.set l (some (rec (some c))) ∧ S c μ3) (Ow (Rc l (rec none) :: L)) _ trivial ?_ (fun μ' hO' => Ow.one ?_) ?_).mono ?_
  · have h1 : Ow (Rc l (rec none) :: A :: L) (μ.set l (some (rec none))) := by
      refine ⟨M0.set l (some (rec none)), μ, fun x => ?_, ?_, Mem.set_same _ _ _, hO⟩
      · by_cases e : x = l
        · subst e; exact .inr hl
        · rw [Mem.set_ne _ _ e]; exact .inl rfl
      · funext x
        by_cases e : x = l
        · subst e; rw [Mem.set_same, Mem.or_left (Mem.set_same _ _ _)]
        · rw [Mem.set_ne _ _ e, Mem.or_right (by rw [Mem.set_ne _ _ e]; rfl)]
    refine h1.swap.tail fun ν hν => Ow.one hν
  · have h1 : Ow (A' :: (Rc l (rec none) :: L)) μ' := hO'.tail fun ν hν => hν.ones
    obtain ⟨h2, h3⟩ := cut h1.swap
    exact ⟨_, Mem.set_same _ _ _, glue h2, h0 _ h3⟩
  · rintro k hk _ ⟨μ3, h1, rfl, hIk⟩
    refine (hy items[k] μ3 (fun p μ' => match p with | none => I (k + 1) μ' | some c => S c μ') h1 (hstep k hk μ3 _ hIk (fun μ' h => h) (fun c μ' h => h))).mono ?_
    rintro v μ2 ⟨p, μ4, rfl, h3, rfl, hR⟩
    cases p with
    | none => exact .inl ⟨rfl, Ow.one ⟨μ4, h3, rfl, hR⟩⟩
    | some c => exact .inr ⟨rfl, Ow.one ⟨c, μ4, h3, rfl, hR⟩⟩
  · rintro v ν (h | h)
    · obtain ⟨ν1, ν2, hsep, e, ⟨μ3, h1, h2, h3⟩, _⟩ := h
      obtain ⟨h4, h5⟩ := lift h1 h2 hsep e
      exact ⟨none, ν.set l none, Mem.set_same _ _ _, glue h4, hend _ (hI _ _ _ h5 h3)⟩
    · obtain ⟨ν1, ν2, hsep, e, ⟨c, μ3, h1, h2, h3⟩, _⟩ := h
      obtain ⟨h4, h5⟩ := lift h1 h2 hsep e
      exact ⟨some c, ν.set l none, Mem.set_same _ _ _, glue h4, hstop c _ (hS _ _ _ h5 h3)⟩

end Go.Eng
