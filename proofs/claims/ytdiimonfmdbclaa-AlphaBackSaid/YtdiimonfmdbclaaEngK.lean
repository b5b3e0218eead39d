import Derived.Test.YtdiimonfmdbclaaEngJ
/-
  The engine, eleventh part: what is carried over a join or a loop's head.
-/
namespace Go.Eng
open Go.RowKit

/-- Part of the way from the state ahead of a piece of code (st) to what is carried behind it (out of st1). -/
structure Mx (n : Nat) (fz ws : List Nat) (pend : Nat → Prop) (st st1 s : St) : Prop where
  slot : ∀ i, i < n → s.σ i = poison ∨ s.σ i = st1.σ i
  dD : ∀ k m, (k, m) ∈ s.D → (k, m) ∈ st1.D ∧ (¬ pend k → ∀ j, j < m → s.σ (gx k j) = poison ∨ s.σ (gx k j) = st1.σ (gx k j))
  fk : ∀ i, i < n → ∀ k o, s.σ i = fake k o → ∃ m, (k, m) ∈ s.D
  keep : ∀ i, i < n → i ∉ ws → s.σ i = st.σ i
  Dsub : ∀ x, x ∈ st.D → x ∈ s.D
  frz : ∀ k, k ∈ fz → ∀ m, (k, m) ∈ st.D → ∀ j, j < m → s.σ (gx k j) = st.σ (gx k j)

def boxIn (l : Live) (k : Nat) : Prop := ∃ ks, (k, Kd.box ks) ∈ l

theorem pois_ghost (σ : Fr) (ws : List Nat) (k j : Nat) : pois σ ws (gx k j) = σ (gx k j) := by
  have : Nat.blt (gx k j) 65536 = false := by
    cases h : Nat.blt (gx k j) 65536 with
    | false => rfl
    | true => have := blt_iff.1 h; have := gx_ge k j; omega
  simp only [pois, this, Bool.false_and, cond_false]

open Classical in
theorem pois_slot (σ : Fr) (ws : List Nat) (i : Nat) (hi : i < 65536) : pois σ ws i = if i ∈ ws then poison else σ i := by
  have e1 : Nat.blt i 65536 = true := blt_iff.2 hi
  by_cases hw : i ∈ ws
  · simp only [pois, e1, memN_iff.2 hw, Bool.and_true, cond_true, if_pos hw]
  · have : memN ws i = false := by cases hm : memN ws i with | false => rfl | true => exact absurd (memN_iff.1 hm) hw
    simp only [pois, this, Bool.and_false, cond_false, if_neg hw]

open Classical in
theorem scrapG_slot : ∀ (l : List (Nat × Nat)) (σ : Fr) (i : Nat), i < 65536 → scrapG σ l i = if (∃ m, (i, m) ∈ l) then fake i 0 else σ i
  | [], σ, i, _ => by simp [scrapG]
  | (k, m) :: l, σ, i, hi => by
    simp only [scrapG]
    rw [scrapG_slot l _ i hi]
    by_cases h : ∃ m, (i, m) ∈ l
    · rw [if_pos h, if_pos (by obtain ⟨m', h⟩ := h; exact ⟨m', by simp [h]⟩)]
    · rw [if_neg h, wrG_slot _ _ _ hi]
      by_cases e : i = k
      · subst e; rw [upd_same, if_pos ⟨m, by simp⟩]
      · rw [upd_ne _ _ e, if_neg]
        rintro ⟨m', hm⟩
        simp only [List.mem_cons, Prod.mk.injEq] at hm
        rcases hm with ⟨e', _⟩ | hm
        · exact e e'
        · exact h ⟨m', hm⟩

theorem scrapG_ghost : ∀ (l : List (Nat × Nat)) (σ : Fr) (k j : Nat), j < 65536 → k < 65536 → (∀ x ∈ l, x.1 < 65536 ∧ x.2 ≤ 65536) →
    (scrapG σ l (gx k j) = poison ∧ ∃ m, (k, m) ∈ l) ∨ scrapG σ l (gx k j) = σ (gx k j)
  | [], σ, k, j, _, _, _ => .inr rfl
  | (k', m) :: l, σ, k, j, hj, hk, hl => by
    simp only [scrapG]
    have hb := hl (k', m) (by simp)
    rcases scrapG_ghost l (wrG (upd σ k' (fake k' 0)) k' 0 (List.replicate m poison)) k j hj hk (fun x hx => hl x (by simp [hx])) with ⟨h, m', hm'⟩ | h
    · exact .inl ⟨h, m', by simp [hm']⟩
    · rw [h]
      by_cases e : k = k'
      · subst e
        by_cases hjm : j < m
        · have := wrG_at (σ := upd σ k (fake k 0)) (k := k) (List.replicate m poison) 0 j (by simpa using hjm) (by simpa using hb.2)
          rw [Nat.zero_add] at this
          rw [this]
          refine .inl ⟨?_, m, by simp⟩
          simp [List.getD_eq_getElem?_getD, hjm]
        · right
          rw [wrG_other, upd_ne]
          · have := gx_ge k j; omega
          · intro i _ hi e
            have := (gx_inj hj (by simp at hi; omega) e).2
            simp at hi; omega
      · right
        rw [wrG_other, upd_ne]
        · have := gx_ge k j; omega
        · intro i _ hi e'
          exact e (gx_inj hj (by simp at hi; omega) e').1

theorem scrapG_ghost_in : ∀ (l : List (Nat × Nat)) (σ : Fr) (k m j : Nat), (k, m) ∈ l → j < m → (∀ x ∈ l, x.1 < 65536 ∧ x.2 ≤ 65536) → scrapG σ l (gx k j) = poison
  | [], _, _, _, _, h, _, _ => by simp at h
  | (k', m') :: l, σ, k, m, j, h, hj, hl => by
    simp only [scrapG]
    by_cases hin : ∃ m'', (k, m'') ∈ l ∧ j < m''
    · obtain ⟨m'', hm, hj'⟩ := hin
      exact scrapG_ghost_in l _ k m'' j hm hj' (fun x hx => hl x (by simp [hx]))
    · simp only [List.mem_cons, Prod.mk.injEq] at h
      rcases h with ⟨rfl, rfl⟩ | h
      · have hb := hl (k, m) (by simp)
        rcases scrapG_ghost l (wrG (upd σ k (fake k 0)) k 0 (List.replicate m poison)) k j (by omega) hb.1 (fun x hx => hl x (by simp [hx])) with ⟨h, _⟩ | h
        · exact h
        · rw [h]
          have := wrG_at (σ := upd σ k (fake k 0)) (k := k) (List.replicate m poison) 0 j (by simpa using hj) (by simpa using hb.2)
          rw [Nat.zero_add] at this
          rw [this]
          simp [List.getD_eq_getElem?_getD, hj]
      · exact absurd ⟨m, h, hj⟩ hin

theorem scrapOk_spec {st : St} : ∀ {l : List (Nat × Nat)}, scrapOk st l = true → ∀ k m, (k, m) ∈ l → (k, m) ∈ st.D ∧ st.σ k = fake k 0
  | [], _, _, _, h => by simp at h
  | (k', m') :: l, h, k, m, hm => by
    simp only [scrapOk, Bool.and_eq_true, hasBox_iff] at h
    simp only [List.mem_cons, Prod.mk.injEq] at hm
    rcases hm with ⟨rfl, rfl⟩ | hm
    · refine ⟨h.1.1, ?_⟩
      have := h.1.2
      unfold isFake at this
      split at this
      · rename_i k2 o he
        simp only [Bool.and_eq_true, beq_iff] at this
        obtain ⟨rfl, rfl⟩ := this
        exact he
      · cases this
    · exact scrapOk_spec h.2 k m hm

theorem liveOk_spec {fz : List Nat} {D : List (Nat × Nat)} {c : Cut} (h : liveOk fz D c = true) :
    (∀ t ks, (t, Kd.box ks) ∈ c.live → t ∉ fz ∧ t < 65536 ∧ ks.length ≤ 65536) ∧ (∀ x ∈ c.live, x.1 < 65536) ∧ (∀ k m, (k, m) ∈ c.scrap → k ∉ fz ∧ k < 65536 ∧ (k, m) ∈ D) := by
  simp only [liveOk, Bool.and_eq_true, List.all_eq_true] at h
  obtain ⟨h1, h2⟩ := h
  refine ⟨fun t ks ht => ?_, fun x hx => ?_, fun k m hk => ?_⟩
  · have := h1 _ ht
    simp only [Bool.and_eq_true, Bool.not_eq_true', blt_iff, Nat.ble_eq] at this
    exact ⟨fun hf => (by rw [memN_iff.2 hf] at this; cases this.1.1), this.1.2, this.2⟩
  · obtain ⟨t, kd⟩ := x
    have := h1 _ hx
    cases kd <;> simp only [Bool.and_eq_true, blt_iff] at this
    · exact this.1
    · exact this.1
    · exact this.1.2
  · obtain ⟨⟨h3, h4⟩, h5⟩ := h2 _ hk
    exact ⟨fun hf => (by rw [memN_iff.2 hf] at h3; cases h3), blt_iff.1 h4, hasBox_iff.1 h5⟩

theorem mem_freeze {fz : List Nat} {D : List (Nat × Nat)} {c : Cut} {k m : Nat} (hk : (k, m) ∈ D) (h1 : ¬ boxIn c.live k) (h2 : ∀ m, (k, m) ∉ c.scrap) : k ∈ freeze fz D c := by
  unfold freeze
  rw [List.mem_append]
  right
  rw [List.mem_filter, List.mem_map]
  refine ⟨⟨_, hk, rfl⟩, ?_⟩
  simp only [Bool.not_eq_true', cutBox, Bool.or_eq_false_iff, List.any_eq_false]
  refine ⟨fun x hx => ?_, fun x hx => ?_⟩
  · obtain ⟨t, kd⟩ := x
    cases kd <;> simp only [Bool.false_eq_true, not_false_eq_true, beq_iff]
    rintro rfl
    exact h1 ⟨_, hx⟩
  · obtain ⟨t, m'⟩ := x
    simp only [beq_iff]
    rintro rfl
    exact h2 _ hx

section
variable {C : Ctx} {a a1 : Act} {wa wa1 : World} {st st1 : St} {u u1 : UW} {θ θ1 : Nat → Nat} {fz ws : List Nat} {c : Cut}

open Classical in
theorem Mx.base (hI : Inv C a wa st u θ) (hP : Pres C.n (freeze fz st.D c) ws st st1) (hl : liveOk fz st.D c = true) (hs : scrapOk st1 c.scrap = true) :
    Mx C.n fz ws (boxIn c.live) st st1 { st with σ := scrapG (pois st.σ ws) c.scrap } := by
  obtain ⟨l1, l2, l3⟩ := liveOk_spec hl
  have hsp := scrapOk_spec hs
  have hn := hI.n_le
  have hb : ∀ x ∈ c.scrap, x.1 < 65536 ∧ x.2 ≤ 65536 := fun x hx => ⟨(l3 x.1 x.2 hx).2.1, (hI.boxes x.1 x.2 (l3 x.1 x.2 hx).2.2).1⟩
  have slot : ∀ i, i < C.n → scrapG (pois st.σ ws) c.scrap i = if (∃ m, (i, m) ∈ c.scrap) then fake i 0 else if i ∈ ws then poison else st.σ i := by
    intro i hi
    rw [scrapG_slot _ _ _ (by omega)]
    by_cases h : ∃ m, (i, m) ∈ c.scrap
    · rw [if_pos h, if_pos h]
    · rw [if_neg h, if_neg h, pois_slot _ _ _ (by omega)]
  refine ⟨?_, ?_, ?_, ?_, fun x hx => hx, ?_⟩
  · intro i hi
    simp only
    rw [slot i hi]
    split
    · rename_i h; obtain ⟨m, h⟩ := h; exact .inr (hsp i m h).2.symm
    · split
      · exact .inl rfl
      · rename_i hw; exact .inr (hP.slot i hi hw).symm
  · intro k m hk
    refine ⟨hP.D _ hk, fun hp j hj => ?_⟩
    have hm := (hI.boxes k m hk).1
    have hgx : (pois st.σ ws) (gx k j) = st.σ (gx k j) := pois_ghost _ _ _ _
    by_cases hsc : ∃ m', (k, m') ∈ c.scrap
    · obtain ⟨m', hsc⟩ := hsc
      have hD := (l3 k m' hsc).2.2
      obtain rfl : m' = m := (hI.inj _ _ _ _ hD hk rfl).2
      exact .inl (scrapG_ghost_in _ _ k m' j hsc hj hb)
    · right
      have h1 := hP.fz k (mem_freeze hk hp (fun m hm => hsc ⟨m, hm⟩)) m hk j hj
      simp only
      by_cases hk6 : k < 65536
      · rcases scrapG_ghost c.scrap (pois st.σ ws) k j (by omega) hk6 hb with ⟨_, h⟩ | h
        · exact absurd h hsc
        · rw [h, hgx, h1]
      · have key : ∀ (l : List (Nat × Nat)) (σ : Fr), (∀ x ∈ l, x.1 < 65536 ∧ x.2 ≤ 65536) → scrapG σ l (gx k j) = σ (gx k j) := by
          intro l
          induction l with
          | nil => intro σ _; rfl
          | cons x l ih =>
            intro σ hx
            obtain ⟨k', m'⟩ := x
            have hx1 := hx (k', m') (by simp)
            simp only [scrapG]
            rw [ih _ (fun y hy => hx y (by simp [hy])), wrG_other, upd_ne]
            · have := gx_ge k j; have := hx1.1; omega
            · intro i _ hi e
              have := (gx_inj (by omega) (by simp at hi; have := hx1.2; omega) e).1
              have := hx1.1; omega
        rw [key _ _ hb, hgx, h1]
  · intro i hi k o e
    simp only at e
    rw [slot i hi] at e
    split at e
    · rename_i h
      obtain ⟨m, h⟩ := h
      simp only [Value.complex.injEq, true_and] at e
      exact ⟨m, by rw [← e.1]; exact (l3 i m h).2.2⟩
    · split at e
      · cases e
      · exact hI.fakes i hi k o e
  · intro i hi hw
    simp only
    rw [slot i hi]
    split
    · rename_i h; obtain ⟨m, h⟩ := h
      rw [← hP.slot i hi hw]; exact (hsp i m h).2.symm
    · rfl
  · intro k hk m hm j hj
    have hmm := (hI.boxes k m hm).1
    have hgx : (pois st.σ ws) (gx k j) = st.σ (gx k j) := pois_ghost _ _ _ _
    have key : ∀ (l : List (Nat × Nat)) (σ : Fr), (∀ x ∈ l, x.1 ≠ k ∧ x.1 < 65536 ∧ x.2 ≤ 65536) → scrapG σ l (gx k j) = σ (gx k j) := by
      intro l
      induction l with
      | nil => intro σ _; rfl
      | cons x l ih =>
        intro σ hx
        obtain ⟨k', m'⟩ := x
        have hx1 := hx (k', m') (by simp)
        simp only [scrapG]
        rw [ih _ (fun y hy => hx y (by simp [hy])), wrG_other, upd_ne]
        · have := gx_ge k j; have := hx1.2.1; omega
        · intro i _ hi e
          exact hx1.1 (gx_inj (by omega) (by simp at hi; have := hx1.2.2; omega) e).1.symm
    simp only
    rw [key _ _ (fun x hx => ⟨fun e => (l3 x.1 x.2 hx).1 (e ▸ hk), hb x hx⟩), hgx]

/-- One thing that is carried. -/
theorem Mx.set {s : St} {x : Nat × Kd} {l : Live} {v : x.2.T} (h : Mx C.n fz ws (boxIn (x :: l)) st st1 s) (hI1 : Inv C a1 wa1 st1 u1 θ1) (hg : getD1 st1 x = some v) (hx : x.1 < 65536) (hfz : ∀ ks, x.2 = .box ks → x.1 ∉ fz)
    (hI : Inv C a wa st u θ) (hP : Pres C.n (freeze fz st.D c) ws st st1) :
    Mx C.n fz ws (boxIn l) st st1 (setD1 s x v) := by
  obtain ⟨t, kd⟩ := x
  have hn := hI1.n_le
  have plainCase : ∀ (w : Value), plain w = true → st1.σ t = w → (∀ k, boxIn ((t, kd) :: l) k → boxIn l k) → Mx C.n fz ws (boxIn l) st st1 { s with σ := upd s.σ t w } := by
    intro w hp hw hbx
    refine ⟨?_, ?_, ?_, ?_, h.Dsub, ?_⟩
    · intro i hi
      simp only
      by_cases e : i = t
      · subst e; rw [upd_same]; exact .inr hw.symm
      · rw [upd_ne _ _ e]; exact h.slot i hi
    · intro k m hk
      refine ⟨(h.dD k m hk).1, fun hp' j hj => ?_⟩
      simp only
      have := gx_ge k j
      rw [upd_ne _ _ (by simp only at hx; omega)]
      exact (h.dD k m hk).2 (fun hb => hp' (hbx k hb)) j hj
    · intro i hi k o e
      simp only at e
      by_cases e' : i = t
      · subst e'; rw [upd_same] at e; exact absurd e (not_fake hp k o)
      · rw [upd_ne _ _ e'] at e; exact h.fk i hi k o e
    · intro i hi hw'
      simp only
      by_cases e : i = t
      · subst e; rw [upd_same, ← hw]; exact hP.slot i hi hw'
      · rw [upd_ne _ _ e]; exact h.keep i hi hw'
    · intro k hk m hm j hj
      simp only
      have := gx_ge k j
      rw [upd_ne _ _ (by simp only at hx; omega)]
      exact h.frz k hk m hm j hj
  cases kd with
  | one k =>
    simp only [getD1] at hg
    exact plainCase _ (K1.plain_v k v) (K1.get_v hg) (by rintro k' ⟨ks, hk⟩; simp only [List.mem_cons, Prod.mk.injEq, reduceCtorEq, and_false, false_or] at hk; exact ⟨ks, hk⟩)
  | agg ks =>
    simp only [getD1] at hg
    split at hg
    · rename_i arr he
      refine plainCase _ rfl ?_ (by rintro k' ⟨ks, hk⟩; simp only [List.mem_cons, Prod.mk.injEq, reduceCtorEq, and_false, false_or] at hk; exact ⟨ks, hk⟩)
      rw [he]
      have := TLget_v hg
      congr 1
      apply Array.toList_inj.1
      simpa using this
    · cases hg
  | box ks =>
    simp only [getD1] at hg
    split at hg
    · rename_i k o he
      simp only [Bool.cond_eq_ite] at hg
      split at hg
      · rename_i hc
        simp only [Bool.and_eq_true, beq_iff, hasBox_iff] at hc
        obtain ⟨⟨rfl, rfl⟩, hD⟩ := hc
        have hlist := TLget_v hg
        have hlen : (TLv ks v).length = ks.length := TLv_length ks v
        have hm65 := (hI1.boxes k ks.length hD).1
        have hat : ∀ (σ : Fr) (j : Nat), j < ks.length → wrG σ k 0 (TLv ks v) (gx k j) = st1.σ (gx k j) := by
          intro σ j hj
          have h1 := wrG_at (σ := σ) (k := k) (TLv ks v) 0 j (by omega) (by omega)
          rw [Nat.zero_add] at h1
          rw [h1, List.getD_eq_getElem?_getD, ← hlist, rdG_getElem? _ _ _ _ _ hj]
          simp
        have hoth : ∀ (σ : Fr) (k' j : Nat), k' ≠ k → j < 65536 → wrG σ k 0 (TLv ks v) (gx k' j) = σ (gx k' j) := by
          intro σ k' j hne hj
          rw [wrG_other]
          intro i _ hi e
          exact hne (gx_inj hj (by omega) e).1
        have hDs : ∀ y, y ∈ (setD1 s (k, .box ks) v).D ↔ y ∈ s.D ∨ y = (k, ks.length) := by
          intro y
          simp only [setD1, Bool.cond_eq_ite, hasBox_iff]
          split
          · rename_i hin
            exact ⟨fun h => .inl h, fun h => h.elim id fun e => e ▸ hin⟩
          · simp only [List.mem_cons]; exact ⟨fun h => h.symm, fun h => h.symm⟩
        simp only at hx
        refine ⟨?_, ?_, ?_, ?_, ?_, ?_⟩
        · intro i hi
          simp only [setD1]
          rw [wrG_slot _ _ _ (by omega)]
          by_cases e : i = k
          · subst e; rw [upd_same]; exact .inr he.symm
          · rw [upd_ne _ _ e]; exact h.slot i hi
        · intro k' m hk
          rw [hDs] at hk
          rcases hk with hk | hk
          · refine ⟨(h.dD k' m hk).1, fun hp j hj => ?_⟩
            have hm6 := (hI1.boxes k' m (h.dD k' m hk).1).1
            simp only [setD1]
            by_cases e : k' = k
            · subst e
              obtain rfl : m = ks.length := (hI1.inj _ _ _ _ (h.dD k' m hk).1 hD rfl).2
              exact .inr (hat _ j hj)
            · have := gx_ge k' j
              rw [hoth _ _ _ e (by omega), upd_ne _ _ (by omega)]
              refine (h.dD k' m hk).2 (fun hb => hp ?_) j hj
              obtain ⟨ks', hb⟩ := hb
              simp only [List.mem_cons, Prod.mk.injEq] at hb
              rcases hb with ⟨e', _⟩ | hb
              · exact absurd e' e
              · exact ⟨ks', hb⟩
          · simp only [Prod.mk.injEq] at hk
            obtain ⟨rfl, rfl⟩ := hk
            exact ⟨hD, fun _ j hj => .inr (by simp only [setD1]; exact hat _ j hj)⟩
        · intro i hi k' o e
          simp only [setD1] at e
          rw [wrG_slot _ _ _ (by omega)] at e
          by_cases e' : i = k
          · subst e'; rw [upd_same] at e
            simp only [Value.complex.injEq, true_and] at e
            exact ⟨ks.length, (hDs _).2 (.inr (by rw [e.1]))⟩
          · rw [upd_ne _ _ e'] at e
            obtain ⟨m, hm⟩ := h.fk i hi k' o e
            exact ⟨m, (hDs _).2 (.inl hm)⟩
        · intro i hi hw
          simp only [setD1]
          rw [wrG_slot _ _ _ (by omega)]
          by_cases e : i = k
          · subst e; rw [upd_same, ← hP.slot i hi hw]; exact he.symm
          · rw [upd_ne _ _ e]; exact h.keep i hi hw
        · intro y hy
          exact (hDs y).2 (.inl (h.Dsub y hy))
        · intro k' hk' m hm j hj
          have hne : k' ≠ k := fun e => hfz ks rfl (e ▸ hk')
          have hm6 := (hI.boxes k' m hm).1
          have := gx_ge k' j
          simp only [setD1]
          rw [hoth _ _ _ hne (by omega), upd_ne _ _ (by omega)]
          exact h.frz k' hk' m hm j hj
      · cases hg
    · cases hg

theorem Mx.sets : ∀ {l : Live} {s : St} {v : Tup l}, Mx C.n fz ws (boxIn l) st st1 s → Inv C a1 wa1 st1 u1 θ1 → getLive st1 l = some v → (∀ x ∈ l, x.1 < 65536) → (∀ t ks, (t, Kd.box ks) ∈ l → t ∉ fz) →
    Inv C a wa st u θ → Pres C.n (freeze fz st.D c) ws st st1 → Mx C.n fz ws (boxIn []) st st1 (setLive s l v)
  | [], s, v, h, _, _, _, _, _, _ => h
  | [x], s, v, h, hI1, hg, hx, hf, hI, hP => by
    simp only [getLive] at hg
    exact h.set (l := []) hI1 hg (hx x (by simp)) (fun ks e => hf x.1 ks (by rw [← e]; simp)) hI hP
  | x :: y :: l, s, v, h, hI1, hg, hx, hf, hI, hP => by
    simp only [getLive] at hg
    split at hg
    · rename_i p q hp hq
      simp only [Option.some.injEq] at hg
      subst hg
      have h1 := h.set (l := y :: l) hI1 hp (hx x (by simp)) (fun ks e => hf x.1 ks (by rw [← e]; simp)) hI hP
      exact Mx.sets (l := y :: l) h1 hI1 hq (fun z hz => hx z (by simp [hz])) (fun t ks hz => hf t ks (by simp [hz])) hI hP
    · cases hg

/-- The state behind a join: it knows less than the state out of which it was taken; it goes on from the state ahead. -/
theorem mix_ok {v : Tup c.live} (hI : Inv C a wa st u θ) (hI1 : Inv C a1 wa1 st1 u1 θ1) (hP : Pres C.n (freeze fz st.D c) ws st st1) (hl : liveOk fz st.D c = true) (hs : scrapOk st1 c.scrap = true)
    (hg : getLive st1 c.live = some v) : Inv C a1 wa1 (mix st ws c v) u1 θ1 ∧ Pres C.n fz ws st (mix st ws c v) := by
  obtain ⟨l1, l2, l3⟩ := liveOk_spec hl
  have h := Mx.sets (Mx.base hI hP hl hs) hI1 hg l2 (fun t ks ht => (l1 t ks ht).1) hI hP
  refine ⟨hI1.weak ⟨h.slot, fun k m hk => ⟨(h.dD k m hk).1, (h.dD k m hk).2 (by rintro ⟨ks, hk⟩; simp at hk)⟩, fun i hi k o e _ => h.fk i hi k o e⟩, ⟨h.keep, h.Dsub, h.frz⟩⟩

theorem setD1_ghost {s : St} {x : Nat × Kd} {v : x.2.T} {k j : Nat} (hk : ∀ ks, x ≠ (k, .box ks)) (hj : j < 65536) (hx : x.1 < 65536) (hks : ∀ ks, x.2 = .box ks → ks.length ≤ 65536) : (setD1 s x v).σ (gx k j) = s.σ (gx k j) := by
  obtain ⟨t, kd⟩ := x
  have := gx_ge k j
  simp only at hx
  cases kd with
  | one k1 => simp only [setD1]; rw [upd_ne _ _ (by omega)]
  | agg ks => simp only [setD1]; rw [upd_ne _ _ (by omega)]
  | box ks =>
    simp only [setD1]
    have hl := hks ks rfl
    rw [wrG_other, upd_ne _ _ (by omega)]
    intro i _ hi e
    rw [TLv_length] at hi
    have := (gx_inj hj (by omega) e).1
    exact hk ks (by rw [this])

theorem setLive_ghost : ∀ {l : Live} {s : St} {v : Tup l} {k j : Nat}, ¬ boxIn l k → j < 65536 → (∀ x ∈ l, x.1 < 65536) → (∀ t ks, (t, Kd.box ks) ∈ l → ks.length ≤ 65536) → (setLive s l v).σ (gx k j) = s.σ (gx k j)
  | [], _, _, _, _, _, _, _, _ => rfl
  | [x], s, v, k, j, hb, hj, hx, hks => setD1_ghost (fun ks e => hb ⟨ks, by simp [e]⟩) hj (hx x (by simp)) (fun ks e => hks x.1 ks (by rw [← e]; simp))
  | x :: y :: l, s, v, k, j, hb, hj, hx, hks => by
    simp only [setLive]
    rw [setLive_ghost (l := y :: l) (fun ⟨ks, h⟩ => hb ⟨ks, by simp only [List.mem_cons] at h ⊢; exact .inr h⟩) hj (fun z hz => hx z (by simp only [List.mem_cons] at hz ⊢; exact .inr hz)) (fun t ks hz => hks t ks (by simp only [List.mem_cons] at hz ⊢; exact .inr hz))]
    exact setD1_ghost (fun ks e => hb ⟨ks, by simp [e]⟩) hj (hx x (by simp)) (fun ks e => hks x.1 ks (by rw [← e]; simp))

theorem mix_frz (hI : Inv C a wa st u θ) (hl : liveOk fz st.D c = true) (ws : List Nat) (v : Tup c.live) : ∀ k, k ∈ freeze fz st.D c → ∀ m, (k, m) ∈ st.D → ∀ j, j < m → (mix st ws c v).σ (gx k j) = st.σ (gx k j) := by
  intro k hk m hm j hj
  obtain ⟨l1, l2, l3⟩ := liveOk_spec hl
  have hmm := (hI.boxes k m hm).1
  have hb : ∀ x ∈ c.scrap, x.1 < 65536 ∧ x.2 ≤ 65536 := fun x hx => ⟨(l3 x.1 x.2 hx).2.1, (hI.boxes x.1 x.2 (l3 x.1 x.2 hx).2.2).1⟩
  have hnot : ¬ boxIn c.live k ∧ ∀ m, (k, m) ∉ c.scrap := by
    unfold freeze at hk
    rw [List.mem_append] at hk
    rcases hk with hk | hk
    · exact ⟨fun ⟨ks, h⟩ => (l1 k ks h).1 hk, fun m h => (l3 k m h).1 hk⟩
    · rw [List.mem_filter] at hk
      have h2 := hk.2
      simp only [Bool.not_eq_true', cutBox, Bool.or_eq_false_iff, List.any_eq_false] at h2
      refine ⟨fun ⟨ks, h⟩ => ?_, fun m h => ?_⟩
      · exact h2.1 _ h (beq_iff.2 rfl)
      · exact h2.2 _ h (beq_iff.2 rfl)
  have key : ∀ (l : List (Nat × Nat)) (σ : Fr), (∀ x ∈ l, x.1 ≠ k ∧ x.1 < 65536 ∧ x.2 ≤ 65536) → scrapG σ l (gx k j) = σ (gx k j) := by
    intro l
    induction l with
    | nil => intro σ _; rfl
    | cons x l ih =>
      intro σ hx
      obtain ⟨k', m'⟩ := x
      have hx1 := hx (k', m') (by simp)
      simp only [scrapG]
      rw [ih _ (fun y hy => hx y (by simp [hy])), wrG_other, upd_ne]
      · have := gx_ge k j; have := hx1.2.1; omega
      · intro i _ hi e
        exact hx1.1 (gx_inj (by omega) (by simp at hi; have := hx1.2.2; omega) e).1.symm
  unfold mix
  rw [setLive_ghost hnot.1 (by omega) l2 (fun t ks h => (l1 t ks h).2.2)]
  simp only
  rw [key _ _ (fun x hx => ⟨fun e => hnot.2 x.2 (by rw [← e]; exact hx), hb x hx⟩), pois_ghost]

end
end Go.Eng
