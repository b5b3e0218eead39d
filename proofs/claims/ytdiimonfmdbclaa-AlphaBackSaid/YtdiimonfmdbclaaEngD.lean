import Derived.Test.YtdiimonfmdbclaaEngC
/-
  The engine, fourth part: running memory operations; making and writing a private box.
-/
namespace Go.Eng
open Go.RowKit

theorem add_addr (b o i : Nat) : (⟨b, o, none⟩ : Addr).add i = ⟨b, o + i, none⟩ := by
  unfold Addr.add; split
  · subst_vars; rfl
  · rfl

theorem R_congr {θ θ' : Nat → Nat} {v r : Value} (h : R θ v r) (hf : ∀ k o, v = fake k o → θ' k = θ k) : R θ' v r := by
  unfold R at *
  split
  · rename_i k o; rw [hf k o rfl]; exact h
  · trivial
  · rename_i h1 h2; split at h
    · exact absurd rfl (h1 _ _)
    · exact absurd rfl (h2 _ _)
    · exact h

/-- A block is replaced. -/
def setB (w : World) (b : Nat) (o : Obj) : World := { w with heap := w.heap.setIfInBounds b o }

theorem setB_at {w : World} {b : Nat} {o : Obj} (h : b < w.heap.size) : (setB w b o).heap[b]? = some o := by simp [setB, h]
theorem setB_ne {w : World} {b c : Nat} {o : Obj} (h : c ≠ b) : (setB w b o).heap[c]? = w.heap[c]? := by simp [setB, Ne.symm h]
theorem setB_size {w : World} {b : Nat} {o : Obj} : (setB w b o).heap.size = w.heap.size := by simp [setB]

theorem wrA_size : ∀ (vs : List Value) (c : Array Value) (o : Nat), (wrA c o vs).size = c.size
  | [], _, _ => rfl
  | v :: vs, c, o => by simp [wrA, wrA_size vs]

theorem wrA_get : ∀ (vs : List Value) (c : Array Value) (o j : Nat), o + vs.length ≤ c.size → (wrA c o vs).getD j undef = if o ≤ j ∧ j < o + vs.length then vs.getD (j - o) undef else c.getD j undef
  | [], c, o, j, _ => by
    rw [if_neg (by simp only [List.length_nil]; omega)]; rfl
  | v :: vs, c, o, j, h => by
    simp only [List.length_cons] at h
    simp only [wrA]
    rw [wrA_get vs _ (o + 1) j (by simp; omega), getD_set _ _ _ _ (by omega)]
    by_cases h1 : j = o
    · subst h1
      rw [if_neg (by omega), if_pos rfl, if_pos (by simp)]
      simp
    · rw [if_neg h1]
      by_cases h2 : o + 1 ≤ j ∧ j < o + 1 + vs.length
      · rw [if_pos h2, if_pos (by simp; omega)]
        obtain ⟨i, hi⟩ : ∃ i, j - o = i + 1 := ⟨j - o - 1, by omega⟩
        rw [hi, show j - (o + 1) = i from by omega]
        simp
      · rw [if_neg h2, if_neg (by simp; omega)]

theorem cell_of {w : World} {b o : Nat} {c : Array Value} {T : TypeId} {f : Nat × Nat} (h : w.heap[b]? = some (.cells c T f)) : w.cell? ⟨b, o, none⟩ = c[o]? := by
  simp [World.cell?, h]

theorem loadCellsFrom_run {P : Program} {w : World} {b o : Nat} {c : Array Value} {T : TypeId} {f : Nat × Nat} (h : w.heap[b]? = some (.cells c T f)) :
    ∀ (n i : Nat) (acc : Array Value), o + i + n ≤ c.size → (loadCellsFrom ⟨b, o, none⟩ i n acc).run P w = .ok (acc ++ ((c.toList.drop (o + i)).take n).toArray) w
  | 0, i, acc, _ => by simp [loadCellsFrom]
  | n + 1, i, acc, hl => by
    have hlt : o + i < c.size := by omega
    simp only [loadCellsFrom, Sem.run_bind, run_load, add_addr, cell_of h, Array.getElem?_eq_getElem hlt, Result.andThen_ok]
    rw [loadCellsFrom_run h n (i + 1) _ (by omega)]
    have hlt' : o + i < c.toList.length := by simpa using hlt
    rw [List.drop_eq_getElem_cons hlt']
    simp [Nat.add_assoc]

theorem loadCells_run {P : Program} {w : World} {b o n : Nat} {c : Array Value} {T : TypeId} {f : Nat × Nat} (h : w.heap[b]? = some (.cells c T f)) (hl : o + n ≤ c.size) :
    (loadCells ⟨b, o, none⟩ n).run P w = .ok ((c.toList.drop o).take n).toArray w := by
  unfold loadCells
  rw [loadCellsFrom_run h n 0 #[] (by omega)]
  simp

theorem one_cell' {v : Value} (h : one v = true) : v.oneCell' = true := by cases v <;> simp_all [one, Value.oneCell']

theorem setB_self {w : World} {b : Nat} {o : Obj} (h : w.heap[b]? = some o) : setB w b o = w := by
  obtain ⟨heap, tape, drawn, os, output⟩ := w
  simp only [setB]
  congr 1
  apply Array.ext_getElem?
  intro k
  rw [Array.getElem?_setIfInBounds]
  split
  · rename_i e; subst e
    have hb := (Array.getElem?_eq_some_iff.1 h).1
    rw [if_pos hb]; exact h.symm
  · rfl

theorem setCell_setB {w : World} {b o : Nat} {c : Array Value} {T : TypeId} {f : Nat × Nat} (v : Value) (h : w.heap[b]? = some (.cells c T f)) :
    w.setCell ⟨b, o, none⟩ v = setB w b (.cells (c.setIfInBounds o v) T f) := by
  obtain ⟨heap, tape, drawn, os, output⟩ := w
  simp only [setB, World.setCell]
  congr 1
  apply Array.ext_getElem?
  intro k
  rw [Array.getElem?_setIfInBounds, Array.getElem?_modify]
  split
  · rename_i e; subst e
    have h' : heap[b]? = some (.cells c T f) := h
    have hb := (Array.getElem?_eq_some_iff.1 h').1
    rw [h']
    simp [hb]
  · rfl

theorem storeCells_run {P : Program} {b o : Nat} {T : TypeId} : ∀ (vs : List Value) (i : Nat) (w : World) (c : Array Value), w.heap[b]? = some (.cells c T (0, 0)) → o + i + vs.length ≤ c.size → (∀ v ∈ vs, one v = true) →
    (storeCells ⟨b, o, none⟩ vs i).run P w = .ok () (setB w b (.cells (wrA c (o + i) vs) T (0, 0)))
  | [], i, w, c, h, _, _ => by
    simp only [storeCells, wrA, Sem.run_pure]
    rw [setB_self h]
  | v :: vs, i, w, c, h, hl, ho => by
    have hb : b < w.heap.size := (Array.getElem?_eq_some_iff.1 h).1
    simp only [List.length_cons] at hl
    have hlt : o + i < c.size := by omega
    have hfr : w.frozen? ⟨b, o + i, none⟩ = false := by simp [World.frozen?, h]
    have hcell : w.cell? ⟨b, o + i, none⟩ = some c[o + i] := by rw [cell_of h, Array.getElem?_eq_getElem hlt]
    simp only [storeCells, Sem.run_bind, add_addr, run_store _ _ _ _ _ (one_cell' (ho v (by simp))), hcell, hfr]
    simp only [Bool.false_eq_true, if_false, Result.andThen_ok]
    rw [setCell_setB v h]
    rw [storeCells_run vs (i + 1) _ (c.setIfInBounds (o + i) v) (setB_at hb) (by simp; omega) (fun x hx => ho x (by simp [hx]))]
    congr 1
    simp only [setB, wrA, Array.setIfInBounds_setIfInBounds]
    rfl

end Go.Eng
namespace Go.Eng
open Go.RowKit

theorem all_plain {vs : List Value} (h : allPlain vs = true) : ∀ v ∈ vs, plain v = true ∧ one v = true := by
  intro v hv
  have := List.all_eq_true.1 h v hv
  simpa using this

/-- A private box is made. -/
theorem Inv.newBox {C : Ctx} {a : Act} {wa : World} {st : St} {u : UW} {θ : Nat → Nat} (h : Inv C a wa st u θ) {k : Nat} {cs : Array Value} {T : TypeId} (hk : k < C.n) (hbox : ∀ m, (k, m) ∉ st.D)
    (hp : ∀ v ∈ cs.toList, plain v = true) (hsz : cs.size ≤ 65536) :
    Inv C (a.put (some k) (.pointer (some ⟨wa.heap.size, 0, none⟩))) (wa.alloc (.cells cs T (0, 0))) { st with σ := wrG (upd st.σ k (fake k 0)) k 0 cs.toList, D := (k, cs.size) :: st.D } u
      (fun i => if i = k then wa.heap.size else θ i) := by
  have hB : Below wa.heap.size wa (wa.alloc (.cells cs T (0, 0))) := (Below.refl _ _).alloc (Nat.le_refl _) _
  have hat : (wa.alloc (.cells cs T (0, 0))).heap[wa.heap.size]? = some (.cells cs T (0, 0)) := by
    show (wa.heap.push _)[wa.heap.size]? = _
    simp
  have hn := h.n_le
  have hold : ∀ k' m, (k', m) ∈ st.D → k' ≠ k := fun k' m hm e => hbox m (e ▸ hm)
  have hlt : ∀ k' m, (k', m) ∈ st.D → θ k' < wa.heap.size := fun k' m hm => by
    obtain ⟨_, c, T', h1, _⟩ := h.boxes k' m hm
    exact (Array.getElem?_eq_some_iff.1 h1).1
  have hgh : ∀ k' m, (k', m) ∈ st.D → ∀ j, j < m → wrG (upd st.σ k (fake k 0)) k 0 cs.toList (gx k' j) = st.σ (gx k' j) := fun k' m hm j hj => by
    have hm' := (h.boxes k' m hm).1
    rw [wrG_other, upd_ne]
    · have := gx_ge k' j; omega
    · intro i _ hi e
      have := (gx_inj (by omega) (by simp at hi; omega) e).1
      exact hold k' m hm this
  have hkeep : ∀ {b : Nat} {o : Obj}, Hid u wa b o → Hid u (wa.alloc (.cells cs T (0, 0))) b o := fun hh =>
    ⟨(hB.block _ (Array.getElem?_eq_some_iff.1 hh.at_).1).trans hh.at_, hh.other, hh.pub, hh.mask⟩
  refine ⟨?_, hn, ?_, ?_, ?_, ?_, ?_, ?_, ?_, ?_, ?_, ?_, h.pubF, h.umod, h.w01, h.hid, h.F0⟩
  · rw [put_tmps_size]; exact h.size
  · rw [put_defers]; exact ⟨fun d hd => let ⟨r, e, hr, hh⟩ := h.defers.each d hd; ⟨r, e, hr, hkeep hh⟩, h.defers.nodup⟩
  · exact fun l r e => hkeep (h.round l r e)
  · intro t ht
    simp only [Act.put]
    rw [getD_set _ _ _ _ (by rw [h.size]; exact hk), wrG_slot _ _ _ (by omega)]
    by_cases e : t = k
    · subst e; rw [if_pos rfl, upd_same]; simp [R]
    · rw [if_neg e, upd_ne _ _ e]
      refine R_congr (h.slots t ht) fun k' o e' => ?_
      obtain ⟨m, hm⟩ := h.fakes t ht k' o e'
      simp [hold k' m hm]
  · refine ⟨h.below.os, h.below.tape, h.below.output, Nat.le_trans h.below.size hB.size, fun b hb => ?_⟩
    rw [hB.block b (Nat.lt_of_lt_of_le hb h.below.size)]
    exact h.below.block b hb
  · intro k' m hm
    simp only [List.mem_cons, Prod.mk.injEq] at hm
    rcases hm with ⟨rfl, rfl⟩ | hm
    · refine ⟨hsz, cs, T, by simpa using hat, rfl, fun j hj => ?_, ?_, ?_, ?_⟩
      · have hw := wrG_at (σ := upd st.σ k' (fake k' 0)) (k := k') cs.toList 0 j (by simpa using hj) (by simpa using hsz)
        simp only [Nat.zero_add] at hw
        simp only
        rw [hw]
        have hmem : cs.toList.getD j undef ∈ cs.toList := by
          rw [List.getD_eq_getElem?_getD, List.getElem?_eq_getElem (by simpa using hj)]
          simp
        rw [R_plain (hp _ hmem)]
        simp
      · simp only [if_true]
        intro hpub
        have := h.pubs _ hpub; omega
      · simp only [if_true]; exact h.mod.size
      · simp only [if_true]; intro hl; have := h.below.size; omega
    · obtain ⟨hmm, c, T', h1, h2, h3, h4, h5, h6⟩ := h.boxes k' m hm
      simp only [if_neg (hold k' m hm)]
      refine ⟨hmm, c, T', (hB.block _ (hlt k' m hm)).trans h1, h2, fun j hj => ?_, h4, h5, h6⟩
      simp only [hgh k' m hm j hj]
      exact R_congr (h3 j hj) fun k'' o e => absurd e (h.ghosts k' m hm j hj k'' o)
  · intro k1 m1 k2 m2 h1 h2 e
    simp only [List.mem_cons, Prod.mk.injEq] at h1 h2
    rcases h1 with ⟨rfl, rfl⟩ | h1 <;> rcases h2 with ⟨rfl, rfl⟩ | h2
    · exact ⟨rfl, rfl⟩
    · simp only [if_true, if_neg (hold _ _ h2)] at e
      have := hlt _ _ h2; omega
    · simp only [if_true, if_neg (hold _ _ h1)] at e
      have := hlt _ _ h1; omega
    · simp only [if_neg (hold _ _ h1), if_neg (hold _ _ h2)] at e
      exact h.inj _ _ _ _ h1 h2 e
  · intro t ht k' o e
    simp only at e
    rw [wrG_slot _ _ _ (by omega)] at e
    by_cases e' : t = k
    · subst e'; rw [upd_same] at e
      simp only [Value.complex.injEq, true_and] at e
      exact ⟨cs.size, by simp [e.1]⟩
    · rw [upd_ne _ _ e'] at e
      obtain ⟨m, hm⟩ := h.fakes t ht k' o e
      exact ⟨m, by simp [hm]⟩
  · intro k1 m1 h1 j hj k' o e
    simp only [List.mem_cons, Prod.mk.injEq] at h1
    rcases h1 with ⟨rfl, rfl⟩ | h1
    · have hw := wrG_at (σ := upd st.σ k1 (fake k1 0)) (k := k1) cs.toList 0 j (by simpa using hj) (by simpa using hsz)
      simp only [Nat.zero_add] at hw
      simp only at e
      rw [hw] at e
      have hmem : cs.toList.getD j undef ∈ cs.toList := by
        rw [List.getD_eq_getElem?_getD, List.getElem?_eq_getElem (by simpa using hj)]
        simp
      exact not_fake (hp _ hmem) k' o e
    · simp only [hgh k1 m1 h1 j hj] at e
      exact h.ghosts k1 m1 h1 j hj k' o e
  · intro b hb
    exact Nat.lt_of_lt_of_le (h.pubs b hb) hB.size
  · exact h.mod.trans (Below.toMod hB (Nat.le_refl _) _)

/-- A private box is written. -/
theorem Inv.stBox {C : Ctx} {a : Act} {wa : World} {st : St} {u : UW} {θ : Nat → Nat} (h : Inv C a wa st u θ) {k m o : Nat} {vs : List Value} (hk : (k, m) ∈ st.D) (hl : o + vs.length ≤ m)
    (hp : ∀ v ∈ vs, plain v = true) : ∃ c T, wa.heap[θ k]? = some (.cells c T (0, 0)) ∧ c.size = m ∧
      Inv C a (setB wa (θ k) (.cells (wrA c o vs) T (0, 0))) { st with σ := wrG st.σ k o vs } u θ := by
  obtain ⟨hmm, c, T, h1, h2, h3, h4, h5, h6⟩ := h.boxes k m hk
  have hlt : θ k < wa.heap.size := (Array.getElem?_eq_some_iff.1 h1).1
  have hn := h.n_le
  have hgh : ∀ k' m', (k', m') ∈ st.D → k' ≠ k → ∀ j, j < m' → wrG st.σ k o vs (gx k' j) = st.σ (gx k' j) := fun k' m' hm hne j hj => by
    have hm' := (h.boxes k' m' hm).1
    rw [wrG_other]
    intro i _ hi e
    exact hne (gx_inj (by omega) (by omega) e).1
  have hkeep : ∀ {b : Nat} {ob : Obj}, Hid u wa b ob → Hid u (setB wa (θ k) (.cells (wrA c o vs) T (0, 0))) b ob := fun {b ob} hh => by
    refine ⟨?_, hh.other, hh.pub, hh.mask⟩
    rw [setB_ne]
    · exact hh.at_
    · rintro rfl
      have := hh.at_; rw [h1] at this; cases this
      have := hh.other; simp [Obj.isCells] at this
  refine ⟨c, T, h1, h2, h.size, hn, ⟨fun d hd => let ⟨r, e, hr, hh⟩ := h.defers.each d hd; ⟨r, e, hr, hkeep hh⟩, h.defers.nodup⟩, fun l r e => hkeep (h.round l r e), ?_, ?_, ?_, h.inj, ?_, ?_, ?_, ?_, h.pubF, h.umod, h.w01, h.hid, h.F0⟩
  · intro t ht
    simp only
    rw [wrG_slot _ _ _ (by omega)]; exact h.slots t ht
  · refine ⟨h.below.os, h.below.tape, h.below.output, by rw [setB_size]; exact h.below.size, fun b hb => ?_⟩
    by_cases e : b = θ k
    · subst e; exact .inr (h6 hb)
    · rw [setB_ne e]; exact h.below.block b hb
  · intro k' m' hm
    by_cases e : k' = k
    · subst e
      obtain rfl : m' = m := (h.inj _ _ _ _ hm hk rfl).2
      refine ⟨hmm, wrA c o vs, T, setB_at hlt, by rw [wrA_size, h2], fun j hj => ?_, h4, h5, h6⟩
      rw [wrA_get _ _ _ _ (by omega)]
      simp only
      by_cases hr : o ≤ j ∧ j < o + vs.length
      · rw [if_pos hr]
        have hw := wrG_at (σ := st.σ) (k := k') vs o (j - o) (by omega) (by omega)
        rw [show o + (j - o) = j from by omega] at hw
        rw [hw]
        have hmem : vs.getD (j - o) undef ∈ vs := by
          rw [List.getD_eq_getElem?_getD, List.getElem?_eq_getElem (by omega)]
          simp
        exact R_refl (hp _ hmem)
      · rw [if_neg hr, wrG_other]
        · exact h3 j hj
        · intro i h1 h2 e
          have := (gx_inj (by omega) (by omega) e).2
          omega
    · obtain ⟨hmm', c', T', h1', h2', h3', h4', h5', h6'⟩ := h.boxes k' m' hm
      have hne : θ k' ≠ θ k := fun e' => e (h.inj _ _ _ _ hm hk e').1
      refine ⟨hmm', c', T', (setB_ne hne).trans h1', h2', fun j hj => ?_, h4', h5', h6'⟩
      simp only [hgh k' m' hm e j hj]
      exact h3' j hj
  · intro t ht k' o' e
    simp only at e
    rw [wrG_slot _ _ _ (by omega)] at e
    exact h.fakes t ht k' o' e
  · intro k1 m1 hm j hj k' o' e
    by_cases ek : k1 = k
    · subst ek
      obtain rfl : m1 = m := (h.inj _ _ _ _ hm hk rfl).2
      simp only at e
      by_cases hr : o ≤ j ∧ j < o + vs.length
      · have hw := wrG_at (σ := st.σ) (k := k1) vs o (j - o) (by omega) (by omega)
        rw [show o + (j - o) = j from by omega] at hw
        rw [hw] at e
        have hmem : vs.getD (j - o) undef ∈ vs := by
          rw [List.getD_eq_getElem?_getD, List.getElem?_eq_getElem (by omega)]
          simp
        exact not_fake (hp _ hmem) k' o' e
      · rw [wrG_other] at e
        · exact h.ghosts k1 m1 hm j hj k' o' e
        · intro i h1 h2 e
          have := (gx_inj (by omega) (by omega) e).2
          omega
    · simp only [hgh k1 m1 hm ek j hj] at e
      exact h.ghosts k1 m1 hm j hj k' o' e
  · intro b hb
    rw [setB_size]; exact h.pubs b hb
  · refine ⟨h.mod.os, h.mod.tape, h.mod.output, by rw [setB_size]; exact h.mod.size, fun b hb hF => ?_⟩
    rw [setB_ne (by omega)]
    exact h.mod.keep b hb hF

end Go.Eng
