import Derived.Test.YtdiimonfmdbclaaPvD
/-
  V is sound: memory.
-/
namespace Go.Eng
open Go.RowKit
set_option linter.unusedVariables false

theorem ObOk.go {Z Z' : Fz} {u u' : UW} {b : Nat} {o : Ob} (h : ObOk Z u b o) (hz : Z.le Z') (hb : Z' b = Z b) (hh : u'.heap[b]? = u.heap[b]?) : ObOk Z' u' b o := by
  cases o with
  | cells T cs =>
    obtain ⟨h1, A, h2, h3⟩ := h
    exact ⟨by rw [hb]; exact h1, A, by rw [hh]; exact h2, h3.mono hz⟩
  | tip n m =>
    obtain ⟨⟨C, h1, h2⟩, A, T, h3, h4⟩ := h
    exact ⟨⟨C, by rw [hb]; exact h1, h2⟩, A, T, by rw [hh]; exact h3, h4⟩
  | obj o F S => exact ⟨by rw [hb]; exact h.1, by rw [hh]; exact h.2.1, fun t => (h.2.2 t).mono hz⟩
  | ro T cs =>
    obtain ⟨h1, A, h2, h3⟩ := h
    exact ⟨by rw [hb]; exact h1, A, by rw [hh]; exact h2, h3.mono hz⟩

theorem Good.go {Z Z' : Fz} {u u' : UW} {μ μ' : Mem} (h : Good Z u μ) (hz : Z.le Z')
    (hzok : ∀ b C, Z' b = some C → (Z b = some C ∧ u'.heap[b]? = u.heap[b]?) ∨ ∃ A T f, u'.heap[b]? = some (.cells A T f) ∧ C <+: A.toList)
    (hmem : ∀ b o, μ' b = some o → (μ b = some o ∧ u'.heap[b]? = u.heap[b]? ∧ (u.pub b → u'.pub b) ∧ Z' b = Z b) ∨ ((o.rw = true → u'.pub b) ∧ ObOk Z' u' b o)) : Good Z' u' μ' := by
  refine ⟨fun b C hb => ?_, fun b o hb => ?_⟩
  · rcases hzok b C hb with ⟨h1, h2⟩ | h1
    · rw [h2]; exact h.zok b C h1
    · exact h1
  · rcases hmem b o hb with ⟨h1, h2, h3, h4⟩ | h1
    · obtain ⟨g1, g2⟩ := h.mem b o h1
      exact ⟨fun hr => h3 (g1 hr), g2.go hz h4 h2⟩
    · exact h1

def Fz.set (Z : Fz) (b : Nat) (C : List Value) : Fz := fun c => if c = b then some C else Z c
theorem Fz.set_same (Z : Fz) (b : Nat) (C : List Value) : Z.set b C b = some C := by simp [Fz.set]
theorem Fz.set_ne (Z : Fz) {b c : Nat} (C : List Value) (h : c ≠ b) : Z.set b C c = Z c := by simp [Fz.set, h]
theorem Fz.set_le {Z : Fz} {b : Nat} {C : List Value} (h : ∀ D, Z b = some D → D <+: C) : Z.le (Z.set b C) := fun c D hD => by
  by_cases e : c = b
  · subst e; exact ⟨C, Fz.set_same _ _ _, h D hD⟩
  · exact ⟨D, by rw [Fz.set_ne _ _ e]; exact hD, List.prefix_refl _⟩

theorem Good.newZ {Z : Fz} {u : UW} {μ : Mem} (h : Good Z u μ) {b : Nat} (hb : u.heap.size ≤ b) : Z b = none := by
  cases hz : Z b with
  | none => rfl
  | some C => have := h.ltZ (b := b) (by rw [hz]; simp); omega
theorem Good.newM {Z : Fz} {u : UW} {μ : Mem} (h : Good Z u μ) {b : Nat} (hb : u.heap.size ≤ b) : μ b = none := by
  cases hz : μ b with
  | none => rfl
  | some C => have := h.ltM (b := b) (by rw [hz]; simp); omega

/-- A new block of one's own. -/
theorem Good.born {Z : Fz} {u : UW} {μ : Mem} (h : Good Z u μ) {b : Nat} {w' : World} {A : Array Value} {T : TypeId} (hB : Born u.toWorld w' b (.cells A T (0, 0))) {cs : List PV} (hc : RepM Z cs A.toList) :
    Good Z (u.born b w') (μ.set b (some (.cells T cs))) ∧ Ext Z μ u.heap.size Z (μ.set b (some (.cells T cs))) ∧ μ b = none := by
  have hge : u.heap.size ≤ b := hB.ge
  have keep : ∀ c, c < u.heap.size → (u.born b w').heap[c]? = u.heap[c]? := fun c hc => hB.below.block c hc
  refine ⟨h.go (Fz.le.refl Z) (fun c C hC => .inl ⟨hC, keep c (h.ltZ (by rw [hC]; simp))⟩) (fun c o ho => ?_), ⟨Fz.le.refl Z, fun _ _ h _ => h, fun _ h => .inl h, fun c hc => ?_, fun _ h' => h.ltZ h'⟩, h.newM hge⟩
  · by_cases e : c = b
    · subst e
      rw [Mem.set_same] at ho
      cases ho
      exact .inr ⟨fun _ => .inr rfl, h.newZ hge, A, hB.at_, hc⟩
    · rw [Mem.set_ne _ _ e] at ho
      exact .inl ⟨ho, keep c (h.ltM (by rw [ho]; simp)), fun hp => .inl hp, rfl⟩
  · by_cases e : c = b
    · exact .inr (by omega)
    · rw [Mem.set_ne _ _ e] at hc; exact .inl hc

/-- A new block that is frozen. -/
theorem Good.bornF {Z : Fz} {u : UW} {μ : Mem} (h : Good Z u μ) {b : Nat} {w' : World} {A : Array Value} {T : TypeId} (hB : Born u.toWorld w' b (.cells A T (0, 0))) :
    Good (Z.set b A.toList) (u.born b w') μ ∧ Ext Z μ u.heap.size (Z.set b A.toList) μ := by
  have hge : u.heap.size ≤ b := hB.ge
  have keep : ∀ c, c < u.heap.size → (u.born b w').heap[c]? = u.heap[c]? := fun c hc => hB.below.block c hc
  have hle : Z.le (Z.set b A.toList) := Fz.set_le fun D hD => by rw [h.newZ hge] at hD; cases hD
  refine ⟨h.go hle (fun c C hC => ?_) (fun c o ho => ?_), ⟨hle, fun c C hC _ => ?_, fun c hc => ?_, fun _ h => .inl h, fun _ h' => h.ltZ h'⟩⟩
  · by_cases e : c = b
    · subst e
      rw [Fz.set_same] at hC; cases hC
      exact .inr ⟨A, T, _, hB.at_, List.prefix_refl _⟩
    · rw [Fz.set_ne _ _ e] at hC
      exact .inl ⟨hC, keep c (h.ltZ (by rw [hC]; simp))⟩
  · have hl := h.ltM (b := c) (by rw [ho]; simp)
    exact .inl ⟨ho, keep c hl, fun hp => .inl hp, Fz.set_ne _ _ (by omega)⟩
  · have hl := h.ltZ (b := c) (by rw [hC]; simp)
    rw [Fz.set_ne _ _ (by omega)]; exact hC
  · by_cases e : c = b
    · exact .inr (.inr (by omega))
    · rw [Fz.set_ne _ _ e] at hc; exact .inl hc

/-- A new block that may be gone on with. -/
theorem Good.bornT {Z : Fz} {u : UW} {μ : Mem} (h : Good Z u μ) {b : Nat} {w' : World} {A : Array Value} {T : TypeId} (hB : Born u.toWorld w' b (.cells A T (0, 0))) {C : List Value} (hp : C <+: A.toList) {m : Nat} (hm : m ≤ A.size) :
    Good (Z.set b C) (u.born b w') (μ.set b (some (.tip C.length m))) ∧ Ext Z μ u.heap.size (Z.set b C) (μ.set b (some (.tip C.length m))) ∧ μ b = none := by
  have hge : u.heap.size ≤ b := hB.ge
  have keep : ∀ c, c < u.heap.size → (u.born b w').heap[c]? = u.heap[c]? := fun c hc => hB.below.block c hc
  have hle : Z.le (Z.set b C) := Fz.set_le fun D hD => by rw [h.newZ hge] at hD; cases hD
  refine ⟨h.go hle (fun c C' hC => ?_) (fun c o ho => ?_), ⟨hle, fun c C' hC _ => ?_, fun c hc => ?_, fun c hc => ?_, fun _ h' => h.ltZ h'⟩, h.newM hge⟩
  · by_cases e : c = b
    · subst e
      rw [Fz.set_same] at hC; cases hC
      exact .inr ⟨A, T, _, hB.at_, hp⟩
    · rw [Fz.set_ne _ _ e] at hC
      exact .inl ⟨hC, keep c (h.ltZ (by rw [hC]; simp))⟩
  · by_cases e : c = b
    · subst e
      rw [Mem.set_same] at ho; cases ho
      exact .inr ⟨fun _ => .inr rfl, ⟨C, Fz.set_same _ _ _, rfl⟩, A, T, hB.at_, hm⟩
    · rw [Mem.set_ne _ _ e] at ho
      exact .inl ⟨ho, keep c (h.ltM (by rw [ho]; simp)), fun hp => .inl hp, Fz.set_ne _ _ e⟩
  · have hl := h.ltZ (b := c) (by rw [hC]; simp)
    rw [Fz.set_ne _ _ (by omega)]; exact hC
  · by_cases e : c = b
    · exact .inr (.inr (by omega))
    · rw [Fz.set_ne _ _ e] at hc; exact .inl hc
  · by_cases e : c = b
    · exact .inr (by omega)
    · rw [Mem.set_ne _ _ e] at hc; exact .inl hc

theorem RepM.take {Z : Fz} {ps : List PV} {vs : List Value} (h : RepM Z ps vs) (n : Nat) : RepM Z (ps.take n) (vs.take n) :=
  ⟨by simp [h.1], fun i p v a b => by
    rw [List.getElem?_take] at a b
    split at a
    · rename_i hi; rw [if_pos hi] at b; exact h.2 i p v a b
    · cases a⟩
theorem RepM.drop {Z : Fz} {ps : List PV} {vs : List Value} (h : RepM Z ps vs) (n : Nat) : RepM Z (ps.drop n) (vs.drop n) :=
  ⟨by simp [h.1], fun i p v a b => by rw [List.getElem?_drop] at a b; exact h.2 _ p v a b⟩
theorem RepM.append {Z : Fz} {ps qs : List PV} {vs ws : List Value} (h : RepM Z ps vs) (k : RepM Z qs ws) : RepM Z (ps ++ qs) (vs ++ ws) := by
  induction ps generalizing vs with
  | nil => rw [h.inv0]; exact k
  | cons p ps ih => obtain ⟨v, vs', rfl, h1, h2⟩ := h.inv; exact RepM.cons h1 (ih h2)

theorem wrL_rep {Z : Fz} {cs ps : List PV} {A : Array Value} {vs : List Value} {o : Nat} (h : RepM Z cs A.toList) (k : RepM Z ps vs) (hl : o + ps.length ≤ cs.length) : RepM Z (wrL cs o ps) (wrA A o vs).toList := by
  have hA : A.size = cs.length := by have := h.1; simpa using this
  rw [wrA_list _ _ _ (by rw [k.1, hA]; exact hl)]
  unfold wrL
  rw [k.1]
  exact ((h.take _).append k).append (h.drop _)

/-- Cells of one's own are written. -/
theorem Good.store {Z : Fz} {u : UW} {μ : Mem} (h : Good Z u μ) {b o : Nat} {T : TypeId} {cs ps : List PV} {vs : List Value} (hm : μ b = some (.cells T cs)) (hl : o + ps.length ≤ cs.length) (hv : RepM Z ps vs) {K : UW → Prop}
    (hK : ∀ w', Sto u.toWorld w' b (.cells (wrA ((u.heap[b]?.bind fun o => match o with | .cells A _ _ => some A | _ => none).getD #[]) o vs) T (0, 0)) → Good Z (u.sto w') (μ.set b (some (.cells T (wrL cs o ps)))) → Ext Z μ u.heap.size Z (μ.set b (some (.cells T (wrL cs o ps)))) → K (u.sto w')) : cStore b o vs u K := by
  obtain ⟨hp, hz, A, hA, hc⟩ := h.mem b _ hm
  have hp := hp rfl
  have hAs : A.size = cs.length := by have := hc.1; simpa using this
  refine ⟨A, T, hA, by rw [hv.1, hAs]; exact hl, hp, fun w' hs => ?_⟩
  have hA' : (u.heap[b]?.bind fun o => match o with | .cells A _ _ => some A | _ => none).getD #[] = A := by rw [hA]; rfl
  refine hK w' (by rw [hA']; exact hs) (h.go (Fz.le.refl Z) (fun c C hC => ?_) (fun c ob ho => ?_)) ⟨Fz.le.refl Z, fun _ _ h _ => h, fun _ h => .inl h, fun c hc => ?_, fun _ h' => h.ltZ h'⟩
  · have hl := h.ltZ (b := c) (by rw [hC]; simp)
    have hne : c ≠ b := by rintro rfl; rw [hz] at hC; cases hC
    exact .inl ⟨hC, hs.ne c hne hl⟩
  · by_cases e : c = b
    · subst e
      rw [Mem.set_same] at ho; cases ho
      exact .inr ⟨fun _ => hp, hz, _, hs.at_, wrL_rep hc hv hl⟩
    · rw [Mem.set_ne _ _ e] at ho
      have hl := h.ltM (b := c) (by rw [ho]; simp)
      exact .inl ⟨ho, hs.ne c e hl, fun hp => hp, rfl⟩
  · by_cases e : c = b
    · subst e; exact .inl (by rw [hm]; simp)
    · rw [Mem.set_ne _ _ e] at hc; exact .inl hc

/-- A block is gone on with in its place. -/
theorem Good.grow {Z : Fz} {u : UW} {μ : Mem} (h : Good Z u μ) {b n m : Nat} {new : List Value} (hm : μ b = some (.tip n m)) (hl : n + new.length ≤ m) {K : UW → Prop}
    (hK : ∀ w' C, Z b = some C → C.length = n → Good (Z.set b (C ++ new)) (u.sto w') (μ.set b (some (.tip (n + new.length) m))) → Ext Z μ u.heap.size (Z.set b (C ++ new)) (μ.set b (some (.tip (n + new.length) m))) → u.heap.size ≤ w'.heap.size → Wf (u.sto w') → K (u.sto w')) (hw : Wf u) : cStore b n new u K := by
  obtain ⟨hp, ⟨C, hz, hC⟩, A, T, hA, hmA⟩ := h.mem b _ hm
  have hp := hp rfl
  obtain ⟨A', T', f', hA', hpre⟩ := h.zok b C hz
  rw [hA] at hA'
  simp only [Option.some.injEq, Obj.cells.injEq] at hA'
  obtain ⟨rfl, rfl, rfl⟩ := hA'
  refine ⟨A, T, hA, by omega, hp, fun w' hs => ?_⟩
  have hwl : (wrA A n new).toList = A.toList.take n ++ new ++ A.toList.drop (n + new.length) := wrA_list _ _ _ (by omega)
  have htk : A.toList.take n = C := by
    obtain ⟨t, ht⟩ := hpre
    rw [← ht, ← hC, List.take_left]
  have hle : Z.le (Z.set b (C ++ new)) := Fz.set_le fun D hD => by rw [hz] at hD; cases hD; exact List.prefix_append _ _
  refine hK w' C hz hC (h.go hle (fun c C' hC' => ?_) (fun c ob ho => ?_)) ⟨hle, fun c C' hC' hn => ?_, fun c hc => ?_, fun c hc => ?_, fun _ h' => h.ltZ h'⟩ hs.size (hw.sto hs)
  · by_cases e : c = b
    · subst e
      rw [Fz.set_same] at hC'; cases hC'
      refine .inr ⟨_, _, _, hs.at_, ?_⟩
      rw [hwl, htk]
      exact List.prefix_append _ _
    · rw [Fz.set_ne _ _ e] at hC'
      exact .inl ⟨hC', hs.ne c e (h.ltZ (by rw [hC']; simp))⟩
  · by_cases e : c = b
    · subst e
      rw [Mem.set_same] at ho; cases ho
      exact .inr ⟨fun _ => hp, ⟨_, Fz.set_same _ _ _, by simp [hC]⟩, _, _, hs.at_, by rw [wrA_size]; exact hmA⟩
    · rw [Mem.set_ne _ _ e] at ho
      exact .inl ⟨ho, hs.ne c e (h.ltM (by rw [ho]; simp)), fun hp => hp, Fz.set_ne _ _ e⟩
  · have hne : c ≠ b := by rintro rfl; rw [hm] at hn; cases hn
    rw [Fz.set_ne _ _ hne]; exact hC'
  · by_cases e : c = b
    · subst e; exact .inr (.inl (by rw [hm]; simp))
    · rw [Fz.set_ne _ _ e] at hc; exact .inl hc
  · by_cases e : c = b
    · subst e; exact .inl (by rw [hm]; simp)
    · rw [Mem.set_ne _ _ e] at hc; exact .inl hc

/-! ### lists and cells -/
theorem flatIdx {α : Type} {sz : Nat} (h0 : 0 < sz) : ∀ {rows : List (List α)}, (∀ r ∈ rows, r.length = sz) → ∀ k : Nat, rows.flatten[k]? = (rows[k / sz]?).bind fun r => r[k % sz]?
  | [], _, k => by simp
  | r :: rows, h, k => by
    have hr : r.length = sz := h r (by simp)
    rw [List.flatten_cons]
    by_cases hk : k < sz
    · rw [List.getElem?_append_left (by omega), Nat.div_eq_of_lt hk, Nat.mod_eq_of_lt hk]; simp
    · rw [List.getElem?_append_right (by omega), flatIdx h0 (fun r' hr' => h r' (by simp [hr'])) (k - r.length), hr]
      have e1 : k / sz = (k - sz) / sz + 1 := by
        have : k = (k - sz) + sz := by omega
        rw [this, Nat.add_div_right _ h0]; simp
      have e2 : k % sz = (k - sz) % sz := by
        have : k = (k - sz) + sz := by omega
        rw [this, Nat.add_mod_right]; simp
      rw [e1, e2, List.getElem?_cons_succ]

theorem flatLen {α : Type} {sz : Nat} : ∀ {rows : List (List α)}, (∀ r ∈ rows, r.length = sz) → rows.flatten.length = rows.length * sz
  | [], _ => by simp
  | r :: rows, h => by
    rw [List.flatten_cons, List.length_append, flatLen fun r' hr' => h r' (by simp [hr']), h r (by simp), List.length_cons, Nat.add_mul, Nat.one_mul, Nat.add_comm]

/-- A frozen run of cells is a list. -/
theorem rep_list {Z : Fz} {sz : Nat} {fl : Fl} {rows : List (List PV)} {vs : List Value} {b o c : Nat} {C : List Value} (hr : ∀ r ∈ rows, r.length = sz) (hv : RepC Z rows.flatten vs) (hz : Z b = some C) (hC : ∀ k, k < vs.length → C[o + k]? = vs[k]?) (hc : rows.length ≤ c)
    (hf : FlOk fl (some ⟨b, o, none⟩) rows.length c) : Rep Z (.list sz fl rows) (.slice (some ⟨b, o, none⟩) rows.length c) := by
  have hlen : vs.length = rows.length * sz := by rw [hv.1, flatLen hr]
  have idx : ∀ i j, i < rows.length → j < sz → i * sz + j < vs.length := fun i j hi hj => by
    rw [hlen]
    calc i * sz + j < i * sz + sz := by omega
      _ = (i + 1) * sz := by rw [Nat.add_mul, Nat.one_mul]
      _ ≤ rows.length * sz := Nat.mul_le_mul_right _ (by omega)
  have flat : ∀ (i j : Nat) row p, rows[i]? = some row → row[j]? = some p → rows.flatten[i * sz + j]? = some p := fun i j row p hi hj => by
    have hj' : j < sz := by
      have := (List.getElem?_eq_some_iff.1 hj).1
      rw [hr row (List.mem_of_getElem? hi)] at this; exact this
    have h0 : 0 < sz := by omega
    rw [flatIdx h0 hr]
    have e1 : (i * sz + j) / sz = i := by
      rw [Nat.mul_comm, Nat.mul_add_div h0, Nat.div_eq_of_lt hj', Nat.add_zero]
    have e2 : (i * sz + j) % sz = j := by rw [Nat.mul_comm, Nat.mul_add_mod, Nat.mod_eq_of_lt hj']
    rw [e1, e2, hi]; exact hj
  have cells : ∀ (i j : Nat) row p, rows[i]? = some row → row[j]? = some p → ∃ v, vs[i * sz + j]? = some v ∧ p.cell = true ∧ Rep Z p v := fun i j row p hi hj => hv.get (flat i j row p hi hj)
  refine .list sz fl rows _ _ c b o C (fun i j => (vs[i * sz + j]?).getD undef) rfl hc (.inr fun x h => by cases h; rfl) hr (fun _ => ⟨rfl, hz⟩) (fun i j hi hj => ?_) (fun i j row p hi hj => ?_) (fun i j row p hi hj => ?_) hf
  · have hlt := idx i j hi hj
    rw [Nat.add_assoc, hC _ hlt, List.getElem?_eq_getElem hlt]; rfl
  · obtain ⟨v, _, h, _⟩ := cells i j row p hi hj; exact h
  · obtain ⟨v, h1, _, h2⟩ := cells i j row p hi hj
    simp only [h1]; exact h2

/-- A list's cells. -/
theorem list_cells {Z : Fz} {u : UW} {μ : Mem} (hg : Good Z u μ) {sz : Nat} {fl : Fl} {rows : List (List PV)} {a : Option Addr} {n c : Nat} (h : Rep Z (.list sz fl rows) (.slice a n c)) (hne : rows ≠ [] → sz ≠ 0) :
    ∃ vs, RepC Z rows.flatten vs ∧ vs.length = n * sz ∧ (n = 0 → vs = []) ∧ (n ≠ 0 → ∃ b o C, a = some ⟨b, o, none⟩ ∧ Z b = some C ∧ rd u.heap b o (n * sz) = some vs ∧ vs = (C.drop o).take (n * sz)) := by
  cases h with
  | list _ _ _ _ _ _ b o C g hn hc hs hr ha hgg hk hp hf =>
    by_cases h0 : n = 0
    · have : rows = [] := List.eq_nil_of_length_eq_zero (by omega)
      subst this
      exact ⟨[], RepC.nil Z, by simp [h0], fun _ => rfl, fun h => absurd h0 h⟩
    · obtain ⟨ea, ez⟩ := ha h0
      obtain ⟨A, T, f, hA, hpre⟩ := hg.zok b C ez
      have hs0 : sz ≠ 0 := hne (by rintro rfl; simp at hn; omega)
      · have h0' : 0 < sz := by omega
        have hlast := hgg (n - 1) (sz - 1) (by omega) (by omega)
        have hCl : o + n * sz ≤ C.length := by
          have hlt := (List.getElem?_eq_some_iff.1 hlast).1
          have e : (n - 1) * sz + sz = n * sz := by rw [← Nat.succ_mul]; congr 1; omega
          omega
        have hvl : ((C.drop o).take (n * sz)).length = n * sz := by simp; omega
        refine ⟨(C.drop o).take (n * sz), ⟨by rw [hvl, flatLen hr, hn], fun k p v hp' hv => ?_⟩, hvl, fun h => absurd h h0, fun _ => ⟨b, o, C, ea, ez, ?_, rfl⟩⟩
        · rw [flatIdx h0' hr] at hp'
          cases hrow : rows[k / sz]? with
          | none => rw [hrow] at hp'; cases hp'
          | some row =>
            rw [hrow] at hp'
            simp only [Option.bind_some] at hp'
            have hi : k / sz < n := by rw [← hn]; exact (List.getElem?_eq_some_iff.1 hrow).1
            have hj : k % sz < sz := Nat.mod_lt _ h0'
            have hg2 := hgg (k / sz) (k % sz) hi hj
            have hkk : k / sz * sz + k % sz = k := by rw [Nat.mul_comm]; exact Nat.div_add_mod k sz
            rw [Nat.add_assoc, hkk] at hg2
            have hk' : k < n * sz := by
              have := (List.getElem?_eq_some_iff.1 hv).1; rw [hvl] at this; exact this
            rw [List.getElem?_take, if_pos hk', List.getElem?_drop, hg2] at hv
            cases hv
            exact ⟨hk _ _ _ _ hrow hp', hp _ _ _ _ hrow hp'⟩
        · obtain ⟨t, ht⟩ := hpre
          rw [rd_of hA (by have : A.size = C.length + t.length := by have := congrArg List.length ht; simpa using this.symm
                           omega), ← ht]
          congr 1
          rw [List.drop_append_of_le_length (by omega), List.take_append_of_le_length (by simp; omega)]

end Go.Eng
