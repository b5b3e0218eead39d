import Derived.Test.YtdiimonfmdbclaaPvU
/-
  Sets that rise, in memory of their own: how they lie there.
-/
namespace Go.Eng
open Go.RowKit
set_option linter.unusedVariables false
set_option linter.unusedSimpArgs false
set_option linter.unnecessarySimpa false

/-- Nothing turned but in F, which lies in F' now. -/
structure Mv (μ μ' : Mem) (F F' : List Nat) : Prop where
  keep : ∀ x, μ x ≠ none → x ∉ F → μ' x = μ x
  grow : ∀ x ∈ F', x ∈ F ∨ μ x = none

theorem Mv.refl (μ : Mem) (F : List Nat) : Mv μ μ F F := ⟨fun _ _ _ => rfl, fun _ h => .inl h⟩
theorem Mv.trans {μ μ' μ'' : Mem} {F F' F'' : List Nat} (h : Mv μ μ' F F') (k : Mv μ' μ'' F' F'') : Mv μ μ'' F F'' := by
  have hk : ∀ x, μ x ≠ none → x ∉ F → μ'' x = μ x := fun x hx hn => by
    have e := h.keep x hx hn
    have hn' : x ∉ F' := fun h' => by
      rcases h.grow x h' with h1 | h1
      · exact hn h1
      · exact hx h1
    rw [k.keep x (by rw [e]; exact hx) hn', e]
  refine ⟨hk, fun x hx => ?_⟩
  rcases k.grow x hx with h1 | h1
  · exact h.grow x h1
  · by_cases hf : x ∈ F
    · exact .inl hf
    · right
      cases hm : μ x with
      | none => rfl
      | some o => rw [h.keep x (by rw [hm]; simp) hf, hm] at h1; cases h1
/-- Where more may turn. -/
theorem Mv.wide {μ μ' : Mem} {F F' G : List Nat} (h : Mv μ μ' F F') (hG : ∀ x ∈ F, x ∈ G) : Mv μ μ' G (F' ++ G) := ⟨fun x hx hn => h.keep x hx fun hf => hn (hG x hf), fun x hx => by
  rcases List.mem_append.1 hx with h1 | h1
  · exact (h.grow x h1).imp (hG x) id
  · exact .inl h1⟩
theorem Mv.sub {μ μ' : Mem} {F F' G : List Nat} (h : Mv μ μ' F F') (hG : ∀ x ∈ G, x ∈ F') : Mv μ μ' F G := ⟨h.keep, fun x hx => h.grow x (hG x hx)⟩
theorem Mv.set {μ : Mem} {b : Nat} {o : Option Ob} {F : List Nat} (h : b ∈ F ∨ μ b = none) : Mv μ (μ.set b o) F (b :: F) := ⟨fun x hx hn => by
  have : x ≠ b := by
    rintro rfl
    rcases h with h | h
    · exact hn h
    · exact hx h
  exact Mem.set_ne _ _ this, fun x hx => by
  rcases List.mem_cons.1 hx with rfl | h1
  · exact h
  · exact .inl h1⟩

/-! ### rows within cells -/
theorem flat_take {sz : Nat} : ∀ {R : List (List PV)} {s : Nat}, (∀ r ∈ R, r.length = sz) → s ≤ R.length → (R.flatten).take (s * sz) = (R.take s).flatten
  | R, 0, _, _ => by simp
  | [], s + 1, _, h => by simp at h
  | r :: R, s + 1, hR, h => by
    have hr : r.length = sz := hR r (by simp)
    rw [List.flatten_cons, List.take_succ_cons, List.flatten_cons, Nat.succ_mul, Nat.add_comm, ← hr, List.take_length_add_append, hr, flat_take (fun x hx => hR x (by simp [hx])) (by simpa using h)]
theorem flat_drop {sz : Nat} : ∀ {R : List (List PV)} {s : Nat}, (∀ r ∈ R, r.length = sz) → s ≤ R.length → (R.flatten).drop (s * sz) = (R.drop s).flatten
  | R, 0, _, _ => by simp
  | [], s + 1, _, h => by simp at h
  | r :: R, s + 1, hR, h => by
    have hr : r.length = sz := hR r (by simp)
    rw [List.flatten_cons, List.drop_succ_cons, Nat.succ_mul, Nat.add_comm, ← hr, List.drop_length_add_append, hr, flat_drop (fun x hx => hR x (by simp [hx])) (by simpa using h)]

theorem rdRow {μ : Mem} {b sz s : Nat} {e : TypeId} {R : List (List PV)} {rest r : List PV} (hR : ∀ r ∈ R, r.length = sz) (hm : μ b = some (.cells e (R.flatten ++ rest))) (hs : R[s]? = some r) : rdM μ b (s * sz) sz = some r := by
  have hlt : s < R.length := (List.getElem?_eq_some_iff.1 hs).1
  have hr : r.length = sz := hR r (List.mem_of_getElem? hs)
  have hfl : R.flatten.length = R.length * sz := flatLen hR
  have hle : s * sz + sz ≤ R.flatten.length := by rw [hfl, ← Nat.succ_mul]; exact Nat.mul_le_mul_right _ hlt
  simp only [rdM, hm]
  rw [if_pos (by rw [List.length_append]; omega), List.drop_append_of_le_length (by omega), flat_drop hR (Nat.le_of_lt hlt), List.drop_eq_getElem_cons hlt, List.flatten_cons, List.append_assoc]
  have : R[s] = r := by have := List.getElem?_eq_getElem hlt; rw [hs] at this; exact (Option.some.inj this).symm
  rw [this, ← hr, List.take_left']
  rfl

theorem wrRow {sz s : Nat} {R : List (List PV)} {rest r : List PV} (hR : ∀ r ∈ R, r.length = sz) (hs : s < R.length) (hr : r.length = sz) : wrL (R.flatten ++ rest) (s * sz) r = (R.set s r).flatten ++ rest := by
  have hfl : R.flatten.length = R.length * sz := flatLen hR
  have hle : s * sz + sz ≤ R.flatten.length := by rw [hfl, ← Nat.succ_mul]; exact Nat.mul_le_mul_right _ hs
  unfold wrL
  rw [List.take_append_of_le_length (by omega), flat_take hR (Nat.le_of_lt hs), hr, List.drop_append_of_le_length hle, show s * sz + sz = (s + 1) * sz by rw [Nat.succ_mul], flat_drop hR hs, List.set_eq_take_append_cons_drop, if_pos hs]
  simp [List.flatten_append]

/-! ### sets -/
/-- A slice of the set's own. -/
def RawIn (Ts e : TypeId) (sz : Nat) (μ : Mem) (b : Nat) (rows : List (List PV)) (F : List Nat) : Prop :=
  (F = [b] ∧ rows = [] ∧ μ b = some (.cells Ts [.raw (.slice none 0 0), pB false])) ∨
  (∃ b' c rest, F = [b, b'] ∧ b' ≠ b ∧ μ b = some (.cells Ts [.raw (.slice (some ⟨b', 0, none⟩) rows.length c), pB false]) ∧ μ b' = some (.cells e (rows.flatten ++ rest)) ∧ rows.length * sz + rest.length = c * sz ∧ rows.length ≤ c)

structure SetIn (Ts e : TypeId) (sz : Nat) (μ : Mem) (b : Nat) (rows : List (List PV)) (F : List Nat) : Prop where
  each : ∀ r ∈ rows, r.length = sz
  cell : allCell rows.flatten = true
  lies : (F = [b] ∧ μ b = some (.cells Ts [.list sz .sh rows, pB true])) ∨ (F = [b] ∧ rows = [] ∧ μ b = some (.cells Ts [.list sz .nil [], pB false])) ∨ RawIn Ts e sz μ b rows F

theorem RawIn.at_ {Ts e : TypeId} {sz : Nat} {μ : Mem} {b : Nat} {rows : List (List PV)} {F : List Nat} (h : RawIn Ts e sz μ b rows F) : b ∈ F ∧ ∀ x ∈ F, μ x ≠ none := by
  rcases h with ⟨rfl, _, h⟩ | ⟨b', c, rest, rfl, _, h, h', _⟩
  · simp [h]
  · refine ⟨by simp, fun x hx => ?_⟩
    simp only [List.mem_cons, List.not_mem_nil, or_false] at hx
    rcases hx with rfl | rfl
    · rw [h]; simp
    · rw [h']; simp

theorem SetIn.at_ {Ts e : TypeId} {sz : Nat} {μ : Mem} {b : Nat} {rows : List (List PV)} {F : List Nat} (h : SetIn Ts e sz μ b rows F) : b ∈ F ∧ ∀ x ∈ F, μ x ≠ none := by
  rcases h.lies with ⟨rfl, h1⟩ | ⟨rfl, _, h1⟩ | h1
  · simp [h1]
  · simp [h1]
  · exact h1.at_

theorem SetIn.same {Ts e : TypeId} {sz : Nat} {μ μ' : Mem} {b : Nat} {rows : List (List PV)} {F : List Nat} (h : SetIn Ts e sz μ b rows F) (hk : ∀ x ∈ F, μ' x = μ x) : SetIn Ts e sz μ' b rows F := by
  have hb := hk b h.at_.1
  refine ⟨h.each, h.cell, ?_⟩
  rcases h.lies with ⟨rfl, h1⟩ | ⟨rfl, h0, h1⟩ | ⟨rfl, h0, h1⟩ | ⟨b', c, rest, rfl, h0, h1, h2, h3⟩
  · exact .inl ⟨rfl, by rw [hb]; exact h1⟩
  · exact .inr (.inl ⟨rfl, h0, by rw [hb]; exact h1⟩)
  · exact .inr (.inr (.inl ⟨rfl, h0, by rw [hb]; exact h1⟩))
  · exact .inr (.inr (.inr ⟨b', c, rest, rfl, h0, by rw [hb]; exact h1, by rw [hk b' (by simp)]; exact h2, h3⟩))

theorem RawIn.slM {Ts e : TypeId} {sz : Nat} {μ : Mem} {b : Nat} {rows : List (List PV)} {F : List Nat} (h : RawIn Ts e sz μ b rows F) (hr : ∀ r ∈ rows, r.length = sz) (hc : allCell rows.flatten = true) :
    ∃ a c μ1, μ b = some (.cells Ts [.raw (.slice a rows.length c), pB false]) ∧ (∀ x o, μ1 x = some o → μ x = some o ∧ x ∈ F ∧ x ≠ b) ∧ (∀ x ∈ F, x ≠ b → μ1 x = μ x) ∧ SlM μ1 a rows.length c sz rows := by
  rcases h with ⟨rfl, rfl, h⟩ | ⟨b', c, rest, rfl, h0, h1, h2, h3, h4⟩
  · exact ⟨none, 0, M0, h, fun x o hx => (by cases hx), fun x hx hn => absurd (by simpa using hx) hn, rfl, Nat.le_refl _, .inl rfl, hr, hc, fun h => absurd rfl h⟩
  · refine ⟨_, c, M0.set b' (μ b'), h1, fun x o hx => ?_, fun x hx hn => ?_, rfl, h4, .inr fun x hx => by cases hx; rfl, hr, hc, fun _ => ⟨b', 0, rfl, ?_⟩⟩
    · by_cases e : x = b'
      · subst e; rw [Mem.set_same] at hx; exact ⟨hx, by simp, h0⟩
      · rw [Mem.set_ne _ _ e] at hx; cases hx
    · simp only [List.mem_cons, List.not_mem_nil, or_false] at hx
      rw [hx.resolve_left hn, Mem.set_same]
    · have hfl : rows.flatten.length = rows.length * sz := flatLen hr
      simp only [rdM, Mem.set_same, h2]
      rw [if_pos (by simp [hfl]), List.drop_zero, ← hfl, List.take_left']
      rfl

/-- What only looks at a set. -/
theorem SetIn.query {P : Program} {g : FuncId} {args : List PV} {Ts e : TypeId} {sz : Nat} {μ : Mem} {b : Nat} {rows : List (List PV)} {F : List Nat} {K : PV → Mem → Prop} {Kq : PV → Prop} (h : SetIn Ts e sz μ b rows F)
    (hc : ∀ s, CallP P g args (M0.set b (some (.ro Ts [.list sz .sh rows, pB s]))) fun p _ => Kq p) (hf : ∀ p, Kq p → p.flat = true) (hk : ∀ p, Kq p → K p μ) : CallP P g args μ K := by
  have one : ∀ {s : Bool} {μ1 : Mem} {c : PV}, μ1 b = none → μ b = some (.cells Ts [c, pB s]) → BorV μ1 c (.list sz .sh rows) → ∀ x o, (M0.set b (some (.ro Ts [.list sz .sh rows, pB s]))) x = some o → μ1 x = none ∧ ∃ T cs ds, o = .ro T ds ∧ μ x = some (.cells T cs) ∧ BorL μ1 cs ds := fun hn hm hb x o hx => by
    by_cases e : x = b
    · subst e
      rw [Mem.set_same] at hx
      cases hx
      exact ⟨hn, Ts, _, _, rfl, hm, BorL.cons hb (BorL.refl _ _)⟩
    · rw [Mem.set_ne _ _ e] at hx; cases hx
  rcases h.lies with ⟨rfl, hm⟩ | ⟨rfl, h0, hm⟩ | hr
  · exact CallP.query (hc true) (μ1 := M0) (fun _ _ h => by cases h) (one rfl hm (.same _)) hf hk
  · subst h0
    exact CallP.query (hc false) (μ1 := M0) (fun _ _ h => by cases h) (one rfl hm (.wk (.list sz .nil []))) hf hk
  · obtain ⟨a, c, μ1, hm, h1, _, hs⟩ := hr.slM h.each h.cell
    refine CallP.query (hc false) (μ1 := μ1) (fun x o hx => (h1 x o hx).1) (one ?_ hm (.list hs)) hf hk
    cases hx : μ1 b with
    | none => rfl
    | some o => exact absurd rfl (h1 b o hx).2.2

/-- A set's list, held by anyone from now on. -/
theorem SetIn.list {Ts e : TypeId} {sz : Nat} {μ : Mem} {b : Nat} {rows : List (List PV)} {F : List Nat} (h : SetIn Ts e sz μ b rows F) : ∃ μ' s, GU μ μ' ∧ μ' b = some (.cells Ts [.list sz .sh rows, pB s]) ∧ Mv μ μ' F [b] := by
  rcases h.lies with ⟨rfl, hm⟩ | ⟨rfl, h0, hm⟩ | hr
  · exact ⟨μ, true, GU.refl μ, hm, Mv.refl _ _⟩
  · subst h0
    refine ⟨μ.set b (some (.cells Ts [.list sz .sh [], pB false])), false, GU.bor (μ1 := M0) (fun _ _ h => by cases h) fun x o hx => ⟨rfl, ?_⟩, Mem.set_same _ _ _, (Mv.set (.inl (by simp))).sub (by simp)⟩
    by_cases e : x = b
    · subst e
      rw [Mem.set_same] at hx; cases hx
      exact .inr ⟨Ts, _, _, rfl, hm, BorL.cons (.wk (.list sz .nil [])) (BorL.refl _ _)⟩
    · rw [Mem.set_ne _ _ e] at hx; exact .inl hx
  · obtain ⟨a, c, μ1, hm, h1, h2, hs⟩ := hr.slM h.each h.cell
    have hb : μ1 b = none := by
      cases hx : μ1 b with
      | none => rfl
      | some o => exact absurd rfl (h1 b o hx).2.2
    refine ⟨fun x => if x = b then some (.cells Ts [.list sz .sh rows, pB false]) else if μ1 x = none then μ x else none, false, GU.bor (μ1 := μ1) (fun x o hx => (h1 x o hx).1) fun x o hx => ?_, if_pos rfl, ⟨fun x hx hn => ?_, fun x hx => .inl (by simp at hx; rw [hx]; exact hr.at_.1)⟩⟩
    · by_cases e : x = b
      · subst e
        rw [if_pos rfl] at hx; cases hx
        exact ⟨hb, .inr ⟨Ts, _, _, rfl, hm, BorL.cons (.list hs) (BorL.refl _ _)⟩⟩
      · rw [if_neg e] at hx
        split at hx
        · rename_i hn; exact ⟨hn, .inl hx⟩
        · cases hx
    · have hne : x ≠ b := by rintro rfl; exact hn hr.at_.1
      simp only [if_neg hne]
      rw [if_pos]
      cases hx1 : μ1 x with
      | none => rfl
      | some o => exact absurd (h1 x o hx1).2.1 hn

/-- nil as a slice of its own. -/
theorem SetIn.raw {Ts e : TypeId} {sz : Nat} {μ : Mem} {b : Nat} {rows : List (List PV)} {F : List Nat} (h : SetIn Ts e sz μ b rows F) : ∃ μ', GU μ μ' ∧ Mv μ μ' F F ∧ ((F = [b] ∧ μ' b = some (.cells Ts [.list sz .sh rows, pB true])) ∨ RawIn Ts e sz μ' b rows F) := by
  rcases h.lies with ⟨rfl, hm⟩ | ⟨rfl, h0, hm⟩ | hr
  · exact ⟨μ, GU.refl μ, Mv.refl _ _, .inl ⟨rfl, hm⟩⟩
  · subst h0
    refine ⟨μ.set b (some (.cells Ts [.raw (.slice none 0 0), pB false])), GU.bor (μ1 := M0) (fun _ _ h => by cases h) fun x o hx => ⟨rfl, ?_⟩, (Mv.set (.inl (by simp))).sub (by simp), .inr (.inl ⟨rfl, rfl, Mem.set_same _ _ _⟩)⟩
    by_cases e : x = b
    · subst e
      rw [Mem.set_same] at hx; cases hx
      exact .inr ⟨Ts, _, _, rfl, hm, BorL.cons (.nil sz []) (BorL.refl _ _)⟩
    · rw [Mem.set_ne _ _ e] at hx; exact .inl hx
  · exact ⟨μ, GU.refl μ, Mv.refl _ _, .inr hr⟩

theorem allCell_append {xs ys : List PV} (h : allCell xs = true) (k : allCell ys = true) : allCell (xs ++ ys) = true := by
  unfold allCell at *; rw [List.all_append, h, k]; rfl

/-- One more row, at the end. -/
theorem RawIn.app {Ts e : TypeId} {sz : Nat} {μ : Mem} {b : Nat} {rows : List (List PV)} {F : List Nat} (h : RawIn Ts e sz μ b rows F) (hr : ∀ r ∈ rows, r.length = sz) : ∃ a c, μ b = some (.cells Ts [.raw (.slice a rows.length c), pB false]) ∧
    ∀ (r : List PV) (bytes : Nat) (K : Option Addr → Nat → Nat → Mem → Prop), r.length = sz → allCell r = true → (rows.length + 1) * bytes ≤ 140737488355328 → rows.length + 1 < 4611686018427387904 →
      (∀ b' c' rest μ2, b' ≠ b → μ2 b = μ b → μ2 b' = some (.cells e ((rows ++ [r]).flatten ++ rest)) → (rows.length + 1) * sz + rest.length = c' * sz → rows.length + 1 ≤ c' → Mv μ μ2 F [b, b'] → K (some ⟨b', 0, none⟩) (rows.length + 1) c' μ2) →
      appR sz bytes e a rows.length c (.list sz .nr [r]) μ K := by
  have okr : ∀ r : List PV, okSz sz sz [r] = true := fun r => by simp [okSz, Nat.beq_refl]
  have hfl : rows.flatten.length = rows.length * sz := flatLen hr
  rcases h with ⟨rfl, rfl, hm⟩ | ⟨b0, c, rest, rfl, h0, h1, h2, h3, h4⟩
  · refine ⟨none, 0, hm, fun r bytes K hl hcl hb h62 hK => ?_⟩
    unfold appR newC
    simp only [okr, cond_true]
    refine ⟨by simpa using hb, by simpa using h62, Nat.le_refl _, .inr ⟨by simp, by simpa using hcl, fun h => by simp at h, fun _ => ⟨[], .inl ⟨rfl, rfl⟩, fun b' c' hn hc' => ?_⟩⟩⟩
    have hne : b' ≠ b := by rintro rfl; rw [hm] at hn; cases hn
    refine hK b' c' (List.replicate ((c' - (0 + 1)) * sz) .poison) _ hne (by rw [Mem.set_ne _ _ (Ne.symm hne)]) ?_ ?_ (by simpa using hc') ((Mv.set (.inr hn)).sub (by simp))
    · rw [Mem.set_same]; simp
    · simp only [List.length_nil, List.length_replicate]
      rw [← Nat.add_mul]; congr 1; simp at hc'; omega
  · refine ⟨_, c, h1, fun r bytes K hl hcl hb h62 hK => ?_⟩
    unfold appR newC
    simp only [okr, cond_true]
    have hrd : rdM μ b0 0 (rows.length * sz) = some rows.flatten := by
      simp only [rdM, h2]
      rw [if_pos (by simp [hfl]), List.drop_zero, ← hfl, List.take_left']
      rfl
    refine ⟨by simpa using hb, by simpa using h62, h4, .inr ⟨by simp, by simpa using hcl, fun hle => ⟨b0, 0, e, _, rfl, h2, by simp [hfl, h3], ?_⟩, fun hlt => ⟨_, .inr ⟨b0, 0, rfl, hrd⟩, fun b' c' hn hc' => ?_⟩⟩⟩
    · simp only [List.length_singleton] at hle ⊢
      have hle' : (rows.length + 1) * sz ≤ c * sz := Nat.mul_le_mul_right _ hle
      have hsz : sz ≤ rest.length := by rw [Nat.succ_mul] at hle'; omega
      refine hK b0 c (rest.drop sz) _ h0 (by rw [Mem.set_ne _ _ (Ne.symm h0)]) ?_ ?_ hle ((Mv.set (.inl (by simp))).sub (by simp))
      · rw [Mem.set_same]
        congr 2
        unfold wrL
        rw [Nat.zero_add, ← hfl, List.take_left' rfl, List.flatten_cons, List.flatten_nil, List.append_nil, List.drop_length_add_append, hl, List.flatten_append]
        simp
      · rw [List.length_drop, Nat.succ_mul]; omega
    · simp only [List.length_singleton] at hc' ⊢
      have hne : b' ≠ b := by rintro rfl; rw [h1] at hn; cases hn
      refine hK b' c' (List.replicate ((c' - (rows.length + 1)) * sz) .poison) _ hne (by rw [Mem.set_ne _ _ (Ne.symm hne)]) ?_ ?_ hc' ((Mv.set (F := [b, b0]) (.inr hn)).sub (by simp))
      · rw [Mem.set_same]; simp
      · rw [List.length_replicate, ← Nat.add_mul]; congr 1; omega

/-! ### a slice of one's own, held in some cell -/
def OwnV (e : TypeId) (sz : Nat) (μ : Mem) (p : PV) (rows : List (List PV)) (F : List Nat) : Prop :=
  (p = .raw (.slice none 0 0) ∧ rows = [] ∧ F = []) ∨
  (∃ b c rest, p = .raw (.slice (some ⟨b, 0, none⟩) rows.length c) ∧ F = [b] ∧ μ b = some (.cells e (rows.flatten ++ rest)) ∧ rows.length * sz + rest.length = c * sz ∧ rows.length ≤ c)

theorem OwnV.at_ {e : TypeId} {sz : Nat} {μ : Mem} {p : PV} {rows : List (List PV)} {F : List Nat} (h : OwnV e sz μ p rows F) : ∀ x ∈ F, μ x ≠ none := by
  rcases h with ⟨_, _, rfl⟩ | ⟨b, c, rest, _, rfl, h, _⟩
  · intro x hx; cases hx
  · intro x hx; simp at hx; subst hx; rw [h]; simp

theorem OwnV.same {e : TypeId} {sz : Nat} {μ μ' : Mem} {p : PV} {rows : List (List PV)} {F : List Nat} (h : OwnV e sz μ p rows F) (hk : ∀ x ∈ F, μ' x = μ x) : OwnV e sz μ' p rows F := by
  rcases h with h | ⟨b, c, rest, h1, rfl, h2, h3⟩
  · exact .inl h
  · exact .inr ⟨b, c, rest, h1, rfl, by rw [hk b (by simp)]; exact h2, h3⟩

theorem OwnV.view {e : TypeId} {sz : Nat} {μ : Mem} {p : PV} {rows : List (List PV)} {F : List Nat} (h : OwnV e sz μ p rows F) (hr : ∀ r ∈ rows, r.length = sz) (hc : allCell rows.flatten = true) : BorV μ p (.list sz .sh rows) := by
  rcases h with ⟨rfl, rfl, _⟩ | ⟨b, c, rest, rfl, _, h2, h3, h4⟩
  · exact .lst0 none 0 sz (.inl rfl)
  · have hfl : rows.flatten.length = rows.length * sz := flatLen hr
    refine .list ⟨rfl, h4, .inr fun x hx => by cases hx; rfl, hr, hc, fun _ => ⟨b, 0, rfl, ?_⟩⟩
    simp only [rdM, h2]
    rw [if_pos (by simp [hfl]), List.drop_zero, ← hfl, List.take_left']
    rfl

/-- One more row, at the end. -/
theorem OwnV.app {e : TypeId} {sz : Nat} {μ : Mem} {p : PV} {rows : List (List PV)} {F : List Nat} (h : OwnV e sz μ p rows F) (hr : ∀ r ∈ rows, r.length = sz) : ∃ a c, p = .raw (.slice a rows.length c) ∧
    ∀ (r : List PV) (bytes : Nat) (K : Option Addr → Nat → Nat → Mem → Prop), r.length = sz → allCell r = true → (rows.length + 1) * bytes ≤ 140737488355328 → rows.length + 1 < 4611686018427387904 →
      (∀ b' c' rest μ2, μ2 b' = some (.cells e ((rows ++ [r]).flatten ++ rest)) → (rows.length + 1) * sz + rest.length = c' * sz → rows.length + 1 ≤ c' → Mv μ μ2 F [b'] → K (some ⟨b', 0, none⟩) (rows.length + 1) c' μ2) →
      appR sz bytes e a rows.length c (.list sz .nr [r]) μ K := by
  have okr : ∀ r : List PV, okSz sz sz [r] = true := fun r => by simp [okSz, Nat.beq_refl]
  have hfl : rows.flatten.length = rows.length * sz := flatLen hr
  rcases h with ⟨rfl, rfl, rfl⟩ | ⟨b0, c, rest, rfl, rfl, h2, h3, h4⟩
  · refine ⟨none, 0, rfl, fun r bytes K hl hcl hb h62 hK => ?_⟩
    unfold appR newC
    simp only [okr, cond_true]
    refine ⟨by simpa using hb, by simpa using h62, Nat.le_refl _, .inr ⟨by simp, by simpa using hcl, fun h => by simp at h, fun _ => ⟨[], .inl ⟨rfl, rfl⟩, fun b' c' hn hc' => ?_⟩⟩⟩
    refine hK b' c' (List.replicate ((c' - (0 + 1)) * sz) .poison) _ ?_ ?_ (by simpa using hc') ((Mv.set (.inr hn)).sub (by simp))
    · rw [Mem.set_same]; simp
    · simp only [List.length_nil, List.length_replicate]
      rw [← Nat.add_mul]; congr 1; simp at hc'; omega
  · refine ⟨_, c, rfl, fun r bytes K hl hcl hb h62 hK => ?_⟩
    unfold appR newC
    simp only [okr, cond_true]
    have hrd : rdM μ b0 0 (rows.length * sz) = some rows.flatten := by
      simp only [rdM, h2]
      rw [if_pos (by simp [hfl]), List.drop_zero, ← hfl, List.take_left']
      rfl
    refine ⟨by simpa using hb, by simpa using h62, h4, .inr ⟨by simp, by simpa using hcl, fun hle => ⟨b0, 0, e, _, rfl, h2, by simp [hfl, h3], ?_⟩, fun hlt => ⟨_, .inr ⟨b0, 0, rfl, hrd⟩, fun b' c' hn hc' => ?_⟩⟩⟩
    · simp only [List.length_singleton] at hle ⊢
      have hle' : (rows.length + 1) * sz ≤ c * sz := Nat.mul_le_mul_right _ hle
      have hsz : sz ≤ rest.length := by rw [Nat.succ_mul] at hle'; omega
      refine hK b0 c (rest.drop sz) _ ?_ ?_ hle ((Mv.set (.inl (by simp))).sub (by simp))
      · rw [Mem.set_same]
        congr 2
        unfold wrL
        rw [Nat.zero_add, ← hfl, List.take_left' rfl, List.flatten_cons, List.flatten_nil, List.append_nil, List.drop_length_add_append, hl, List.flatten_append]
        simp
      · rw [List.length_drop, Nat.succ_mul]; omega
    · simp only [List.length_singleton] at hc' ⊢
      refine hK b' c' (List.replicate ((c' - (rows.length + 1)) * sz) .poison) _ ?_ ?_ hc' ((Mv.set (F := [b0]) (.inr hn)).sub (by simp))
      · rw [Mem.set_same]; simp
      · rw [List.length_replicate, ← Nat.add_mul]; congr 1; omega

theorem Mem.set_self {μ : Mem} {b : Nat} {o : Option Ob} (h : μ b = o) : μ.set b o = μ := by
  funext x
  by_cases e : x = b
  · subst e; rw [Mem.set_same, h]
  · rw [Mem.set_ne _ _ e]

/-- append to room that was just made. -/
theorem appR_new {size bytes : Nat} {e : TypeId} {b c : Nat} {rows : List (List PV)} {fl : Fl} {μ : Mem} {cs : List PV} {K : Option Addr → Nat → Nat → Mem → Prop} (hm : μ b = some (.cells e cs)) (hcs : cs.length = c * size) (hlen : rows.length ≤ c) (hr : ∀ r ∈ rows, r.length = size) (hcl : allCell rows.flatten = true)
    (hb : rows.length * bytes ≤ 140737488355328) (h62 : rows.length < 4611686018427387904) (hK : K (some ⟨b, 0, none⟩) rows.length c (μ.set b (some (.cells e (rows.flatten ++ cs.drop (rows.length * size)))))) : appR size bytes e (some ⟨b, 0, none⟩) 0 c (.list size fl rows) μ K := by
  have hfl : rows.flatten.length = rows.length * size := flatLen hr
  unfold appR newC
  simp only [okSz, Nat.beq_refl, cond_true]
  refine ⟨by simpa using hb, by simpa using h62, Nat.zero_le _, ?_⟩
  by_cases h0 : rows.length = 0
  · have : rows = [] := List.eq_nil_of_length_eq_zero h0
    subst this
    refine .inl ⟨rfl, fun h => absurd rfl h, ?_⟩
    simp only [List.flatten_nil, List.nil_append, List.length_nil, Nat.zero_mul, List.drop_zero] at hK
    rw [Mem.set_self hm] at hK
    exact hK
  · refine .inr ⟨h0, hcl, fun _ => ⟨b, 0, e, cs, rfl, hm, by omega, ?_⟩, fun h => by omega⟩
    simp only [Nat.zero_add, Nat.zero_mul]
    have : wrL cs 0 rows.flatten = rows.flatten ++ cs.drop (rows.length * size) := by
      unfold wrL; simp [hfl]
    rw [this]
    exact hK

/-- Downwards. -/
theorem LoopI.down {γ : Type} {body : (Int → γ → Prop) → Int → γ → Prop} {u : γ} {n k : Nat} (hk : k ≤ n) (hn : n < 9223372036854775808) (I : Nat → γ → Prop) (h0 : I n u)
    (hin : ∀ (j : Nat) (u : γ) (next : Int → γ → Prop), k < j → j ≤ n → I j u → (∀ u', I (j - 1) u' → next (IntKind.wrap .i64 ((j : Int) - 1)) u') → body next (j : Int) u)
    (hout : ∀ (u : γ) (next : Int → γ → Prop), I k u → body next (k : Int) u) : LoopI body (n : Int) u := by
  refine ⟨fun m s w => ∃ j : Nat, s = (j : Int) ∧ k ≤ j ∧ j ≤ n ∧ m = j - k ∧ I j w, ⟨n - k, n, rfl, hk, Nat.le_refl _, rfl, h0⟩, ?_⟩
  rintro m s w ⟨j, rfl, h1, h2, rfl, hI⟩
  by_cases h : k < j
  · refine hin j w _ h h2 hI fun u' hu => ⟨j - 1 - k, by omega, j - 1, ?_, by omega, by omega, rfl, hu⟩
    rw [wrap_id (by omega) (by omega)]; omega
  · have : j = k := by omega
    subst this
    exact hout w _ hI

theorem rdM_at {μ : Mem} {b o n : Nat} {T : TypeId} {cs : List PV} (h : μ b = some (.cells T cs)) (hl : o + n ≤ cs.length) : rdM μ b o n = some ((cs.drop o).take n) := by simp only [rdM, h]; rw [if_pos hl]
theorem rdM_ro {μ : Mem} {b o n : Nat} {T : TypeId} {cs : List PV} (h : μ b = some (.ro T cs)) (hl : o + n ≤ cs.length) : rdM μ b o n = some ((cs.drop o).take n) := by simp only [rdM, h]; rw [if_pos hl]

end Go.Eng
