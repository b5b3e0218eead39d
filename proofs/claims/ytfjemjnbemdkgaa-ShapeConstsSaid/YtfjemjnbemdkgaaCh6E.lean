import Derived.Test.YtfjemjnbemdkgaaCh6D
/-
  Which variables are known: plain definitions.
-/
namespace Go.Proofs.Ytfjemjnbemdkgaa
open Go.Eng Go.RowKit
set_option linter.unusedVariables false
set_option linter.unusedSimpArgs false
set_option linter.unnecessarySimpa false

def hasB (K : List ByteArray) (v : ByteArray) : Bool := K.any fun x => strEq x v
theorem hasB_iff {K : List ByteArray} {v : ByteArray} : hasB K v = true ↔ v ∈ K := by
  unfold hasB
  rw [List.any_eq_true]
  constructor
  · rintro ⟨x, hx, e⟩; rw [strEq_iff] at e; exact e ▸ hx
  · intro h; exact ⟨v, h, strEq_iff.2 rfl⟩
def newK (K : List ByteArray) (v : ByteArray) : List ByteArray := bif hasB K v then [] else [v]
theorem newK_mem {K : List ByteArray} {v y : ByteArray} : y ∈ K ++ newK K v ↔ y = v ∨ y ∈ K := by
  unfold newK
  cases h : hasB K v with
  | true =>
    simp only [cond_true, List.append_nil]
    exact ⟨fun h => .inr h, fun h' => h'.elim (fun e => e ▸ hasB_iff.1 h) (fun h => h)⟩
  | false => simp only [cond_false, List.mem_append, List.mem_singleton]; exact ⟨fun h => h.symm, fun h => h.symm⟩
theorem newK_len (K : List ByteArray) (v : ByteArray) : (newK K v).length ≤ 1 := by unfold newK; cases hasB K v <;> simp

def metT (K : List ByteArray) (t : Test) : Option (List ByteArray) :=
  bif (t.rel == 8) || strEq t.var ⟨#[]⟩ then some K else bif t.rel == 1 then some (K ++ newK K t.var) else bif hasB K t.var then some K else none
def metL : List ByteArray → List Test → Option (List ByteArray)
  | K, [] => some K
  | K, t :: ts => match metT K t with
    | some K' => metL K' ts
    | none => none
theorem metL_append (K : List ByteArray) (a b : List Test) : metL K (a ++ b) = (metL K a).bind fun K' => metL K' b := by
  induction a generalizing K with
  | nil => rfl
  | cons t a ih =>
    simp only [List.cons_append, metL]
    cases metT K t with
    | none => rfl
    | some K' => exact ih K'
theorem metL_take {K K' : List ByteArray} {ts : List Test} {i : Nat} (hi : i < ts.length) (h : metL K (ts.take i) = some K') : metL K (ts.take (i + 1)) = metT K' ts[i] := by
  rw [List.take_add_one, metL_append, h, List.getElem?_eq_getElem hi]
  simp only [Option.bind_some, Option.toList_some, metL]
  cases metT K' ts[i] <;> rfl
theorem metL_stop {K K' : List ByteArray} {ts : List Test} {i : Nat} (hi : i < ts.length) (h : metL K (ts.take i) = some K') (hn : metT K' ts[i] = none) : metL K ts = none := by
  have : ts = ts.take (i + 1) ++ ts.drop (i + 1) := (List.take_append_drop _ _).symm
  rw [this, metL_append, metL_take hi h, hn]; rfl

def metC (K : List ByteArray) (c : Cond) : Option (List ByteArray) :=
  (fun K0 => bif hasB K0 c.id then (metL K0 c.attr).bind fun K1 => metL K1 c.value else none) (bif c.goal then K ++ newK K c.id else K)

mutual
/-- What is known behind a condition that is the n-th; or the place of the first that is wrong. -/
def knowC : Cond → Nat → List ByteArray → Except Nat (List ByteArray)
  | .mk k g i a v ac cs, n, K =>
    bif k == 3 then (match knowL cs (n + 1) K with
      | .error e => .error e
      | .ok _ => .ok K)
    else match metC K (.mk k g i a v ac cs) with
      | none => .error n
      | some K' => .ok (bif k == 1 then K' else K)
def knowL : List Cond → Nat → List ByteArray → Except Nat (List ByteArray)
  | [], _, K => .ok K
  | c :: cs, n, K => match knowC c n K with
    | .error e => .error e
    | .ok K' => knowL cs (n + sizeC c) K'
end

theorem knowC_eq (c : Cond) (n : Nat) (K : List ByteArray) : knowC c n K = (bif c.kind == 3 then (match knowL c.conds (n + 1) K with
      | .error e => .error e
      | .ok _ => .ok K)
    else match metC K c with
      | none => .error n
      | some K' => .ok (bif c.kind == 1 then K' else K)) := by cases c; simp only [knowC]; rfl

theorem knowL_append (a b : List Cond) (n : Nat) (K : List ByteArray) : knowL (a ++ b) n K = match knowL a n K with
    | .error e => .error e
    | .ok K' => knowL b (n + sizeL a) K' := by
  induction a generalizing n K with
  | nil => simp [knowL, sizeL]
  | cons c a ih =>
    simp only [List.cons_append, knowL, sizeL]
    cases knowC c n K with
    | error e => rfl
    | ok K' => simp only [ih]; rw [Nat.add_assoc]
theorem knowL_take {l : List Cond} {n i : Nat} {K K' : List ByteArray} (hi : i < l.length) (h : knowL (l.take i) n K = .ok K') : knowL (l.take (i + 1)) n K = knowC l[i] (n + sizeL (l.take i)) K' := by
  rw [List.take_add_one, knowL_append, h, List.getElem?_eq_getElem hi]
  simp only [Option.toList_some, knowL]
  cases knowC l[i] (n + sizeL (l.take i)) K' <;> rfl
theorem knowL_stop {l : List Cond} {n i e : Nat} {K K' : List ByteArray} (hi : i < l.length) (h : knowL (l.take i) n K = .ok K') (hn : knowC l[i] (n + sizeL (l.take i)) K' = .error e) : knowL l n K = .error e := by
  have : l = l.take (i + 1) ++ l.drop (i + 1) := (List.take_append_drop _ _).symm
  rw [this, knowL_append, knowL_take hi h, hn]

/-- What may be: as far as it matters here. -/
def okT (t : Test) : Prop := t.rel = 8 → strEq t.var ⟨#[]⟩ = true
mutual
def okC : Cond → Prop
  | .mk k _ _ a v _ cs => (k = 3 ∨ ((k = 1 ∨ k = 2) ∧ cs.length = 0)) ∧ a.length ≤ 4 ∧ v.length ≤ 4 ∧ (∀ t ∈ a, okT t) ∧ (∀ t ∈ v, okT t) ∧ okL cs
def okL : List Cond → Prop
  | [] => True
  | c :: cs => okC c ∧ okL cs
end
theorem okC_eq (c : Cond) : okC c ↔ (c.kind = 3 ∨ ((c.kind = 1 ∨ c.kind = 2) ∧ c.conds.length = 0)) ∧ c.attr.length ≤ 4 ∧ c.value.length ≤ 4 ∧ (∀ t ∈ c.attr, okT t) ∧ (∀ t ∈ c.value, okT t) ∧ okL c.conds := by cases c; rfl
theorem okL_iff {l : List Cond} : okL l ↔ ∀ c ∈ l, okC c := by
  induction l with
  | nil => simp [okL]
  | cons c l ih => simp [okL, ih]

theorem testB_ok {t : Test} (h : testB t = true) : okT t := fun e => by
  unfold testB at h
  simp only [e, beq_self_eq_true, cond_true, Bool.and_eq_true] at h
  exact h.1

theorem condE_ok {c : Cond} {d : Int} (h : condE c d = 0) : (c.kind = 3 ∨ ((c.kind = 1 ∨ c.kind = 2) ∧ c.conds.length = 0)) ∧ c.attr.length ≤ 4 ∧ c.value.length ≤ 4 ∧ (∀ t ∈ c.attr, okT t) ∧ (∀ t ∈ c.value, okT t) := by
  unfold condE at h
  cases h3 : c.kind == 3 with
  | true =>
    rw [h3] at h
    simp only [cond_true] at h
    have hk : c.kind = 3 := by simpa using h3
    cases hb : (c.goal || (!strEq c.id ⟨#[]⟩ || (decide (0 < c.attr.length) || (decide (0 < c.value.length) || (c.acc || decide (c.conds.length = 0)))))) with
    | true => rw [hb] at h; simp at h
    | false =>
      simp only [Bool.or_eq_false_iff, decide_eq_false_iff_not] at hb
      obtain ⟨_, _, ha, hv, _⟩ := hb
      refine ⟨.inl hk, by omega, by omega, fun t ht => ?_, fun t ht => ?_⟩
      · have := List.length_pos_of_mem ht; omega
      · have := List.length_pos_of_mem ht; omega
  | false =>
    rw [h3] at h
    simp only [cond_false] at h
    cases h12 : (c.kind == 1) || (c.kind == 2) with
    | false => rw [h12] at h; simp at h
    | true =>
      rw [h12] at h
      simp only [cond_true] at h
      have hk : c.kind = 1 ∨ c.kind = 2 := by simpa using h12
      cases hb : (decide (0 < c.conds.length) || (!wordB c.id || decide (c.attr.length = 0))) with
      | true => rw [hb] at h; simp at h
      | false =>
        rw [hb] at h
        simp only [cond_false] at h
        cases hm : (decide (4 < c.attr.length) || decide (4 < c.value.length)) with
        | true => rw [hm] at h; simp at h
        | false =>
          rw [hm] at h
          simp only [cond_false] at h
          cases ht : (!(c.attr.all testB) || !(c.value.all testB)) with
          | true => rw [ht] at h; simp at h
          | false =>
            simp only [Bool.or_eq_false_iff, decide_eq_false_iff_not, Bool.not_eq_false', List.all_eq_true] at hb hm ht
            exact ⟨.inr ⟨hk, by omega⟩, by omega, by omega, fun t h => testB_ok (ht.1 t h), fun t h => testB_ok (ht.2 t h)⟩

theorem firstE_none {l : List (Nat × Nat × Cond)} (h : firstE l = none) : ∀ x ∈ l, condE x.2.2 x.2.1 = 0 := by
  induction l with
  | nil => intro x hx; cases hx
  | cons y l ih =>
    obtain ⟨a, d, c⟩ := y
    simp only [firstE] at h
    cases hc : condE c d == 0 with
    | false => rw [hc] at h; cases h
    | true =>
      rw [hc] at h
      intro x hx
      rcases List.mem_cons.1 hx with rfl | hx
      · simpa using hc
      · exact ih h x hx

mutual
theorem okC_pre : ∀ (c : Cond) (a d : Nat), (∀ x ∈ preC c a d, condE x.2.2 x.2.1 = 0) → okC c
  | .mk k g i at_ v ac cs, a, d, h => by
    have h0 := condE_ok (h (a, d, .mk k g i at_ v ac cs) (by simp [preC]))
    exact ⟨h0.1, h0.2.1, h0.2.2.1, h0.2.2.2.1, h0.2.2.2.2, okL_pre cs (a + 1) (d + 1) fun x hx => h x (by simp [preC, hx])⟩
theorem okL_pre : ∀ (l : List Cond) (a d : Nat), (∀ x ∈ preL l a d, condE x.2.2 x.2.1 = 0) → okL l
  | [], _, _, _ => trivial
  | c :: cs, a, d, h => ⟨okC_pre c a d fun x hx => h x (by simp [preL, hx]), okL_pre cs (a + sizeC c) d fun x hx => h x (by simp [preL, hx])⟩
end

/-- The first action with a variable that is not known. -/
def lackB (K : List ByteArray) (a : Atom) : Bool := !strEq a.var ⟨#[]⟩ && !hasB K a.var
def lackA (K : List ByteArray) (a : Actn) : Bool := lackB K a.attr || ((a.value.op != 0) && (lackB K a.value.a || lackB K a.value.b))
def firstL (K : List ByteArray) : Nat → List Actn → Option Nat
  | _, [] => none
  | i, a :: l => bif lackA K a then some i else firstL K (i + 1) l
theorem firstL_take {K : List ByteArray} {l : List Actn} {k i : Nat} (hk : k < l.length) (h : firstL K i (l.take k) = none) : firstL K i (l.take (k + 1)) = (bif lackA K l[k] then some (i + k) else none) := by
  induction l generalizing k i with
  | nil => simp at hk
  | cons a l ih =>
    cases k with
    | zero => simp [firstL]
    | succ k =>
      simp only [List.take_succ_cons, firstL, List.getElem_cons_succ] at h ⊢
      cases ha : lackA K a with
      | true => rw [ha] at h; cases h
      | false =>
        rw [ha] at h
        simp only [cond_false] at h ⊢
        rw [ih (by simpa using hk) h]
        congr 2; omega
theorem firstL_hit {K : List ByteArray} {l : List Actn} {k i : Nat} (hk : k < l.length) (h : firstL K i (l.take k) = none) (ha : lackA K l[k] = true) : firstL K i l = some (i + k) := by
  induction l generalizing k i with
  | nil => simp at hk
  | cons a l ih =>
    cases k with
    | zero => simp only [List.getElem_cons_zero] at ha; simp [firstL, ha]
    | succ k =>
      simp only [List.take_succ_cons, firstL, List.getElem_cons_succ] at h ha ⊢
      cases hb : lackA K a with
      | true => rw [hb] at h; cases h
      | false =>
        rw [hb] at h
        simp only [cond_false] at h ⊢
        rw [ih (by simpa using hk) h ha]
        congr 1; omega

/-- The place and the first error of a production, and what is known behind all conditions. -/
def checkE (p : Prod) : Int × Int × List ByteArray :=
  bif (shapeE p).2 != 0 then ((shapeE p).1, (shapeE p).2, []) else
  bif (p.conds.head?.map Cond.kind).getD 0 != 1 then (0, 9, []) else
  match knowL p.conds 0 [] with
  | .error n => ((n : Int), 6, [])
  | .ok K => match firstL K 0 p.acts with
    | some i => (((sizeL p.conds + i : Nat) : Int), 6, [])
    | none => (-1, 0, K)

/-- A production of its form. -/
theorem shapeE_ok {p : Prod} (h : (shapeE p).2 = 0) : 1 ≤ sizeL p.conds ∧ sizeL p.conds ≤ 16 ∧ 1 ≤ p.acts.length ∧ p.acts.length ≤ 16 ∧ okL p.conds := by
  unfold shapeE at h
  cases hw : wordB p.name with
  | false => rw [hw] at h; simp at h
  | true =>
    rw [hw] at h
    simp only [Bool.not_true, cond_false] at h
    cases hb : (decide (sizeL p.conds < 1) || (decide (16 < sizeL p.conds) || (decide (p.acts.length < 1) || decide (16 < p.acts.length)))) with
    | true => rw [hb] at h; simp at h
    | false =>
      rw [hb] at h
      simp only [cond_false] at h
      simp only [Bool.or_eq_false_iff, decide_eq_false_iff_not] at hb
      refine ⟨by omega, by omega, by omega, by omega, okL_pre _ 0 0 (firstE_none ?_)⟩
      unfold shapeT at h
      split at h
      · rename_i a e he
        exfalso
        have : ∀ l : List (Nat × Nat × Cond), firstE l = some (a, e) → e ≠ 0 := by
          intro l
          induction l with
          | nil => intro h; cases h
          | cons y l ih =>
            obtain ⟨a', d, c⟩ := y
            simp only [firstE]
            cases hc : condE c d == 0 with
            | true => exact ih
            | false =>
              intro h
              simp only [cond_false, Option.some.injEq, Prod.mk.injEq] at h
              rw [← h.2]; simpa using hc
        exact this _ he h
      · assumption

end Go.Proofs.Ytfjemjnbemdkgaa
