import Derived.Test.YtdiimonfmdbclaaDom
/-
  Conditions: how many, in which order, light ones. Plain.
-/
namespace Go.Proofs.Ytdiimonfmdbclaa
open Go.Eng Go.RowKit
set_option linter.unusedVariables false
set_option linter.unusedSimpArgs false
set_option linter.unnecessarySimpa false

mutual
def sizeC : Cond → Nat
  | .mk _ _ _ _ _ _ cs => 1 + sizeL cs
def sizeL : List Cond → Nat
  | [] => 0
  | c :: cs => sizeC c + sizeL cs
end

theorem sizeC_eq (c : Cond) : sizeC c = 1 + sizeL c.conds := by cases c; rfl
theorem sizeL_append (a b : List Cond) : sizeL (a ++ b) = sizeL a + sizeL b := by
  induction a with
  | nil => simp [sizeL]
  | cons c a ih => simp only [List.cons_append, sizeL, ih]; omega
theorem sizeL_take {l : List Cond} {k : Nat} (hk : k < l.length) : sizeL (l.take (k + 1)) = sizeL (l.take k) + (1 + sizeL l[k].conds) := by
  rw [List.take_add_one, sizeL_append, List.getElem?_eq_getElem hk]; simp [sizeL, sizeC_eq]
theorem sizeL_split (l : List Cond) (k : Nat) : sizeL l = sizeL (l.take k) + sizeL (l.drop k) := by rw [← sizeL_append, List.take_append_drop]
theorem sizeL_mem {l : List Cond} {c : Cond} (h : c ∈ l) : 1 + sizeL c.conds ≤ sizeL l := by
  induction l with
  | nil => cases h
  | cons d l ih =>
    simp only [sizeL]
    rcases List.mem_cons.1 h with rfl | h
    · rw [sizeC_eq]; omega
    · have := ih h; omega
theorem sizeL_len (l : List Cond) : l.length ≤ sizeL l := by
  induction l with
  | nil => simp
  | cons c l ih => simp only [List.length_cons, sizeL, sizeC_eq]; omega

mutual
/-- Each condition ahead of its inner ones, with its count and how deep it lies. -/
def preC : Cond → Nat → Nat → List (Nat × Nat × Cond)
  | .mk k g i a v ac cs, at_, deep => (at_, deep, .mk k g i a v ac cs) :: preL cs (at_ + 1) (deep + 1)
def preL : List Cond → Nat → Nat → List (Nat × Nat × Cond)
  | [], _, _ => []
  | c :: cs, at_, deep => preC c at_ deep ++ preL cs (at_ + sizeC c) deep
end

theorem preC_eq (c : Cond) (at_ deep : Nat) : preC c at_ deep = (at_, deep, c) :: preL c.conds (at_ + 1) (deep + 1) := by cases c; rfl

theorem preL_append : ∀ (a b : List Cond) (at_ deep : Nat), preL (a ++ b) at_ deep = preL a at_ deep ++ preL b (at_ + sizeL a) deep
  | [], b, at_, deep => by simp [preL, sizeL]
  | c :: a, b, at_, deep => by
    simp only [List.cons_append, preL, preL_append a b, sizeL, List.append_assoc]
    congr 3; omega

mutual
theorem preC_len : ∀ (c : Cond) (at_ deep : Nat), (preC c at_ deep).length = sizeC c
  | .mk k g i a v ac cs, at_, deep => by simp only [preC, List.length_cons, sizeC, preL_len cs]; omega
theorem preL_len : ∀ (l : List Cond) (at_ deep : Nat), (preL l at_ deep).length = sizeL l
  | [], _, _ => rfl
  | c :: cs, at_, deep => by simp only [preL, List.length_append, preC_len c, preL_len cs, sizeL]
end

theorem nb {b : Bool} (h : (!b) = true) : b = false := by simpa using h
theorem nt {b : Bool} (h : (!b) = false) : b = true := by simpa using h

theorem preL_take {l : List Cond} {k : Nat} (hk : k < l.length) (a d : Nat) : preL (l.take (k + 1)) a d = preL (l.take k) a d ++ ((a + sizeL (l.take k), d, l[k]) :: preL l[k].conds (a + sizeL (l.take k) + 1) (d + 1)) := by
  rw [List.take_add_one, preL_append, List.getElem?_eq_getElem hk]
  simp [preL, preC_eq]

theorem preL_at {l : List Cond} {k : Nat} (hk : k < l.length) (a d : Nat) : preL l a d = preL (l.take k) a d ++ ((a + sizeL (l.take k), d, l[k]) :: preL l[k].conds (a + sizeL (l.take k) + 1) (d + 1)) ++ preL (l.drop (k + 1)) (a + sizeL (l.take (k + 1))) d := by
  rw [← preL_take hk, ← preL_append, List.take_append_drop]

mutual
theorem preC_count : ∀ (c : Cond) (a d k : Nat) (x : Nat × Nat × Cond), (preC c a d)[k]? = some x → x.1 = a + k
  | .mk kk g i at' v ac cs, a, d, k, x, h => by
    simp only [preC] at h
    cases k with
    | zero => simp only [List.getElem?_cons_zero, Option.some.injEq] at h; subst h; rfl
    | succ k =>
      simp only [List.getElem?_cons_succ] at h
      have := preL_count cs (a + 1) (d + 1) k x h; omega
theorem preL_count : ∀ (l : List Cond) (a d k : Nat) (x : Nat × Nat × Cond), (preL l a d)[k]? = some x → x.1 = a + k
  | [], a, d, k, x, h => by simp [preL] at h
  | c :: cs, a, d, k, x, h => by
    simp only [preL] at h
    by_cases hk : k < (preC c a d).length
    · rw [List.getElem?_append_left hk] at h; exact preC_count c a d k x h
    · rw [List.getElem?_append_right (by omega)] at h
      have := preL_count cs (a + sizeC c) d _ x h
      rw [preC_len] at this hk
      omega
end

/-! ### light ones -/
def lightT (t : Test) : Prop := t.list.length ≤ 20 ∧ t.var.size ≤ 100 ∧ t.sym.t.size ≤ 100

mutual
def lightC : Cond → Prop
  | .mk _ _ i a v _ cs => i.size ≤ 100 ∧ a.length ≤ 10 ∧ v.length ≤ 10 ∧ (∀ t ∈ a, lightT t) ∧ (∀ t ∈ v, lightT t) ∧ lightL cs
def lightL : List Cond → Prop
  | [] => True
  | c :: cs => lightC c ∧ lightL cs
end

theorem lightC_eq (c : Cond) : lightC c ↔ c.id.size ≤ 100 ∧ c.attr.length ≤ 10 ∧ c.value.length ≤ 10 ∧ (∀ t ∈ c.attr, lightT t) ∧ (∀ t ∈ c.value, lightT t) ∧ lightL c.conds := by cases c; rfl

theorem lightL_iff {l : List Cond} : lightL l ↔ ∀ c ∈ l, lightC c := by
  induction l with
  | nil => simp [lightL]
  | cons c l ih => simp [lightL, ih]

mutual
theorem lightC_pre : ∀ (c : Cond) (a d : Nat) (x : Nat × Nat × Cond), lightC c → x ∈ preC c a d → lightC x.2.2
  | .mk k g i at' v ac cs, a, d, x, h, hx => by
    simp only [preC, List.mem_cons] at hx
    rcases hx with rfl | hx
    · exact h
    · exact lightL_pre cs _ _ x ((lightC_eq _).1 h).2.2.2.2.2 hx
theorem lightL_pre : ∀ (l : List Cond) (a d : Nat) (x : Nat × Nat × Cond), lightL l → x ∈ preL l a d → lightC x.2.2
  | [], a, d, x, _, hx => by simp [preL] at hx
  | c :: cs, a, d, x, h, hx => by
    simp only [preL, List.mem_append] at hx
    rcases hx with hx | hx
    · exact lightC_pre c a d x h.1 hx
    · exact lightL_pre cs _ d x h.2 hx
end

theorem lightTs {l : List Test} (h : ∀ t ∈ l, lightT t) : ∀ t ∈ l, t.list.length ≤ 1000000 := fun t ht => Nat.le_trans (h t ht).1 (by omega)

end Go.Proofs.Ytdiimonfmdbclaa
