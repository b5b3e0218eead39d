import Derived.Test.YtfjemjnbemdkgaaCh4
/-
  Productions that may be: plain definitions.
-/
namespace Go.Proofs.Ytfjemjnbemdkgaa
open Go.Eng Go.RowKit

mutual
def sizeC : Cond → Nat
  | .mk _ _ _ _ _ _ cs => 1 + sizeL cs
def sizeL : List Cond → Nat
  | [] => 0
  | c :: cs => sizeC c + sizeL cs
end

theorem sizeC_eq (c : Cond) : sizeC c = 1 + sizeL c.conds := by cases c; rfl
theorem sizeL_append (a b : List Cond) : sizeL (a ++ b) = sizeL a + sizeL b := by
  induction a with
  | nil => simp [sizeL]
  | cons c a ih => simp only [List.cons_append, sizeL, ih]; omega
theorem sizeL_take {l : List Cond} {k : Nat} (hk : k < l.length) : sizeL (l.take (k + 1)) = sizeL (l.take k) + (1 + sizeL l[k].conds) := by
  rw [List.take_add_one, sizeL_append, List.getElem?_eq_getElem hk]; simp [sizeL, sizeC_eq]
theorem sizeL_split (l : List Cond) (k : Nat) : sizeL l = sizeL (l.take k) + sizeL (l.drop k) := by rw [← sizeL_append, List.take_append_drop]
theorem sizeL_mem {l : List Cond} {c : Cond} (h : c ∈ l) : 1 + sizeL c.conds ≤ sizeL l := by
  induction l with
  | nil => cases h
  | cons d l ih =>
    simp only [sizeL]
    rcases List.mem_cons.1 h with rfl | h
    · rw [sizeC_eq]; omega
    · have := ih h; omega
theorem sizeL_len (l : List Cond) : l.length ≤ sizeL l := by
  induction l with
  | nil => simp
  | cons c l ih => simp only [List.length_cons, sizeL, sizeC_eq]; omega

mutual
/-- Each condition ahead of its inner ones, with its count and how deep it lies. -/
def preC : Cond → Nat → Nat → List (Nat × Nat × Cond)
  | .mk k g i a v ac cs, at_, deep => (at_, deep, .mk k g i a v ac cs) :: preL cs (at_ + 1) (deep + 1)
def preL : List Cond → Nat → Nat → List (Nat × Nat × Cond)
  | [], _, _ => []
  | c :: cs, at_, deep => preC c at_ deep ++ preL cs (at_ + sizeC c) deep
end

theorem preC_eq (c : Cond) (at_ deep : Nat) : preC c at_ deep = (at_, deep, c) :: preL c.conds (at_ + 1) (deep + 1) := by cases c; rfl

theorem preL_append : ∀ (a b : List Cond) (at_ deep : Nat), preL (a ++ b) at_ deep = preL a at_ deep ++ preL b (at_ + sizeL a) deep
  | [], b, at_, deep => by simp [preL, sizeL]
  | c :: a, b, at_, deep => by
    simp only [List.cons_append, preL, preL_append a b, sizeL, List.append_assoc]
    congr 3; omega

mutual
theorem preC_len : ∀ (c : Cond) (at_ deep : Nat), (preC c at_ deep).length = sizeC c
  | .mk k g i a v ac cs, at_, deep => by simp only [preC, List.length_cons, sizeC, preL_len cs]; omega
theorem preL_len : ∀ (l : List Cond) (at_ deep : Nat), (preL l at_ deep).length = sizeL l
  | [], _, _ => rfl
  | c :: cs, at_, deep => by simp only [preL, List.length_append, preC_len c, preL_len cs, sizeL]
end

def noneB (s : Sym) : Bool := (s.k == 0) && (strEq s.t ⟨#[]⟩ && ((s.n == 0) && true))
theorem nb {b : Bool} (h : (!b) = true) : b = false := by simpa using h
theorem nt {b : Bool} (h : (!b) = false) : b = true := by simpa using h

def emptyB (a : Atom) : Bool := strEq a.var ⟨#[]⟩ && noneB a.sym
def atomB (a : Atom) : Bool := bif strEq a.var ⟨#[]⟩ then constB a.sym else wordB a.var && noneB a.sym
def testB (t : Test) : Bool :=
  bif t.rel == 8 then strEq t.var ⟨#[]⟩ && (noneB t.sym && (decide (1 ≤ t.list.length) && (decide (t.list.length ≤ 8) && t.list.all constB)))
  else decide (1 ≤ t.rel) && (decide (t.rel ≤ 7) && (decide (t.list.length = 0) && atomB ⟨t.var, t.sym⟩))
def wordA (a : Atom) : Bool := strEq a.var ⟨#[]⟩ && (a.sym.k == 3)
def termB (t : Term) : Bool := decide (0 ≤ t.op) && (decide (t.op ≤ 3) && (atomB t.a && (bif t.op == 0 then emptyB t.b else atomB t.b && (!wordA t.a && !wordA t.b))))
def otherB (k : Int) : Bool := (k == 8) || ((k == 9) || (k == 10))
def actB (a : Actn) : Bool := wordB a.id && (atomB a.attr && (termB a.value && (decide (1 ≤ a.pref) && (decide (a.pref ≤ 10) && (bif otherB a.pref then atomB a.other else emptyB a.other)))))

/-- A condition's error, within so many Alls. -/
def condE (c : Cond) (deep : Int) : Int :=
  bif c.kind == 3 then
    (bif c.goal || (!strEq c.id ⟨#[]⟩ || (decide (0 < c.attr.length) || (decide (0 < c.value.length) || (c.acc || decide (c.conds.length = 0))))) then 9 else bif decide (3 ≤ deep) then 8 else 0)
  else bif (c.kind == 1) || (c.kind == 2) then
    (bif decide (0 < c.conds.length) || (!wordB c.id || decide (c.attr.length = 0)) then 9 else
     bif decide (4 < c.attr.length) || decide (4 < c.value.length) then 7 else
     bif !(c.attr.all testB) || !(c.value.all testB) then 9 else 0)
  else 9

/-- The first that is wrong. -/
def firstE : List (Nat × Nat × Cond) → Option (Nat × Int)
  | [] => none
  | (a, d, c) :: l => bif condE c d == 0 then firstE l else some (a, condE c d)

theorem firstE_append (a b : List (Nat × Nat × Cond)) : firstE (a ++ b) = (firstE a).or (firstE b) := by
  induction a with
  | nil => rfl
  | cons x a ih =>
    obtain ⟨p, d, c⟩ := x
    simp only [List.cons_append, firstE]
    cases condE c d == 0
    · rfl
    · exact ih

/-- The first action that is wrong. -/
def firstA : Nat → List Actn → Option Nat
  | _, [] => none
  | i, a :: l => bif actB a then firstA (i + 1) l else some i

theorem firstA_take {l : List Actn} {k i : Nat} (hk : k < l.length) (h : firstA i (l.take k) = none) : firstA i (l.take (k + 1)) = (bif actB l[k] then none else some (i + k)) := by
  induction l generalizing k i with
  | nil => simp at hk
  | cons a l ih =>
    cases k with
    | zero => simp [firstA]
    | succ k =>
      simp only [List.take_succ_cons, firstA, List.getElem_cons_succ] at h ⊢
      cases ha : actB a with
      | false => rw [ha] at h; cases h
      | true =>
        rw [ha] at h
        simp only [cond_true] at h ⊢
        rw [ih (by simpa using hk) h]
        congr 2; omega

theorem firstA_hit {l : List Actn} {k i : Nat} (hk : k < l.length) (h : firstA i (l.take k) = none) (ha : actB l[k] = false) : firstA i l = some (i + k) := by
  induction l generalizing k i with
  | nil => simp at hk
  | cons a l ih =>
    cases k with
    | zero => simp only [List.getElem_cons_zero] at ha; simp [firstA, ha]
    | succ k =>
      simp only [List.take_succ_cons, firstA, List.getElem_cons_succ] at h ha ⊢
      cases hb : actB a with
      | false => rw [hb] at h; cases h
      | true =>
        rw [hb] at h
        simp only [cond_true] at h ⊢
        rw [ih (by simpa using hk) h ha]
        congr 1; omega

def shapeT (p : Prod) : Int × Int :=
  match firstE (preL p.conds 0 0) with
  | some (a, e) => (a, e)
  | none => match firstA 0 p.acts with
    | some i => (((sizeL p.conds + i : Nat) : Int), 9)
    | none => (-1, 0)

/-- The place and the first error of a production's form. -/
def shapeE (p : Prod) : Int × Int :=
  bif !wordB p.name then (-1, 2) else
  bif decide (sizeL p.conds < 1) || (decide (16 < sizeL p.conds) || (decide (p.acts.length < 1) || decide (16 < p.acts.length))) then (-1, 7) else shapeT p

theorem shapeT_e {p : Prod} {a : Nat} {e : Int} (h : firstE (preL p.conds 0 0) = some (a, e)) : shapeT p = ((a : Int), e) := by simp only [shapeT, h]
theorem shapeT_a {p : Prod} {i : Nat} (h : firstE (preL p.conds 0 0) = none) (h2 : firstA 0 p.acts = some i) : shapeT p = (((sizeL p.conds + i : Nat) : Int), 9) := by simp only [shapeT, h, h2]
theorem shapeT_ok {p : Prod} (h : firstE (preL p.conds 0 0) = none) (h2 : firstA 0 p.acts = none) : shapeT p = (-1, 0) := by simp only [shapeT, h, h2]

theorem preL_take {l : List Cond} {k : Nat} (hk : k < l.length) (a d : Nat) : preL (l.take (k + 1)) a d = preL (l.take k) a d ++ ((a + sizeL (l.take k), d, l[k]) :: preL l[k].conds (a + sizeL (l.take k) + 1) (d + 1)) := by
  rw [List.take_add_one, preL_append, List.getElem?_eq_getElem hk]
  simp [preL, preC_eq]

theorem preL_at {l : List Cond} {k : Nat} (hk : k < l.length) (a d : Nat) : preL l a d = preL (l.take k) a d ++ ((a + sizeL (l.take k), d, l[k]) :: preL l[k].conds (a + sizeL (l.take k) + 1) (d + 1)) ++ preL (l.drop (k + 1)) (a + sizeL (l.take (k + 1))) d := by
  rw [← preL_take hk, ← preL_append, List.take_append_drop]

mutual
theorem preC_count : ∀ (c : Cond) (a d k : Nat) (x : Nat × Nat × Cond), (preC c a d)[k]? = some x → x.1 = a + k
  | .mk kk g i at' v ac cs, a, d, k, x, h => by
    simp only [preC] at h
    cases k with
    | zero => simp only [List.getElem?_cons_zero, Option.some.injEq] at h; subst h; rfl
    | succ k =>
      simp only [List.getElem?_cons_succ] at h
      have := preL_count cs (a + 1) (d + 1) k x h; omega
theorem preL_count : ∀ (l : List Cond) (a d k : Nat) (x : Nat × Nat × Cond), (preL l a d)[k]? = some x → x.1 = a + k
  | [], a, d, k, x, h => by simp [preL] at h
  | c :: cs, a, d, k, x, h => by
    simp only [preL] at h
    by_cases hk : k < (preC c a d).length
    · rw [List.getElem?_append_left hk] at h; exact preC_count c a d k x h
    · rw [List.getElem?_append_right (by omega)] at h
      have := preL_count cs (a + sizeC c) d _ x h
      rw [preC_len] at this hk
      omega
end

theorem firstE_ne {l : List (Nat × Nat × Cond)} {a : Nat} {e : Int} (h : firstE l = some (a, e)) : e ≠ 0 := by
  induction l with
  | nil => cases h
  | cons x l ih =>
    obtain ⟨p, d, c⟩ := x
    simp only [firstE] at h
    cases hc : condE c d == 0 with
    | true => rw [hc] at h; exact ih h
    | false =>
      rw [hc] at h
      simp only [cond_false, Option.some.injEq, Prod.mk.injEq] at h
      rw [← h.2]; simpa using hc

theorem firstE_take {l : List (Nat × Nat × Cond)} {k : Nat} {x : Nat × Nat × Cond} (hx : l[k]? = some x) (h : firstE (l.take k) = none) : firstE (l.take (k + 1)) = (bif condE x.2.2 x.2.1 == 0 then none else some (x.1, condE x.2.2 x.2.1)) := by
  rw [List.take_add_one, firstE_append, h, hx]
  obtain ⟨a, d, c⟩ := x
  simp [firstE]

theorem firstE_stop {l : List (Nat × Nat × Cond)} {k : Nat} {r : Nat × Int} (h : firstE (l.take k) = some r) : firstE l = some r := by
  have := firstE_append (l.take k) (l.drop k)
  rw [List.take_append_drop, h] at this
  exact this

/-! ### light ones -/
def lightT (t : Test) : Prop := t.list.length ≤ 20 ∧ t.var.size ≤ 100 ∧ t.sym.t.size ≤ 100

mutual
def lightC : Cond → Prop
  | .mk _ _ i a v _ cs => i.size ≤ 100 ∧ a.length ≤ 10 ∧ v.length ≤ 10 ∧ (∀ t ∈ a, lightT t) ∧ (∀ t ∈ v, lightT t) ∧ lightL cs
def lightL : List Cond → Prop
  | [] => True
  | c :: cs => lightC c ∧ lightL cs
end

theorem lightC_eq (c : Cond) : lightC c ↔ c.id.size ≤ 100 ∧ c.attr.length ≤ 10 ∧ c.value.length ≤ 10 ∧ (∀ t ∈ c.attr, lightT t) ∧ (∀ t ∈ c.value, lightT t) ∧ lightL c.conds := by cases c; rfl

theorem lightL_iff {l : List Cond} : lightL l ↔ ∀ c ∈ l, lightC c := by
  induction l with
  | nil => simp [lightL]
  | cons c l ih => simp [lightL, ih]

mutual
theorem lightC_pre : ∀ (c : Cond) (a d : Nat) (x : Nat × Nat × Cond), lightC c → x ∈ preC c a d → lightC x.2.2
  | .mk k g i at' v ac cs, a, d, x, h, hx => by
    simp only [preC, List.mem_cons] at hx
    rcases hx with rfl | hx
    · exact h
    · exact lightL_pre cs _ _ x ((lightC_eq _).1 h).2.2.2.2.2 hx
theorem lightL_pre : ∀ (l : List Cond) (a d : Nat) (x : Nat × Nat × Cond), lightL l → x ∈ preL l a d → lightC x.2.2
  | [], a, d, x, _, hx => by simp [preL] at hx
  | c :: cs, a, d, x, h, hx => by
    simp only [preL, List.mem_append] at hx
    rcases hx with hx | hx
    · exact lightC_pre c a d x h.1 hx
    · exact lightL_pre cs _ d x h.2 hx
end

end Go.Proofs.Ytfjemjnbemdkgaa
