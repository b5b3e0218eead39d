import Derived.Test.YtfjemjnbemdkgaaQ08
import Derived.Test.YtfjemjnbemdkgaaChecked
import Derived.KernelRfl
/- What functions of the program ask of plain values: printed, and held against the code by the kernel. -/
namespace Go.Proofs.Ytfjemjnbemdkgaa
open Go.Eng
set_option maxRecDepth 100000
set_option linter.unusedVariables false

/-- (*ponder/shape.known).field -/
def G_shape_known_field.sh (a0 : Option Addr) (a1f : Fl) (a1 : List (List PV)) (u0 : Mem) (R : PV → Mem → Prop) : Prop :=
  LoopI (α := Int) (fun next s u =>
    CIf (decide ((s : Int) < ((List.length a1 : Nat) : Int)))
    ((0 : Int) ≤ s ∧ ∃ (r11 : List PV), (a1)[Int.toNat s]? = some r11 ∧
      ∃ (x12a : Int), ∃ (x12b : ByteArray), ∃ (x12c : Int), ∃ (x12d : ByteArray), ∃ (x12e : Int), ∃ (x12ff : Fl) (x12f : List (List PV)), rowM r11 0 6 = some [(pI x12a), (pS x12b), (pI x12c), (pS x12d), (pI x12e), (.list 3 x12ff x12f)] ∧
      CIf ((x12a : Int) == (8))
      (next (IntKind.wrap .i64 (s + (1))) u)
      (CIf (strEq x12b ⟨#[]⟩)
        (next (IntKind.wrap .i64 (s + (1))) u)
        (CIf ((x12a : Int) == (1))
          (CallP Try.prog 101 [(.raw (.pointer a0)), (pS x12b)] u fun v u_1 =>
             v = (.tup []) ∧
            next (IntKind.wrap .i64 (s + (1))) u_1)
          (CallP Try.prog 93 [(.raw (.pointer a0)), (pS x12b)] u fun v_1 u_2 =>
            ∃ (x34 : Bool), v_1 = (pB x34) ∧
            CIf (!x34)
            (R (pB false) u_2)
            (next (IntKind.wrap .i64 (s + (1))) u_2)))))
    (R (pB true) u))
  (0) u0

theorem G_shape_known_field.ok (a0 : Option Addr) (a1f : Fl) (a1 : List (List PV)) (u0 : Mem) (R : PV → Mem → Prop) : G_shape_known_field.sh a0 a1f a1 u0 R = VF ⟨Try.prog, 37, [6], [(2, ⟨[(9, .one (.raw (.int .i64)))], []⟩)], [], [], [], [], []⟩ ((Try.f102.body).getD .skip) [.tmp 4] [(.raw (.pointer a0)), (.list 6 a1f a1)] u0 R := by kernel_rfl

theorem G_shape_known_field.c {a0 : Option Addr} {a1f : Fl} {a1 : List (List PV)} {u0 : Mem} {K : PV → Mem → Prop} (h : G_shape_known_field.sh a0 a1f a1 u0 K) : CallP Try.prog 102 [(.raw (.pointer a0)), (.list 6 a1f a1)] u0 K :=
  VF_sound (E := ⟨Try.prog, 37, [6], [(2, ⟨[(9, .one (.raw (.int .i64)))], []⟩)], [], [], [], [], []⟩) (rs := [.tmp 4]) Try.func102 rfl rfl rfl (by kernel_rfl) (by kernel_rfl) (G_shape_known_field.ok a0 a1f a1 u0 K ▸ h)


/-- (*ponder/order.Set[ponder/shape.name]).Place -/
def G_order_Set_shape_name_Place.sh (a0 : Option Addr) (a1 : ByteArray) (u0 : Mem) (R : PV → Mem → Prop) : Prop :=
  CIf (Option.isNone a0)
  (R (.tup [(pI (0)), (pB false)]) u0)
  (CallP Try.prog 98 [(.raw (.pointer a0)), (pS a1)] u0 fun v u =>
    ∃ (x10p : Int), ∃ (x10q : Bool), v = (.tup [(pI x10p), (pB x10q)]) ∧
    R (.tup [(pI x10p), (pB x10q)]) u)

theorem G_order_Set_shape_name_Place.ok (a0 : Option Addr) (a1 : ByteArray) (u0 : Mem) (R : PV → Mem → Prop) : G_order_Set_shape_name_Place.sh a0 a1 u0 R = VF ⟨Try.prog, 13, [], [], [], [], [], [], []⟩ ((Try.f103.body).getD .skip) [.tmp 4, .tmp 5] [(.raw (.pointer a0)), (pS a1)] u0 R := by kernel_rfl

theorem G_order_Set_shape_name_Place.c {a0 : Option Addr} {a1 : ByteArray} {u0 : Mem} {K : PV → Mem → Prop} (h : G_order_Set_shape_name_Place.sh a0 a1 u0 K) : CallP Try.prog 103 [(.raw (.pointer a0)), (pS a1)] u0 K :=
  VF_sound (E := ⟨Try.prog, 13, [], [], [], [], [], [], []⟩) (rs := [.tmp 4, .tmp 5]) Try.func103 rfl rfl rfl (by kernel_rfl) (by kernel_rfl) (G_order_Set_shape_name_Place.ok a0 a1 u0 K ▸ h)


/-- (ponder/api.Sym).Compare -/
def G_api_Sym_Compare.sh (a0a : Int) (a0b : ByteArray) (a0c : Int) (a1a : Int) (a1b : ByteArray) (a1c : Int) (u0 : Mem) (R : PV → Mem → Prop) : Prop :=
  CallP Try.prog 120 [(pI a0a), (pI a1a)] u0 fun v u =>
  ∃ (x11 : Int), v = (pI x11) ∧
  CIf ((x11 : Int) != (0))
  (R (pI x11) u)
  (CallP Try.prog 121 [(pS a0b), (pS a1b)] u fun v_1 u_1 =>
    ∃ (x19 : Int), v_1 = (pI x19) ∧
    CIf ((x19 : Int) != (0))
    (R (pI x19) u_1)
    (CallP Try.prog 120 [(pI a0c), (pI a1c)] u_1 fun v_2 u_2 =>
      ∃ (x27 : Int), v_2 = (pI x27) ∧
      R (pI x27) u_2))

theorem G_api_Sym_Compare.ok (a0a : Int) (a0b : ByteArray) (a0c : Int) (a1a : Int) (a1b : ByteArray) (a1c : Int) (u0 : Mem) (R : PV → Mem → Prop) : G_api_Sym_Compare.sh a0a a0b a0c a1a a1b a1c u0 R = VF ⟨Try.prog, 28, [2, 3], [], [], [], [], [], []⟩ ((Try.f119.body).getD .skip) [.tmp 4] [(.agg [(pI a0a), (pS a0b), (pI a0c)]), (.agg [(pI a1a), (pS a1b), (pI a1c)])] u0 R := by kernel_rfl

theorem G_api_Sym_Compare.c {a0a : Int} {a0b : ByteArray} {a0c : Int} {a1a : Int} {a1b : ByteArray} {a1c : Int} {u0 : Mem} {K : PV → Mem → Prop} (h : G_api_Sym_Compare.sh a0a a0b a0c a1a a1b a1c u0 K) : CallP Try.prog 119 [(.agg [(pI a0a), (pS a0b), (pI a0c)]), (.agg [(pI a1a), (pS a1b), (pI a1c)])] u0 K :=
  VF_sound (E := ⟨Try.prog, 28, [2, 3], [], [], [], [], [], []⟩) (rs := [.tmp 4]) Try.func119 rfl rfl rfl (by kernel_rfl) (by kernel_rfl) (G_api_Sym_Compare.ok a0a a0b a0c a1a a1b a1c u0 K ▸ h)


/-- cmp.Compare[int] -/
def G_cmp_Compare_int.sh (a0 : Int) (a1 : Int) (u0 : Mem) (R : PV → Mem → Prop) : Prop :=
  CallP Try.prog 122 [(pI a0)] u0 fun v u =>
  ∃ (x8 : Bool), v = (pB x8) ∧
  CallP Try.prog 122 [(pI a1)] u fun v_1 u_1 =>
  ∃ (x10 : Bool), v_1 = (pB x10) ∧
  CIf x8
  (CIf x10
    (R (pI (0)) u_1)
    (R (pI (-1)) u_1))
  (CIf x10
    (R (pI (1)) u_1)
    (CIf (decide ((a0 : Int) < a1))
      (R (pI (-1)) u_1)
      (CIf (decide ((a0 : Int) > a1))
        (R (pI (1)) u_1)
        (R (pI (0)) u_1))))

theorem G_cmp_Compare_int.ok (a0 : Int) (a1 : Int) (u0 : Mem) (R : PV → Mem → Prop) : G_cmp_Compare_int.sh a0 a1 u0 R = VF ⟨Try.prog, 20, [], [], [], [], [], [], []⟩ ((Try.f120.body).getD .skip) [.tmp 4] [(pI a0), (pI a1)] u0 R := by kernel_rfl

theorem G_cmp_Compare_int.c {a0 : Int} {a1 : Int} {u0 : Mem} {K : PV → Mem → Prop} (h : G_cmp_Compare_int.sh a0 a1 u0 K) : CallP Try.prog 120 [(pI a0), (pI a1)] u0 K :=
  VF_sound (E := ⟨Try.prog, 20, [], [], [], [], [], [], []⟩) (rs := [.tmp 4]) Try.func120 rfl rfl rfl (by kernel_rfl) (by kernel_rfl) (G_cmp_Compare_int.ok a0 a1 u0 K ▸ h)


/-- cmp.Compare[string] -/
def G_cmp_Compare_string.sh (a0 : ByteArray) (a1 : ByteArray) (u0 : Mem) (R : PV → Mem → Prop) : Prop :=
  CallP Try.prog 123 [(pS a0)] u0 fun v u =>
  ∃ (x8 : Bool), v = (pB x8) ∧
  CallP Try.prog 123 [(pS a1)] u fun v_1 u_1 =>
  ∃ (x10 : Bool), v_1 = (pB x10) ∧
  CIf x8
  (CIf x10
    (R (pI (0)) u_1)
    (R (pI (-1)) u_1))
  (CIf x10
    (R (pI (1)) u_1)
    (CIf (Op.bytesLess (ByteArray.toList a0) (ByteArray.toList a1))
      (R (pI (-1)) u_1)
      (CIf (!(Op.bytesLess (ByteArray.toList a0) (ByteArray.toList a1) || strEq a0 a1))
        (R (pI (1)) u_1)
        (R (pI (0)) u_1))))

theorem G_cmp_Compare_string.ok (a0 : ByteArray) (a1 : ByteArray) (u0 : Mem) (R : PV → Mem → Prop) : G_cmp_Compare_string.sh a0 a1 u0 R = VF ⟨Try.prog, 20, [], [], [], [], [], [], []⟩ ((Try.f121.body).getD .skip) [.tmp 4] [(pS a0), (pS a1)] u0 R := by kernel_rfl

theorem G_cmp_Compare_string.c {a0 : ByteArray} {a1 : ByteArray} {u0 : Mem} {K : PV → Mem → Prop} (h : G_cmp_Compare_string.sh a0 a1 u0 K) : CallP Try.prog 121 [(pS a0), (pS a1)] u0 K :=
  VF_sound (E := ⟨Try.prog, 20, [], [], [], [], [], [], []⟩) (rs := [.tmp 4]) Try.func121 rfl rfl rfl (by kernel_rfl) (by kernel_rfl) (G_cmp_Compare_string.ok a0 a1 u0 K ▸ h)


/-- cmp.isNaN[int] -/
def G_cmp_isNaN_int.sh (a0 : Int) (u0 : Mem) (R : PV → Mem → Prop) : Prop :=
  R (pB ((a0 : Int) != a0)) u0

theorem G_cmp_isNaN_int.ok (a0 : Int) (u0 : Mem) (R : PV → Mem → Prop) : G_cmp_isNaN_int.sh a0 u0 R = VF ⟨Try.prog, 6, [], [], [], [], [], [], []⟩ ((Try.f122.body).getD .skip) [.tmp 2] [(pI a0)] u0 R := by kernel_rfl

theorem G_cmp_isNaN_int.c {a0 : Int} {u0 : Mem} {K : PV → Mem → Prop} (h : G_cmp_isNaN_int.sh a0 u0 K) : CallP Try.prog 122 [(pI a0)] u0 K :=
  VF_sound (E := ⟨Try.prog, 6, [], [], [], [], [], [], []⟩) (rs := [.tmp 2]) Try.func122 rfl rfl rfl (by kernel_rfl) (by kernel_rfl) (G_cmp_isNaN_int.ok a0 u0 K ▸ h)


/-- cmp.isNaN[string] -/
def G_cmp_isNaN_string.sh (a0 : ByteArray) (u0 : Mem) (R : PV → Mem → Prop) : Prop :=
  R (pB (!strEq a0 a0)) u0

theorem G_cmp_isNaN_string.ok (a0 : ByteArray) (u0 : Mem) (R : PV → Mem → Prop) : G_cmp_isNaN_string.sh a0 u0 R = VF ⟨Try.prog, 6, [], [], [], [], [], [], []⟩ ((Try.f123.body).getD .skip) [.tmp 2] [(pS a0)] u0 R := by kernel_rfl

theorem G_cmp_isNaN_string.c {a0 : ByteArray} {u0 : Mem} {K : PV → Mem → Prop} (h : G_cmp_isNaN_string.sh a0 u0 K) : CallP Try.prog 123 [(pS a0)] u0 K :=
  VF_sound (E := ⟨Try.prog, 6, [], [], [], [], [], [], []⟩) (rs := [.tmp 2]) Try.func123 rfl rfl rfl (by kernel_rfl) (by kernel_rfl) (G_cmp_isNaN_string.ok a0 u0 K ▸ h)


/-- (ponder/shape.name).Compare -/
def G_shape_name_Compare.sh (a0 : ByteArray) (a1 : ByteArray) (u0 : Mem) (R : PV → Mem → Prop) : Prop :=
  CIf (Op.bytesLess (ByteArray.toList a0) (ByteArray.toList a1))
  (R (pI (-1)) u0)
  (CIf (!(Op.bytesLess (ByteArray.toList a0) (ByteArray.toList a1) || strEq a0 a1))
    (R (pI (1)) u0)
    (R (pI (0)) u0))

theorem G_shape_name_Compare.ok (a0 : ByteArray) (a1 : ByteArray) (u0 : Mem) (R : PV → Mem → Prop) : G_shape_name_Compare.sh a0 a1 u0 R = VF ⟨Try.prog, 13, [], [], [], [], [], [], []⟩ ((Try.f124.body).getD .skip) [.tmp 4] [(pS a0), (pS a1)] u0 R := by kernel_rfl

theorem G_shape_name_Compare.c {a0 : ByteArray} {a1 : ByteArray} {u0 : Mem} {K : PV → Mem → Prop} (h : G_shape_name_Compare.sh a0 a1 u0 K) : CallP Try.prog 124 [(pS a0), (pS a1)] u0 K :=
  VF_sound (E := ⟨Try.prog, 13, [], [], [], [], [], [], []⟩) (rs := [.tmp 4]) Try.func124 rfl rfl rfl (by kernel_rfl) (by kernel_rfl) (G_shape_name_Compare.ok a0 a1 u0 K ▸ h)


end Go.Proofs.Ytfjemjnbemdkgaa

/- All formulas. -/

/-
  Conditions: how many, in which order, light ones. Plain.
-/
namespace Go.Proofs.Ytfjemjnbemdkgaa
open Go.Eng Go.RowKit
set_option linter.unusedVariables false
set_option linter.unusedSimpArgs false
set_option linter.unnecessarySimpa false

mutual
def sizeC : Cond → Nat
  | .mk _ _ _ _ _ _ cs => 1 + sizeL cs
def sizeL : List Cond → Nat
  | [] => 0
  | c :: cs => sizeC c + sizeL cs
end

theorem sizeC_eq (c : Cond) : sizeC c = 1 + sizeL c.conds := by cases c; rfl
theorem sizeL_append (a b : List Cond) : sizeL (a ++ b) = sizeL a + sizeL b := by
  induction a with
  | nil => simp [sizeL]
  | cons c a ih => simp only [List.cons_append, sizeL, ih]; omega
theorem sizeL_take {l : List Cond} {k : Nat} (hk : k < l.length) : sizeL (l.take (k + 1)) = sizeL (l.take k) + (1 + sizeL l[k].conds) := by
  rw [List.take_add_one, sizeL_append, List.getElem?_eq_getElem hk]; simp [sizeL, sizeC_eq]
theorem sizeL_split (l : List Cond) (k : Nat) : sizeL l = sizeL (l.take k) + sizeL (l.drop k) := by rw [← sizeL_append, List.take_append_drop]
theorem sizeL_mem {l : List Cond} {c : Cond} (h : c ∈ l) : 1 + sizeL c.conds ≤ sizeL l := by
  induction l with
  | nil => cases h
  | cons d l ih =>
    simp only [sizeL]
    rcases List.mem_cons.1 h with rfl | h
    · rw [sizeC_eq]; omega
    · have := ih h; omega
theorem sizeL_len (l : List Cond) : l.length ≤ sizeL l := by
  induction l with
  | nil => simp
  | cons c l ih => simp only [List.length_cons, sizeL, sizeC_eq]; omega

mutual
/-- Each condition ahead of its inner ones, with its count and how deep it lies. -/
def preC : Cond → Nat → Nat → List (Nat × Nat × Cond)
  | .mk k g i a v ac cs, at_, deep => (at_, deep, .mk k g i a v ac cs) :: preL cs (at_ + 1) (deep + 1)
def preL : List Cond → Nat → Nat → List (Nat × Nat × Cond)
  | [], _, _ => []
  | c :: cs, at_, deep => preC c at_ deep ++ preL cs (at_ + sizeC c) deep
end

theorem preC_eq (c : Cond) (at_ deep : Nat) : preC c at_ deep = (at_, deep, c) :: preL c.conds (at_ + 1) (deep + 1) := by cases c; rfl

theorem preL_append : ∀ (a b : List Cond) (at_ deep : Nat), preL (a ++ b) at_ deep = preL a at_ deep ++ preL b (at_ + sizeL a) deep
  | [], b, at_, deep => by simp [preL, sizeL]
  | c :: a, b, at_, deep => by
    simp only [List.cons_append, preL, preL_append a b, sizeL, List.append_assoc]
    congr 3; omega

mutual
theorem preC_len : ∀ (c : Cond) (at_ deep : Nat), (preC c at_ deep).length = sizeC c
  | .mk k g i a v ac cs, at_, deep => by simp only [preC, List.length_cons, sizeC, preL_len cs]; omega
theorem preL_len : ∀ (l : List Cond) (at_ deep : Nat), (preL l at_ deep).length = sizeL l
  | [], _, _ => rfl
  | c :: cs, at_, deep => by simp only [preL, List.length_append, preC_len c, preL_len cs, sizeL]
end

theorem nb {b : Bool} (h : (!b) = true) : b = false := by simpa using h
theorem nt {b : Bool} (h : (!b) = false) : b = true := by simpa using h

theorem preL_take {l : List Cond} {k : Nat} (hk : k < l.length) (a d : Nat) : preL (l.take (k + 1)) a d = preL (l.take k) a d ++ ((a + sizeL (l.take k), d, l[k]) :: preL l[k].conds (a + sizeL (l.take k) + 1) (d + 1)) := by
  rw [List.take_add_one, preL_append, List.getElem?_eq_getElem hk]
  simp [preL, preC_eq]

theorem preL_at {l : List Cond} {k : Nat} (hk : k < l.length) (a d : Nat) : preL l a d = preL (l.take k) a d ++ ((a + sizeL (l.take k), d, l[k]) :: preL l[k].conds (a + sizeL (l.take k) + 1) (d + 1)) ++ preL (l.drop (k + 1)) (a + sizeL (l.take (k + 1))) d := by
  rw [← preL_take hk, ← preL_append, List.take_append_drop]

mutual
theorem preC_count : ∀ (c : Cond) (a d k : Nat) (x : Nat × Nat × Cond), (preC c a d)[k]? = some x → x.1 = a + k
  | .mk kk g i at' v ac cs, a, d, k, x, h => by
    simp only [preC] at h
    cases k with
    | zero => simp only [List.getElem?_cons_zero, Option.some.injEq] at h; subst h; rfl
    | succ k =>
      simp only [List.getElem?_cons_succ] at h
      have := preL_count cs (a + 1) (d + 1) k x h; omega
theorem preL_count : ∀ (l : List Cond) (a d k : Nat) (x : Nat × Nat × Cond), (preL l a d)[k]? = some x → x.1 = a + k
  | [], a, d, k, x, h => by simp [preL] at h
  | c :: cs, a, d, k, x, h => by
    simp only [preL] at h
    by_cases hk : k < (preC c a d).length
    · rw [List.getElem?_append_left hk] at h; exact preC_count c a d k x h
    · rw [List.getElem?_append_right (by omega)] at h
      have := preL_count cs (a + sizeC c) d _ x h
      rw [preC_len] at this hk
      omega
end

/-! ### light ones -/
def lightT (t : Test) : Prop := t.list.length ≤ 20 ∧ t.var.size ≤ 100 ∧ t.sym.t.size ≤ 100

mutual
def lightC : Cond → Prop
  | .mk _ _ i a v _ cs => i.size ≤ 100 ∧ a.length ≤ 10 ∧ v.length ≤ 10 ∧ (∀ t ∈ a, lightT t) ∧ (∀ t ∈ v, lightT t) ∧ lightL cs
def lightL : List Cond → Prop
  | [] => True
  | c :: cs => lightC c ∧ lightL cs
end

theorem lightC_eq (c : Cond) : lightC c ↔ c.id.size ≤ 100 ∧ c.attr.length ≤ 10 ∧ c.value.length ≤ 10 ∧ (∀ t ∈ c.attr, lightT t) ∧ (∀ t ∈ c.value, lightT t) ∧ lightL c.conds := by cases c; rfl

theorem lightL_iff {l : List Cond} : lightL l ↔ ∀ c ∈ l, lightC c := by
  induction l with
  | nil => simp [lightL]
  | cons c l ih => simp [lightL, ih]

mutual
theorem lightC_pre : ∀ (c : Cond) (a d : Nat) (x : Nat × Nat × Cond), lightC c → x ∈ preC c a d → lightC x.2.2
  | .mk k g i at' v ac cs, a, d, x, h, hx => by
    simp only [preC, List.mem_cons] at hx
    rcases hx with rfl | hx
    · exact h
    · exact lightL_pre cs _ _ x ((lightC_eq _).1 h).2.2.2.2.2 hx
theorem lightL_pre : ∀ (l : List Cond) (a d : Nat) (x : Nat × Nat × Cond), lightL l → x ∈ preL l a d → lightC x.2.2
  | [], a, d, x, _, hx => by simp [preL] at hx
  | c :: cs, a, d, x, h, hx => by
    simp only [preL, List.mem_append] at hx
    rcases hx with hx | hx
    · exact lightC_pre c a d x h.1 hx
    · exact lightL_pre cs _ d x h.2 hx
end

theorem lightTs {l : List Test} (h : ∀ t ∈ l, lightT t) : ∀ t ∈ l, t.list.length ≤ 1000000 := fun t ht => Nat.le_trans (h t ht).1 (by omega)

end Go.Proofs.Ytfjemjnbemdkgaa

/-
  What the statements keep: sizes, what is too heavy, copies.
-/
namespace Go.Proofs.Ytfjemjnbemdkgaa
open Go.Eng Go.RowKit
set_option linter.unusedVariables false
set_option linter.unusedSimpArgs false
set_option linter.unnecessarySimpa false

theorem sEq (s : ByteArray) : strEq s s = true := strEq_iff.2 rfl

theorem condRow (c : Cond) : rowM c.pv 0 7 = some [pI c.kind, pB c.goal, pS c.id, .list 6 .sh (c.attr.map Test.pv), .list 6 .sh (c.value.map Test.pv), pB c.acc, .list 7 .sh (c.conds.map Cond.pv)] := by rw [Cond.pv_eq]; rfl

theorem cKSize : ∀ (n : Nat) (fl : Fl) (l : List Cond) (most deep : Nat), sizeL l ≤ n → most ≤ 1000 → deep ≤ 21 → PureK Try.prog 36 [.list 7 fl (l.map Cond.pv), pI (most : Nat), pI (deep : Nat)] fun p => ∃ r : Nat, p = pI (r : Nat) ∧ r ≤ most + 1 ∧ (r ≤ most → sizeL l = r) := by
  intro n
  induction n with
  | zero =>
    intro fl l most deep h hm hd
    have : l = [] := by
      cases l with
      | nil => rfl
      | cons c l => simp [sizeL, sizeC_eq] at h
    subst this
    refine PureK.of (G_ponderkeep_Size.c ?_)
    refine CIf.mk (fun h => ⟨most + 1, ?_, by omega, fun h => by omega⟩) (fun h => ?_)
    · rw [wrap_id (by omega) (by omega)]; rfl
    · refine ⟨fun s _ => s = 0, ?_, ?_⟩
      · exact LoopI.up2 0 (by omega) (fun k x u => x = 0) rfl fun k x u next hk hx hnext => by
          have : k = 0 := by omega
          subst this hx
          exact CIf.f (by simp) rfl
      · rintro s u rfl
        rw [wrap_id (by omega) (by omega), if_neg (by omega)]
        exact ⟨0, rfl, by omega, fun _ => rfl⟩
  | succ n ih =>
    intro fl l most deep h hm hd
    refine PureK.of (G_ponderkeep_Size.c ?_)
    refine CIf.mk (fun h => ⟨most + 1, ?_, by omega, fun h => by omega⟩) (fun hdd => ?_)
    · rw [wrap_id (by omega) (by omega)]; rfl
    · have hdd := of_decide_eq_false hdd
      refine ⟨fun s _ => ∃ m : Nat, s = (m : Int) ∧ m ≤ 2 * most + 2 ∧ (m ≤ most → sizeL l = m), ?_, ?_⟩
      · refine LoopI.up2 (2 * most + 5) (by omega) (fun k x u => ∃ m : Nat, x = (m : Int) ∧ k ≤ m ∧ m ≤ 2 * most + 2 ∧ (m ≤ most → sizeL (l.take k) = m)) ⟨0, rfl, by omega, by omega, fun _ => by simp [sizeL]⟩ ?_
        rintro k _ u next hk ⟨m, rfl, hkm, hmm, hsz⟩ hnext
        refine CIf.mk (fun h1 => CIf.mk (fun h2 => ?_) (fun h2 => ?_)) (fun h1 => ?_)
        · have h1 := of_decide_eq_true h1
          have h2 := of_decide_eq_true h2
          simp only [List.length_map] at h1
          have hk' : k < l.length := by omega
          have hs := hsz (by omega)
          have hmem := sizeL_mem (List.getElem_mem hk')
          refine ⟨by omega, _, atRow hk', .sh, l[k].conds.map Cond.pv, by rw [Cond.pv_eq]; rfl, ?_⟩
          rw [wrap_id (x := (deep : Int) + 1) (by omega) (by omega)]
          refine (ih .sh l[k].conds most (deep + 1) (by omega) hm (by omega)).call ?_
          rintro _ ⟨r, rfl, hr1, hr2⟩
          refine ⟨_, rfl, ?_⟩
          dsimp only
          rw [wrap_id (x := (1 : Int) + _) (by omega) (by omega), wrap_id (x := (m : Int) + _) (by omega) (by omega)]
          refine hnext (by omega) _ _ ⟨m + 1 + r, by omega, by omega, by omega, fun hle => ?_⟩
          rw [sizeL_take hk', hs, hr2 (by omega)]; omega
        · have h2 := of_decide_eq_false h2
          exact ⟨m, rfl, hmm, fun hle => by omega⟩
        · have h1 := of_decide_eq_false h1
          simp only [List.length_map] at h1
          rw [takeAll (by omega)] at hsz
          exact ⟨m, rfl, hmm, hsz⟩
      · rintro _ u ⟨m, rfl, hmm, hsz⟩
        rw [wrap_id (by omega) (by omega)]
        by_cases hlt : (most : Int) + 1 < (m : Int)
        · rw [if_pos hlt]
          exact ⟨most + 1, rfl, by omega, fun h => by omega⟩
        · rw [if_neg hlt]
          exact ⟨m, rfl, by omega, hsz⟩

theorem cHeavyTests (fl : Fl) (l : List Test) (hl : l.length ≤ 1000000) : PureK Try.prog 63 [.list 6 fl (l.map Test.pv)] fun p => ∃ q : Bool, p = pB q ∧ (q = false → ∀ t ∈ l, lightT t) := by
  refine PureK.of (G_ponderkeep_heavyTests.c ?_)
  refine LoopI.each (n := l.length) (by omega) (fun k u => ∀ t ∈ l.take k, lightT t) (by simp) ?_ ?_
  · intro k u next hk hg hnext
    have yes : ∃ q : Bool, wk (pB true) = pB q ∧ (q = false → ∀ t ∈ l, lightT t) := ⟨true, rfl, fun h => by cases h⟩
    refine CIf.t (by simpa using hk) ⟨by omega, _, atRow hk, _, _, rfl, CIf.mk (fun _ => yes) (fun a1 => ⟨by omega, _, atRow hk, _, rfl, CIf.mk (fun _ => yes) (fun a2 => ⟨by omega, _, atRow hk, _, rfl, CIf.mk (fun _ => yes) (fun a3 => hnext _ ?_)⟩)⟩)⟩
    have a1 := of_decide_eq_false a1
    have a2 := of_decide_eq_false a2
    have a3 := of_decide_eq_false a3
    simp only [List.length_map] at a1
    intro t ht
    rw [List.take_add_one, List.getElem?_eq_getElem hk, List.mem_append] at ht
    rcases ht with ht | ht
    · exact hg t ht
    · simp only [Option.toList_some, List.mem_singleton] at ht
      subst ht
      exact ⟨by omega, by omega, by omega⟩
  · intro u next hg
    rw [List.take_length] at hg
    exact CIf.f (by simp) ⟨false, rfl, fun _ => hg⟩

theorem cHeavyConds : ∀ (n : Nat) (fl : Fl) (l : List Cond), sizeL l ≤ n → sizeL l ≤ 1000000 → PureK Try.prog 37 [.list 7 fl (l.map Cond.pv)] fun p => ∃ q : Bool, p = pB q ∧ (q = false → lightL l) := by
  intro n
  induction n with
  | zero =>
    intro fl l h _
    have : l = [] := by
      cases l with
      | nil => rfl
      | cons c l => simp [sizeL, sizeC_eq] at h
    subst this
    refine PureK.of (G_ponderkeep_HeavyConds.c ?_)
    exact LoopI.each (n := 0) (by omega) (fun k u => True) trivial (fun k u next hk => by omega) (fun u next _ => CIf.f (by simp) ⟨false, rfl, fun _ => trivial⟩)
  | succ n ih =>
    intro fl l h h6
    refine PureK.of (G_ponderkeep_HeavyConds.c ?_)
    have hll := sizeL_len l
    refine LoopI.each (n := l.length) (by omega) (fun k u => ∀ c ∈ l.take k, lightC c) (by simp) ?_ ?_
    · intro k u next hk hg hnext
      have hm := sizeL_mem (List.getElem_mem hk)
      have yes : ∃ q : Bool, wk (pB true) = pB q ∧ (q = false → lightL l) := ⟨true, rfl, fun h => by cases h⟩
      refine CIf.t (by simpa using hk) ⟨by omega, _, atRow hk, _, _, _, _, _, _, _, _, _, _, by rw [Cond.pv_eq]; rfl, CIf.mk (fun _ => yes) (fun a1 => CIf.mk (fun _ => yes) (fun a2 => CIf.mk (fun _ => yes) (fun a3 => ?_)))⟩
      have a1 := of_decide_eq_false a1
      have a2 := of_decide_eq_false a2
      have a3 := of_decide_eq_false a3
      simp only [List.length_map] at a2 a3
      refine (cHeavyTests .sh l[k].attr (by omega)).call ?_
      rintro _ ⟨q1, rfl, hq1⟩
      refine ⟨_, rfl, CIf.mk (fun _ => yes) (fun b1 => (cHeavyTests .sh l[k].value (by omega)).call ?_)⟩
      rintro _ ⟨q2, rfl, hq2⟩
      refine ⟨_, rfl, CIf.mk (fun _ => yes) (fun b2 => (ih .sh l[k].conds (by omega) (by omega)).call ?_)⟩
      rintro _ ⟨q3, rfl, hq3⟩
      refine ⟨_, rfl, CIf.mk (fun _ => yes) (fun b3 => hnext _ ?_)⟩
      intro c hc
      rw [List.take_add_one, List.getElem?_eq_getElem hk, List.mem_append] at hc
      rcases hc with hc | hc
      · exact hg c hc
      · simp only [Option.toList_some, List.mem_singleton] at hc
        subst hc
        exact (lightC_eq _).2 ⟨by omega, by omega, by omega, hq1 b1, hq2 b2, hq3 b3⟩
    · intro u next hg
      rw [List.take_length] at hg
      exact CIf.f (by simp) ⟨false, rfl, fun _ => lightL_iff.2 hg⟩

/-- A number out of n, told by any number. -/
def withinV (v : Int) (n : Nat) : Nat := (if Int.tmod v n < 0 then Int.tmod v n + n else Int.tmod v n).toNat
theorem withinV_lt (v : Int) {n : Nat} (h : 1 ≤ n) : withinV v n < n := by
  unfold withinV
  have h1 := Int.tmod_lt_of_pos v (show (0 : Int) < (n : Int) by omega)
  have h2 := Int.lt_tmod_of_pos v (show (0 : Int) < (n : Int) by omega)
  split <;> omega
theorem cWithinV (v : Int) (n : Nat) (h1 : 1 ≤ n) (h2 : n ≤ 1000000) : Pure Try.prog 20 [pI v, pI (n : Nat)] (pI (withinV v n : Nat)) := by
  refine PureK.of (G_ponderkeep_Within.c ?_)
  have hm := Int.tmod_lt_of_pos v (show (0 : Int) < (n : Int) by omega)
  have hlo := Int.lt_tmod_of_pos v (show (0 : Int) < (n : Int) by omega)
  refine CIf.f (by simp; omega) ⟨by omega, CIf.mk (fun h => ?_) (fun h => ?_)⟩
  · have h := of_decide_eq_true h
    rw [wrap_id (by omega) (by omega)]
    simp only [wk, wk1, withinV]
    rw [if_pos h]
    congr 2; omega
  · have h := of_decide_eq_false h
    simp only [wk, wk1, withinV]
    rw [if_neg h]
    congr 2; omega
theorem cWithin (v : Int) (n : Nat) (h1 : 1 ≤ n) (h2 : n ≤ 1000000) : PureK Try.prog 20 [pI v, pI (n : Nat)] fun p => ∃ k : Nat, p = pI (k : Nat) ∧ k < n := by
  refine PureK.of (G_ponderkeep_Within.c ?_)
  have hm := Int.tmod_lt_of_pos v (show (0 : Int) < (n : Int) by omega)
  refine CIf.f (by simp; omega) ⟨by omega, CIf.mk (fun h => ?_) (fun h => ?_)⟩
  · have h := of_decide_eq_true h
    have hlo : -(n : Int) < Int.tmod v n := by
      have := Int.lt_tmod_of_pos v (show (0 : Int) < (n : Int) by omega); omega
    refine ⟨(Int.tmod v n + n).toNat, ?_, by omega⟩
    rw [wrap_id (by omega) (by omega)]
    simp only [wk, wk1]
    congr 2; omega
  · have h := of_decide_eq_false h
    refine ⟨(Int.tmod v n).toNat, ?_, by omega⟩
    simp only [wk, wk1]
    congr 2; omega

theorem cCopySyms (f : Fl) (l : List Sym) (hl : l.length ≤ 1000000) : Pure Try.prog 97 [.list 3 f (l.map Sym.pv)] (.list 3 .sh (l.map Sym.pv)) := by
  refine PureK.of (G_ponderkeep_Copy_api_Sym.c ?_)
  exact appL.go1 (by trivial) (by simp; omega) (by simp; omega) fun f1 μ1 t1 => rfl

theorem cCopyTests (f : Fl) (l : List Test) (hl : l.length ≤ 1000000) (ht : ∀ t ∈ l, t.list.length ≤ 1000000) : Pure Try.prog 89 [.list 6 f (l.map Test.pv)] (.list 6 .sh (l.map Test.pv)) := by
  refine PureK.of (G_ponderkeep_CopyTests.c ?_)
  refine LoopI.each2 (n := l.length) (by omega) (fun i x u => x.2 = (l.take i).map Test.pv ∧ TipIn x.1 i 6 u) ⟨rfl, trivial⟩ ?_ ?_
  · rintro i ⟨f, _⟩ u next hi ⟨rfl, ht'⟩ hnext
    refine CIf.t (by simpa using hi) ⟨by omega, _, atRow hi, _, _, _, _, _, _, _, rfl, by omega, _, atRow hi, _, _, rfl, ?_⟩
    refine (cCopySyms .sh l[i].list (ht _ (List.getElem_mem hi))).call ⟨_, _, rfl, ?_⟩
    have hlen : ((l.take i).map Test.pv).length = i := by rw [List.length_map, List.length_take]; omega
    refine appL.go1 (by rw [hlen]; exact ht') (by rw [hlen]; simp; omega) (by rw [hlen]; simp; omega) fun f1 μ1 t1 => hnext _ _ ⟨?_, ?_⟩
    · rw [mapTake hi]
    · rw [hlen] at t1; exact t1
  · rintro ⟨f, _⟩ u next ⟨rfl, ht'⟩
    refine CIf.f (by simp) ?_
    rw [List.take_length]; rfl

theorem cCopyConds : ∀ (n : Nat) (f : Fl) (l : List Cond), sizeL l ≤ n → sizeL l ≤ 1000000 → lightL l → Pure Try.prog 48 [.list 7 f (l.map Cond.pv)] (.list 7 .sh (l.map Cond.pv)) := by
  intro n
  induction n with
  | zero =>
    intro f l h _ _
    have : l = [] := by
      cases l with
      | nil => rfl
      | cons c l => simp [sizeL, sizeC_eq] at h
    subst this
    refine PureK.of (G_ponderkeep_CopyConds.c ?_)
    exact LoopI.each2 (n := 0) (by omega) (fun _ x _ => x.2 = []) rfl (fun k x u next hk => by omega) (fun x u next hx => CIf.f (by simp) (by rw [hx]; rfl))
  | succ n ih =>
    intro f l h h6 hli
    have hll := sizeL_len l
    refine PureK.of (G_ponderkeep_CopyConds.c ?_)
    refine LoopI.each2 (n := l.length) (by omega) (fun i x u => x.2 = (l.take i).map Cond.pv ∧ TipIn x.1 i 7 u) ⟨rfl, trivial⟩ ?_ ?_
    · rintro i ⟨f, _⟩ u next hi ⟨rfl, ht'⟩ hnext
      have hm := sizeL_mem (List.getElem_mem hi)
      obtain ⟨_, ha, hv, hta, htv, hcs⟩ := (lightC_eq _).1 (lightL_iff.1 hli _ (List.getElem_mem hi))
      refine CIf.t (by simpa using hi) ⟨by omega, _, atRow hi, _, _, _, _, _, _, _, _, _, _, condRow _, ?_⟩
      refine Pure.call (r := .agg l[i].pv) (PureK.of (G_ponderkeep_CopyCond.c ?_)) ?_
      · refine (cCopyTests .sh _ (by omega) (lightTs hta)).call ⟨_, _, rfl, (cCopyTests .sh _ (by omega) (lightTs htv)).call ⟨_, _, rfl, (ih .sh _ (by omega) (by omega) hcs).call ⟨_, _, rfl, ?_⟩⟩⟩
        rw [Cond.pv_eq]; rfl
      · rw [Cond.pv_eq]
        refine ⟨_, _, _, _, _, _, _, _, _, _, rfl, ?_⟩
        have hlen : ((l.take i).map Cond.pv).length = i := by rw [List.length_map, List.length_take]; omega
        refine appL.go1 (by rw [hlen]; exact ht') (by rw [hlen]; simp; omega) (by rw [hlen]; simp; omega) fun f1 μ1 t1 => hnext _ _ ⟨?_, ?_⟩
        · rw [mapTake hi, Cond.pv_eq l[i]]
        · rw [hlen] at t1; exact t1
    · rintro ⟨f, _⟩ u next ⟨rfl, ht'⟩
      refine CIf.f (by simp) ?_
      rw [List.take_length]; rfl


end Go.Proofs.Ytfjemjnbemdkgaa

/-
  Conditions of one's own: lists within lists, each of them one's own.
-/
namespace Go.Proofs.Ytfjemjnbemdkgaa
open Go.Eng Go.RowKit
set_option linter.unusedVariables false
set_option linter.unusedSimpArgs false
set_option linter.unnecessarySimpa false

abbrev tySymO : TypeId := 39
abbrev tyTestO : TypeId := 49
abbrev tyCondO : TypeId := 37

theorem symLen (l : List Sym) : ∀ r ∈ l.map Sym.pv, r.length = 3 := rowsLenK (pv := Sym.pv) (fun _ => rfl) l
theorem symCell (l : List Sym) : allCell (l.map Sym.pv).flatten = true := rowsCellK (pv := Sym.pv) (fun _ => rfl) l

/-- A list of symbols: anyone's (d is false), or one's own. -/
def SymsT (d : Bool) (l : List Sym) (q : PV) : Asn := fun μ => bif d then Vec tySymO 3 q (l.map Sym.pv) μ else q = .list 3 .sh (l.map Sym.pv)
@[reducible] def tRow (x : Test × PV) : List PV := [pI x.1.rel, pS x.1.var, pI x.1.sym.k, pS x.1.sym.t, pI x.1.sym.n, x.2]
def tOwn (d : Bool) (x : Test × PV) : Asn := SymsT d x.1.list x.2
def TestsT (d : Bool) (l : List Test) (p : PV) : Asn := fun μ => ∃ X : List (Test × PV), X.map (·.1) = l ∧ (∀ x ∈ X, x.2.cell = true) ∧ Ow (Vec tyTestO 6 p (X.map tRow) :: X.map (tOwn d)) μ
@[reducible] def cRow (x : Cond × PV × PV × PV) : List PV := [pI x.1.kind, pB x.1.goal, pS x.1.id, x.2.1, x.2.2.1, pB x.1.acc, x.2.2.2]
def CondsT (d : Bool) : Nat → List Cond → PV → Asn
  | 0, l, p => fun μ => l = [] ∧ Vec tyCondO 7 p [] μ
  | n + 1, l, p => fun μ => ∃ X : List (Cond × PV × PV × PV), X.map (·.1) = l ∧ (∀ x ∈ X, x.2.1.cell = true ∧ x.2.2.1.cell = true ∧ x.2.2.2.cell = true) ∧
      Ow (Vec tyCondO 7 p (X.map cRow) :: X.map fun x => Ow [TestsT d x.1.attr x.2.1, TestsT d x.1.value x.2.2.1, CondsT d n x.1.conds x.2.2.2]) μ
def kOwn (d : Bool) (n : Nat) (x : Cond × PV × PV × PV) : Asn := Ow [TestsT d x.1.attr x.2.1, TestsT d x.1.value x.2.2.1, CondsT d n x.1.conds x.2.2.2]

theorem tRowLen (X : List (Test × PV)) : ∀ r ∈ X.map tRow, r.length = 6 := fun r hr => by obtain ⟨x, _, rfl⟩ := List.mem_map.1 hr; rfl
theorem cRowLen (X : List (Cond × PV × PV × PV)) : ∀ r ∈ X.map cRow, r.length = 7 := fun r hr => by obtain ⟨x, _, rfl⟩ := List.mem_map.1 hr; rfl

/-! ### as they read -/
theorem SymsT.view {d : Bool} {l : List Sym} {q : PV} {ν μ : Mem} (h : SymsT d l q ν) (hi : Mem.inc ν μ) : BorV μ q (.list 3 .sh (l.map Sym.pv)) := by
  cases d with
  | false => rw [show q = _ from h]; exact .same _
  | true =>
    obtain ⟨F, hv⟩ : Vec tySymO 3 q (l.map Sym.pv) ν := h
    exact (hv.view (symLen l) (symCell l)).inc hi

theorem TestsT.view {d : Bool} {l : List Test} {p : PV} {ν μ : Mem} (h : TestsT d l p ν) (hi : Mem.inc ν μ) : BorV μ p (.list 6 .sh (l.map Test.pv)) := by
  obtain ⟨X, rfl, _, hO⟩ := h
  obtain ⟨ν1, hv, hi1⟩ := hO.mem _ (List.mem_cons_self ..)
  rw [List.map_map]
  refine Vec.deep (f := tRow) (g := Test.pv ∘ Prod.fst) (X := X) hv (fun b o hb => hi b o (hi1 b o hb)) (fun x _ => rfl) (fun x _ => rfl) (fun x _ => rfl) fun x hx => ?_
  obtain ⟨ν2, hs, hi2⟩ := hO.mem (tOwn d x) (List.mem_cons_of_mem _ (List.mem_map.2 ⟨x, hx, rfl⟩))
  exact BorL.cons (.same _) (BorL.cons (.same _) (BorL.cons (.same _) (BorL.cons (.same _) (BorL.cons (.same _) (BorL.cons (SymsT.view hs fun b o hb => hi b o (hi2 b o hb)) (BorL.nil _))))))

theorem CondsT.view {d : Bool} : ∀ {n : Nat} {l : List Cond} {p : PV} {ν μ : Mem}, CondsT d n l p ν → Mem.inc ν μ → BorV μ p (.list 7 .sh (l.map Cond.pv))
  | 0, l, p, ν, μ, h, hi => by
    obtain ⟨rfl, F, hv⟩ := h
    exact (hv.view (by simp) rfl).inc hi
  | n + 1, l, p, ν, μ, h, hi => by
    obtain ⟨X, rfl, _, hO⟩ := h
    obtain ⟨ν1, hv, hi1⟩ := hO.mem _ (List.mem_cons_self ..)
    rw [List.map_map]
    refine Vec.deep (f := cRow) (g := Cond.pv ∘ Prod.fst) (X := X) hv (fun b o hb => hi b o (hi1 b o hb)) (fun x _ => rfl) (fun x _ => by show (Cond.pv x.1).length = 7; rw [Cond.pv_eq]; rfl) (fun x _ => by show allCell (Cond.pv x.1) = true; rw [Cond.pv_eq]; rfl) fun x hx => ?_
    obtain ⟨ν2, hs, hi2⟩ := hO.mem (kOwn d n x) (List.mem_cons_of_mem _ (List.mem_map.2 ⟨x, hx, rfl⟩))
    have hs : Ow [TestsT d x.1.attr x.2.1, TestsT d x.1.value x.2.2.1, CondsT d n x.1.conds x.2.2.2] ν2 := hs
    have hin : ∀ {κ}, Mem.inc κ ν2 → Mem.inc κ μ := fun hk b o hb => hi b o (hi2 b o (hk b o hb))
    obtain ⟨κ1, a1, b1⟩ := hs.mem _ (List.mem_cons_self ..)
    obtain ⟨κ2, a2, b2⟩ := hs.mem _ (List.mem_cons_of_mem _ (List.mem_cons_self ..))
    obtain ⟨κ3, a3, b3⟩ := hs.mem _ (List.mem_cons_of_mem _ (List.mem_cons_of_mem _ (List.mem_cons_self ..)))
    show BorL μ (cRow x) (Cond.pv x.1)
    rw [Cond.pv_eq]
    exact BorL.cons (.same _) (BorL.cons (.same _) (BorL.cons (.same _) (BorL.cons (TestsT.view a1 (hin b1)) (BorL.cons (TestsT.view a2 (hin b2)) (BorL.cons (.same _) (BorL.cons (CondsT.view a3 (hin b3)) (BorL.nil _)))))))

theorem TestsT.raw {d : Bool} {l : List Test} {p : PV} {μ : Mem} (h : TestsT d l p μ) : ∃ a c, p = .raw (.slice a l.length c) := by
  obtain ⟨X, rfl, _, hO⟩ := h
  obtain ⟨ν, hv, _⟩ := hO.mem _ (List.mem_cons_self ..)
  obtain ⟨a, c, h⟩ := hv.raw
  exact ⟨a, c, by simpa using h⟩
theorem CondsT.raw {d : Bool} {n : Nat} {l : List Cond} {p : PV} {μ : Mem} (h : CondsT d n l p μ) : ∃ a c, p = .raw (.slice a l.length c) := by
  cases n with
  | zero =>
    obtain ⟨rfl, hv⟩ := h
    exact Vec.raw hv
  | succ n =>
    obtain ⟨X, rfl, _, hO⟩ := h
    obtain ⟨ν, hv, _⟩ := hO.mem _ (List.mem_cons_self ..)
    obtain ⟨a, c, h⟩ := hv.raw
    exact ⟨a, c, by simpa using h⟩

/-! ### opened and shut -/
theorem TestsT.open_ {d : Bool} {l : List Test} {p : PV} {L : List Asn} {μ : Mem} (h : Ow (TestsT d l p :: L) μ) : ∃ X : List (Test × PV), X.map (·.1) = l ∧ (∀ x ∈ X, x.2.cell = true) ∧ Ow (Vec tyTestO 6 p (X.map tRow) :: (X.map (tOwn d) ++ L)) μ := by
  obtain ⟨X, h⟩ := Ow.ex h
  obtain ⟨h1, h⟩ := Ow.and h
  obtain ⟨h2, h⟩ := Ow.and h
  exact ⟨X, h1, h2, h.nest⟩
theorem TestsT.shut {d : Bool} {p : PV} {X : List (Test × PV)} {L : List Asn} {μ : Mem} (h2 : ∀ x ∈ X, x.2.cell = true) (h : Ow (Vec tyTestO 6 p (X.map tRow) :: (X.map (tOwn d) ++ L)) μ) : Ow (TestsT d (X.map (·.1)) p :: L) μ :=
  (Ow.pack (L1 := Vec tyTestO 6 p (X.map tRow) :: X.map (tOwn d)) h).imp fun _ hν => ⟨X, rfl, h2, hν⟩
theorem CondsT.open_ {d : Bool} {n : Nat} {l : List Cond} {p : PV} {L : List Asn} {μ : Mem} (h : Ow (CondsT d (n + 1) l p :: L) μ) : ∃ X : List (Cond × PV × PV × PV), X.map (·.1) = l ∧ (∀ x ∈ X, x.2.1.cell = true ∧ x.2.2.1.cell = true ∧ x.2.2.2.cell = true) ∧ Ow (Vec tyCondO 7 p (X.map cRow) :: (X.map (kOwn d n) ++ L)) μ := by
  obtain ⟨X, h⟩ := Ow.ex h
  obtain ⟨h1, h⟩ := Ow.and h
  obtain ⟨h2, h⟩ := Ow.and h
  exact ⟨X, h1, h2, h.nest⟩
theorem CondsT.shut {d : Bool} {n : Nat} {p : PV} {X : List (Cond × PV × PV × PV)} {L : List Asn} {μ : Mem} (h2 : ∀ x ∈ X, x.2.1.cell = true ∧ x.2.2.1.cell = true ∧ x.2.2.2.cell = true) (h : Ow (Vec tyCondO 7 p (X.map cRow) :: (X.map (kOwn d n) ++ L)) μ) : Ow (CondsT d (n + 1) (X.map (·.1)) p :: L) μ :=
  (Ow.pack (L1 := Vec tyCondO 7 p (X.map cRow) :: X.map (kOwn d n)) h).imp fun _ hν => ⟨X, rfl, h2, hν⟩

end Go.Proofs.Ytfjemjnbemdkgaa

/-
  Copies of one's own; and what is written into them.
-/
namespace Go.Proofs.Ytfjemjnbemdkgaa
open Go.Eng Go.RowKit
set_option linter.unusedVariables false
set_option linter.unusedSimpArgs false
set_option linter.unnecessarySimpa false

theorem takeSucc {α β : Type} {f : α → β} {l : List α} {k : Nat} (hk : k < l.length) {X : List α} {x : α} (h : X = l.take k) (hx : x = l[k]) : X ++ [x] = l.take (k + 1) := by
  rw [List.take_add_one, List.getElem?_eq_getElem hk, h, hx]; rfl

/-! ### copies -/
theorem cCopySymsS {L : List Asn} {μ : Mem} (hO : Ow L μ) (f : Fl) (l : List Sym) (hl : l.length ≤ 1000000) {K : PV → Mem → Prop} (hk : ∀ a c μ', Ow (Vec tySymO 3 (.raw (.slice a l.length c)) (l.map Sym.pv) :: L) μ' → K (.raw (.slice a l.length c)) μ') : CallP Try.prog 97 [.list 3 f (l.map Sym.pv)] μ K := by
  refine G_ponderkeep_Copy_api_Sym_s.c (appR_mk hO (symLen l) (symCell l) (by simp; omega) (by simp; omega) fun a c μ' h => ?_)
  rw [List.length_map] at h ⊢
  exact hk a c μ' h

theorem testsAdd {d : Bool} {X : List (Test × PV)} {a : Option Addr} {n c : Nat} {L : List Asn} {u : Mem} (hO : Ow (Vec tyTestO 6 (.raw (.slice a n c)) (X.map tRow) :: (X.map (tOwn d) ++ L)) u) (t : Test) (q : PV) (hq : q.cell = true) (hl : X.length + 1 ≤ 1000000) {L2 : List Asn} {u2 : Mem} (hO2 : Ow (tOwn d (t, q) :: (Vec tyTestO 6 (.raw (.slice a n c)) (X.map tRow) :: (X.map (tOwn d) ++ L))) u2) {K : Option Addr → Nat → Nat → Mem → Prop}
    (hk : ∀ b' c' u3, Ow (Vec tyTestO 6 (.raw (.slice b' (X.length + 1) c')) ((X ++ [(t, q)]).map tRow) :: ((X ++ [(t, q)]).map (tOwn d) ++ L)) u3 → K b' (X.length + 1) c' u3) :
    appR 6 80 tyTestO a n c (.list 6 .nr [[pI t.rel, pS t.var, pI t.sym.k, pS t.sym.t, pI t.sym.n, q]]) u2 K := by
  obtain ⟨a1, c1, hp, happ⟩ := Vec.app hO2.swap (tRowLen X)
  simp only [PV.raw.injEq, Value.slice.injEq, List.length_map] at hp
  obtain ⟨rfl, rfl, rfl⟩ := hp
  simp only [List.length_map] at happ
  refine happ (tRow (t, q)) _ _ rfl (by simp only [allCell, tRow, List.all_cons, List.all_nil, hq]; rfl) (by omega) (by omega) fun b' c' u3 h3 => hk _ c' u3 ?_
  have e1 : (X ++ [(t, q)]).map tRow = X.map tRow ++ [tRow (t, q)] := by simp
  have e2 : (X ++ [(t, q)]).map (tOwn d) ++ L = X.map (tOwn d) ++ tOwn d (t, q) :: L := by simp
  rw [e1, e2]
  exact h3.tail fun ν hν => Ow.unmid hν

theorem cCopyTestsS {L : List Asn} {μ : Mem} (hO : Ow L μ) (f : Fl) (l : List Test) (hl : l.length ≤ 100000) (ht : ∀ t ∈ l, t.list.length ≤ 1000000) {K : PV → Mem → Prop} (hk : ∀ a c μ', Ow (TestsT true l (.raw (.slice a l.length c)) :: L) μ' → K (.raw (.slice a l.length c)) μ') : CallP Try.prog 89 [.list 6 f (l.map Test.pv)] μ K := by
  refine G_ponderkeep_CopyTests_s.c ?_
  refine LoopI.each2 (n := l.length) (by omega) (fun i x u => ∃ X : List (Test × PV), X.map (·.1) = l.take i ∧ (∀ x ∈ X, x.2.cell = true) ∧ x.2.1 = X.length ∧ Ow (Vec tyTestO 6 (.raw (.slice x.1 x.2.1 x.2.2)) (X.map tRow) :: (X.map (tOwn true) ++ L)) u) ⟨[], rfl, by simp, rfl, Vec.nil _ _ hO⟩ ?_ ?_
  · rintro i ⟨a, n, c⟩ u next hi ⟨X, hX, hc, rfl, hO⟩ hnext
    have hXl : X.length = i := by have := congrArg List.length hX; rw [List.length_map, List.length_take] at this; omega
    refine CIf.t (by simpa using hi) ⟨by omega, _, atRow hi, _, _, _, _, _, _, _, rfl, by omega, _, atRow hi, _, _, rfl, ?_⟩
    refine cCopySymsS hO .sh l[i].list (ht _ (List.getElem_mem hi)) fun a1 c1 u1 O1 => ⟨_, _, _, rfl, ?_⟩
    refine testsAdd hO l[i] (.raw (.slice a1 l[i].list.length c1)) rfl (by omega) (L2 := L) O1 fun b' c' u3 O3 => hnext _ _ ⟨X ++ [(l[i], .raw (.slice a1 l[i].list.length c1))], ?_, ?_, by simp, O3⟩
    · rw [List.map_append, hX, List.take_add_one, List.getElem?_eq_getElem hi]; rfl
    · intro x hx
      rcases List.mem_append.1 hx with h | h
      · exact hc x h
      · simp at h; subst h; rfl
  · rintro ⟨a, n, c⟩ u next ⟨X, hX, hc, rfl, hO⟩
    rw [List.take_length] at hX
    refine CIf.f (by simp) ?_
    subst hX
    have := hk a c u
    rw [List.length_map] at this
    exact this (TestsT.shut hc hO)


theorem cCopyTestsW {L : List Asn} {μ : Mem} (hO : Ow L μ) (f : Fl) (l : List Test) (hl : l.length ≤ 100000) (ht : ∀ t ∈ l, t.list.length ≤ 1000000) {K : PV → Mem → Prop} (hk : ∀ a c μ', Ow (TestsT false l (.raw (.slice a l.length c)) :: L) μ' → K (.raw (.slice a l.length c)) μ') : CallP Try.prog 89 [.list 6 f (l.map Test.pv)] μ K := by
  refine G_ponderkeep_CopyTests_w.c ?_
  refine LoopI.each2 (n := l.length) (by omega) (fun i x u => ∃ X : List (Test × PV), X.map (·.1) = l.take i ∧ (∀ x ∈ X, x.2.cell = true) ∧ x.2.1 = X.length ∧ Ow (Vec tyTestO 6 (.raw (.slice x.1 x.2.1 x.2.2)) (X.map tRow) :: (X.map (tOwn false) ++ L)) u) ⟨[], rfl, by simp, rfl, Vec.nil _ _ hO⟩ ?_ ?_
  · rintro i ⟨a, n, c⟩ u next hi ⟨X, hX, hc, rfl, hO⟩ hnext
    have hXl : X.length = i := by have := congrArg List.length hX; rw [List.length_map, List.length_take] at this; omega
    refine CIf.t (by simpa using hi) ⟨by omega, _, atRow hi, _, _, _, _, _, _, _, rfl, by omega, _, atRow hi, _, _, rfl, ?_⟩
    refine (cCopySyms .sh l[i].list (ht _ (List.getElem_mem hi))).call ⟨_, _, rfl, ?_⟩
    have O1 : Ow (tOwn false (l[i], .list 3 .sh (l[i].list.map Sym.pv)) :: (Vec tyTestO 6 (.raw (.slice a X.length c)) (X.map tRow) :: (X.map (tOwn false) ++ L))) u := ⟨M0, u, Mem.sep_M0 u, (Mem.M0_or u).symm, rfl, hO⟩
    refine testsAdd hO l[i] (.list 3 .sh (l[i].list.map Sym.pv)) rfl (by omega) (L2 := L) O1 fun b' c' u3 O3 => hnext _ _ ⟨X ++ [(l[i], .list 3 .sh (l[i].list.map Sym.pv))], ?_, ?_, by simp, O3⟩
    · rw [List.map_append, hX, List.take_add_one, List.getElem?_eq_getElem hi]; rfl
    · intro x hx
      rcases List.mem_append.1 hx with h | h
      · exact hc x h
      · simp at h; subst h; rfl
  · rintro ⟨a, n, c⟩ u next ⟨X, hX, hc, rfl, hO⟩
    rw [List.take_length] at hX
    refine CIf.f (by simp) ?_
    subst hX
    have := hk a c u
    rw [List.length_map] at this
    exact this (TestsT.shut hc hO)

theorem condsAdd {d : Bool} {n0 : Nat} {X : List (Cond × PV × PV × PV)} {a : Option Addr} {n c : Nat} {L : List Asn} (x : Cond × PV × PV × PV) (hq : x.2.1.cell = true ∧ x.2.2.1.cell = true ∧ x.2.2.2.cell = true) (hl : X.length + 1 ≤ 1000000) {u2 : Mem} (hO2 : Ow (kOwn d n0 x :: (Vec tyCondO 7 (.raw (.slice a n c)) (X.map cRow) :: (X.map (kOwn d n0) ++ L))) u2) {K : Option Addr → Nat → Nat → Mem → Prop}
    (hk : ∀ b' c' u3, Ow (Vec tyCondO 7 (.raw (.slice b' (X.length + 1) c')) ((X ++ [x]).map cRow) :: ((X ++ [x]).map (kOwn d n0) ++ L)) u3 → K b' (X.length + 1) c' u3) :
    appR 7 112 tyCondO a n c (.list 7 .nr [cRow x]) u2 K := by
  obtain ⟨a1, c1, hp, happ⟩ := Vec.app hO2.swap (cRowLen X)
  simp only [PV.raw.injEq, Value.slice.injEq, List.length_map] at hp
  obtain ⟨rfl, rfl, rfl⟩ := hp
  simp only [List.length_map] at happ
  refine happ (cRow x) _ _ rfl (by simp only [allCell, cRow, List.all_cons, List.all_nil, hq.1, hq.2.1, hq.2.2]; rfl) (by omega) (by omega) fun b' c' u3 h3 => hk _ c' u3 ?_
  have e1 : (X ++ [x]).map cRow = X.map cRow ++ [cRow x] := by simp
  have e2 : (X ++ [x]).map (kOwn d n0) ++ L = X.map (kOwn d n0) ++ kOwn d n0 x :: L := by simp
  rw [e1, e2]
  exact h3.tail fun ν hν => Ow.unmid hν

theorem cCopyCondsW : ∀ (n : Nat) {L : List Asn} {μ : Mem} (hO : Ow L μ) (f : Fl) (l : List Cond) (hs : sizeL l ≤ n) (h6 : sizeL l ≤ 100000) (hl : lightL l) {K : PV → Mem → Prop} (hk : ∀ a c μ', Ow (CondsT false n l (.raw (.slice a l.length c)) :: L) μ' → K (.raw (.slice a l.length c)) μ'), CallP Try.prog 48 [.list 7 f (l.map Cond.pv)] μ K := by
  intro n
  induction n with
  | zero =>
    intro L μ hO f l hs h6 hl K hk
    have : l = [] := by
      cases l with
      | nil => rfl
      | cons c l => simp [sizeL, sizeC_eq] at hs
    subst this
    refine G_ponderkeep_CopyConds_w.c ?_
    refine LoopI.each2 (n := 0) (by omega) (fun _ x u => x = (none, 0, 0) ∧ Ow L u) ⟨rfl, hO⟩ (fun k x u next hk => by omega) fun x u next hx => CIf.f (by simp) ?_
    obtain ⟨rfl, hO⟩ := hx
    exact hk none 0 u ((Vec.nil tyCondO 7 hO).imp fun _ h => ⟨rfl, h⟩)
  | succ n ih =>
    intro L μ hO f l hs h6 hl K hk
    have hll := sizeL_len l
    refine G_ponderkeep_CopyConds_w.c ?_
    refine LoopI.each2 (n := l.length) (by omega) (fun i x u => ∃ X : List (Cond × PV × PV × PV), X.map (·.1) = l.take i ∧ (∀ x ∈ X, x.2.1.cell = true ∧ x.2.2.1.cell = true ∧ x.2.2.2.cell = true) ∧ x.2.1 = X.length ∧ Ow (Vec tyCondO 7 (.raw (.slice x.1 x.2.1 x.2.2)) (X.map cRow) :: (X.map (kOwn false n) ++ L)) u) ⟨[], rfl, by simp, rfl, Vec.nil _ _ hO⟩ ?_ ?_
    · rintro i ⟨a, m, c⟩ u next hi ⟨X, hX, hc, rfl, hO⟩ hnext
      have hXl : X.length = i := by have := congrArg List.length hX; rw [List.length_map, List.length_take] at this; omega
      have hm := sizeL_mem (List.getElem_mem hi)
      obtain ⟨_, ha, hv, hta, htv, hcs⟩ := (lightC_eq _).1 (lightL_iff.1 hl _ (List.getElem_mem hi))
      refine CIf.t (by simpa using hi) ⟨by omega, _, atRow hi, _, _, _, _, _, _, _, _, _, _, condRow _, ?_⟩
      refine G_ponderkeep_CopyCond_w.c ?_
      refine cCopyTestsW hO .sh l[i].attr (by omega) (lightTs hta) fun a1 c1 u1 O1 => ⟨_, _, _, rfl, ?_⟩
      refine cCopyTestsW O1 .sh l[i].value (by omega) (lightTs htv) fun a2 c2 u2 O2 => ⟨_, _, _, rfl, ?_⟩
      refine ih O2 .sh l[i].conds (by omega) (by omega) hcs fun a3 c3 u3 O3 => ⟨_, _, _, rfl, _, _, _, _, _, _, _, _, _, _, _, _, _, rfl, ?_⟩
      have O4 : Ow (kOwn false n (l[i], .raw (.slice a1 l[i].attr.length c1), .raw (.slice a2 l[i].value.length c2), .raw (.slice a3 l[i].conds.length c3)) :: (Vec tyCondO 7 (.raw (.slice a X.length c)) (X.map cRow) :: (X.map (kOwn false n) ++ L))) u3 :=
        Ow.pack (L1 := [_, _, _]) ((O3.swap.tail fun _ h => h.swap).swap.tail fun _ h => h)
      refine condsAdd (l[i], .raw (.slice a1 l[i].attr.length c1), .raw (.slice a2 l[i].value.length c2), .raw (.slice a3 l[i].conds.length c3)) ⟨rfl, rfl, rfl⟩ (by omega) O4 fun b' c' u4 O5 => hnext _ _ ⟨X ++ [(l[i], .raw (.slice a1 l[i].attr.length c1), .raw (.slice a2 l[i].value.length c2), .raw (.slice a3 l[i].conds.length c3))], ?_, ?_, by simp, O5⟩
      · rw [List.map_append, hX, List.take_add_one, List.getElem?_eq_getElem hi]; rfl
      · intro x hx
        rcases List.mem_append.1 hx with h | h
        · exact hc x h
        · simp at h; subst h; exact ⟨rfl, rfl, rfl⟩
    · rintro ⟨a, m, c⟩ u next ⟨X, hX, hc, rfl, hO⟩
      rw [List.take_length] at hX
      refine CIf.f (by simp) ?_
      subst hX
      have := hk a c u
      rw [List.length_map] at this
      exact this (CondsT.shut hc hO)

theorem cCopyCondsS : ∀ (n : Nat) {L : List Asn} {μ : Mem} (hO : Ow L μ) (f : Fl) (l : List Cond) (hs : sizeL l ≤ n) (h6 : sizeL l ≤ 100000) (hl : lightL l) {K : PV → Mem → Prop} (hk : ∀ a c μ', Ow (CondsT true n l (.raw (.slice a l.length c)) :: L) μ' → K (.raw (.slice a l.length c)) μ'), CallP Try.prog 48 [.list 7 f (l.map Cond.pv)] μ K := by
  intro n
  induction n with
  | zero =>
    intro L μ hO f l hs h6 hl K hk
    have : l = [] := by
      cases l with
      | nil => rfl
      | cons c l => simp [sizeL, sizeC_eq] at hs
    subst this
    refine G_ponderkeep_CopyConds_s.c ?_
    refine LoopI.each2 (n := 0) (by omega) (fun _ x u => x = (none, 0, 0) ∧ Ow L u) ⟨rfl, hO⟩ (fun k x u next hk => by omega) fun x u next hx => CIf.f (by simp) ?_
    obtain ⟨rfl, hO⟩ := hx
    exact hk none 0 u ((Vec.nil tyCondO 7 hO).imp fun _ h => ⟨rfl, h⟩)
  | succ n ih =>
    intro L μ hO f l hs h6 hl K hk
    have hll := sizeL_len l
    refine G_ponderkeep_CopyConds_s.c ?_
    refine LoopI.each2 (n := l.length) (by omega) (fun i x u => ∃ X : List (Cond × PV × PV × PV), X.map (·.1) = l.take i ∧ (∀ x ∈ X, x.2.1.cell = true ∧ x.2.2.1.cell = true ∧ x.2.2.2.cell = true) ∧ x.2.1 = X.length ∧ Ow (Vec tyCondO 7 (.raw (.slice x.1 x.2.1 x.2.2)) (X.map cRow) :: (X.map (kOwn true n) ++ L)) u) ⟨[], rfl, by simp, rfl, Vec.nil _ _ hO⟩ ?_ ?_
    · rintro i ⟨a, m, c⟩ u next hi ⟨X, hX, hc, rfl, hO⟩ hnext
      have hXl : X.length = i := by have := congrArg List.length hX; rw [List.length_map, List.length_take] at this; omega
      have hm := sizeL_mem (List.getElem_mem hi)
      obtain ⟨_, ha, hv, hta, htv, hcs⟩ := (lightC_eq _).1 (lightL_iff.1 hl _ (List.getElem_mem hi))
      refine CIf.t (by simpa using hi) ⟨by omega, _, atRow hi, _, _, _, _, _, _, _, _, _, _, condRow _, ?_⟩
      refine G_ponderkeep_CopyCond_s.c ?_
      refine cCopyTestsS hO .sh l[i].attr (by omega) (lightTs hta) fun a1 c1 u1 O1 => ⟨_, _, _, rfl, ?_⟩
      refine cCopyTestsS O1 .sh l[i].value (by omega) (lightTs htv) fun a2 c2 u2 O2 => ⟨_, _, _, rfl, ?_⟩
      refine ih O2 .sh l[i].conds (by omega) (by omega) hcs fun a3 c3 u3 O3 => ⟨_, _, _, rfl, _, _, _, _, _, _, _, _, _, _, _, _, _, rfl, ?_⟩
      have O4 : Ow (kOwn true n (l[i], .raw (.slice a1 l[i].attr.length c1), .raw (.slice a2 l[i].value.length c2), .raw (.slice a3 l[i].conds.length c3)) :: (Vec tyCondO 7 (.raw (.slice a X.length c)) (X.map cRow) :: (X.map (kOwn true n) ++ L))) u3 :=
        Ow.pack (L1 := [_, _, _]) ((O3.swap.tail fun _ h => h.swap).swap.tail fun _ h => h)
      refine condsAdd (l[i], .raw (.slice a1 l[i].attr.length c1), .raw (.slice a2 l[i].value.length c2), .raw (.slice a3 l[i].conds.length c3)) ⟨rfl, rfl, rfl⟩ (by omega) O4 fun b' c' u4 O5 => hnext _ _ ⟨X ++ [(l[i], .raw (.slice a1 l[i].attr.length c1), .raw (.slice a2 l[i].value.length c2), .raw (.slice a3 l[i].conds.length c3))], ?_, ?_, by simp, O5⟩
      · rw [List.map_append, hX, List.take_add_one, List.getElem?_eq_getElem hi]; rfl
      · intro x hx
        rcases List.mem_append.1 hx with h | h
        · exact hc x h
        · simp at h; subst h; exact ⟨rfl, rfl, rfl⟩
    · rintro ⟨a, m, c⟩ u next ⟨X, hX, hc, rfl, hO⟩
      rw [List.take_length] at hX
      refine CIf.f (by simp) ?_
      subst hX
      have := hk a c u
      rw [List.length_map] at this
      exact this (CondsT.shut hc hO)

abbrev tyActO : TypeId := 45
theorem actLen (l : List Actn) : ∀ r ∈ l.map Actn.pv, r.length = 19 := rowsLenK (pv := Actn.pv) (fun _ => rfl) l
theorem actCell (l : List Actn) : allCell (l.map Actn.pv).flatten = true := rowsCellK (pv := Actn.pv) (fun _ => rfl) l
/-- A production of one's own: its parts. -/
def ProdT (d : Bool) (n : Nat) (p : Prod) (q s : PV) : Asn := Ow [CondsT d n p.conds q, Vec tyActO 19 s (p.acts.map Actn.pv)]
theorem cCopyActsO {L : List Asn} {μ : Mem} (hO : Ow L μ) (f : Fl) (l : List Actn) (hl : l.length ≤ 1000000) {K : PV → Mem → Prop} (hk : ∀ a c μ', Ow (Vec tyActO 19 (.raw (.slice a l.length c)) (l.map Actn.pv) :: L) μ' → K (.raw (.slice a l.length c)) μ') : CallP Try.prog 49 [.list 19 f (l.map Actn.pv)] μ K := by
  refine G_ponderkeep_Copy_api_Act_w.c (appR_mk hO (actLen l) (actCell l) (by simp; omega) (by simp; omega) fun a c μ' h => ?_)
  rw [List.length_map] at h ⊢
  exact hk a c μ' h
theorem cCopyProdW {L : List Asn} {μ : Mem} (hO : Ow L μ) (fc fa : Fl) (p : Prod) (n : Nat) (hs : sizeL p.conds ≤ n) (h6 : sizeL p.conds ≤ 100000) (hl : lightL p.conds) (ha : p.acts.length ≤ 1000000) {K : PV → Mem → Prop}
    (hk : ∀ a1 c1 a2 c2 μ', Ow (CondsT false n p.conds (.raw (.slice a1 p.conds.length c1)) :: Vec tyActO 19 (.raw (.slice a2 p.acts.length c2)) (p.acts.map Actn.pv) :: L) μ' → K (.agg [pS p.name, .raw (.slice a1 p.conds.length c1), .raw (.slice a2 p.acts.length c2)]) μ') :
    CallP Try.prog 15 [.agg [pS p.name, .list 7 fc (p.conds.map Cond.pv), .list 19 fa (p.acts.map Actn.pv)]] μ K := by
  refine G_ponderkeep_CopyProd_w.c ?_
  refine CallP.q (K := fun q μ' => ∃ a c1, q = .raw (.slice a p.conds.length c1) ∧ Ow [CondsT false n p.conds q] μ') (cCopyCondsW n (L := []) trivial fc p.conds hs h6 hl fun a c μ' h => ⟨a, c, rfl, h⟩) ?_
  rintro q μ1 hs1 ⟨a1, c1, rfl, O1⟩
  refine ⟨_, _, _, rfl, ?_⟩
  refine CallP.q (K := fun q μ' => ∃ a c1, q = .raw (.slice a p.acts.length c1) ∧ Ow [Vec tyActO 19 q (p.acts.map Actn.pv)] μ') (cCopyActsO (L := []) trivial fa p.acts ha fun a c μ' h => ⟨a, c, rfl, h⟩) ?_
  rintro q μ2 hs2 ⟨a2, c2, rfl, O2⟩
  refine ⟨_, _, _, rfl, ?_⟩
  exact hk a1 c1 a2 c2 _ (Ow.swap ((hO.side hs1 O1).side hs2 O2))
theorem cCopyProdS {L : List Asn} {μ : Mem} (hO : Ow L μ) (fc fa : Fl) (p : Prod) (n : Nat) (hs : sizeL p.conds ≤ n) (h6 : sizeL p.conds ≤ 100000) (hl : lightL p.conds) (ha : p.acts.length ≤ 1000000) {K : PV → Mem → Prop}
    (hk : ∀ a1 c1 a2 c2 μ', Ow (CondsT true n p.conds (.raw (.slice a1 p.conds.length c1)) :: Vec tyActO 19 (.raw (.slice a2 p.acts.length c2)) (p.acts.map Actn.pv) :: L) μ' → K (.agg [pS p.name, .raw (.slice a1 p.conds.length c1), .raw (.slice a2 p.acts.length c2)]) μ') :
    CallP Try.prog 15 [.agg [pS p.name, .list 7 fc (p.conds.map Cond.pv), .list 19 fa (p.acts.map Actn.pv)]] μ K := by
  refine G_ponderkeep_CopyProd_s.c ?_
  refine CallP.q (K := fun q μ' => ∃ a c1, q = .raw (.slice a p.conds.length c1) ∧ Ow [CondsT true n p.conds q] μ') (cCopyCondsS n (L := []) trivial fc p.conds hs h6 hl fun a c μ' h => ⟨a, c, rfl, h⟩) ?_
  rintro q μ1 hs1 ⟨a1, c1, rfl, O1⟩
  refine ⟨_, _, _, rfl, ?_⟩
  refine CallP.q (K := fun q μ' => ∃ a c1, q = .raw (.slice a p.acts.length c1) ∧ Ow [Vec tyActO 19 q (p.acts.map Actn.pv)] μ') (cCopyActsO (L := []) trivial fa p.acts ha fun a c μ' h => ⟨a, c, rfl, h⟩) ?_
  rintro q μ2 hs2 ⟨a2, c2, rfl, O2⟩
  refine ⟨_, _, _, rfl, ?_⟩
  exact hk a1 c1 a2 c2 _ (Ow.swap ((hO.side hs1 O1).side hs2 O2))

/-! ### places of cells -/
/-- Cells at a place, whatever lies around them. -/
structure Rw (b o sz : Nat) (A : List PV → Asn) : Prop where
  rd : ∀ {row : List PV} {L : List Asn} {μ : Mem}, row.length = sz → Ow (A row :: L) μ → ∀ k m, k + m ≤ sz → rdM μ b (o + k) m = some ((row.drop k).take m)
  st : ∀ {row : List PV} {L : List Asn} {μ : Mem}, row.length = sz → Ow (A row :: L) μ → ∀ (k : Nat) (vs : List PV) (K : Mem → Prop), k + vs.length ≤ sz → (∀ μ', Ow (A (wrL row k vs) :: L) μ' → K μ') → stM b (o + k) vs μ K

theorem wrL_len {row vs : List PV} {k : Nat} (h : k + vs.length ≤ row.length) : (wrL row k vs).length = row.length := by
  unfold wrL; simp only [List.length_append, List.length_take, List.length_drop]; omega

theorem Rw.pt (b : Nat) (T : TypeId) (sz : Nat) : Rw b 0 sz (Pt b T) :=
  ⟨fun hl hO k m h => by rw [Nat.zero_add]; exact hO.rd 0 rfl (by omega), fun hl hO k vs K h hK => by rw [Nat.zero_add]; exact hO.st 0 rfl (by omega) fun μ' h' => hK μ' h'⟩

theorem Rw.vec {e : TypeId} {sz n c b j : Nat} {rows : List (List PV)} (hr : ∀ r ∈ rows, r.length = sz) (hj : j < rows.length) : Rw b (0 + j * sz) sz fun row => Vec e sz (.raw (.slice (some ⟨b, 0, none⟩) n c)) (rows.set j row) := by
  have hset : ∀ {row : List PV}, row.length = sz → ∀ r ∈ rows.set j row, r.length = sz := fun hl r h => by
    rcases List.mem_or_eq_of_mem_set h with h | rfl
    · exact hr r h
    · exact hl
  refine ⟨fun {row L μ} hl hO k m h => ?_, fun {row L μ} hl hO k vs K h hK => ?_⟩
  · obtain ⟨b', hb, hrd, _⟩ := Vec.at_ 0 hO rfl (hset hl) (j := j) (by simpa using hj)
    simp only [Option.some.injEq, Addr.mk.injEq] at hb
    obtain ⟨rfl, _⟩ := hb
    have := hrd k m h
    rw [List.getElem_set_self] at this
    exact this
  · obtain ⟨b', hb, _, hst⟩ := Vec.at_ 0 hO rfl (hset hl) (j := j) (by simpa using hj)
    simp only [Option.some.injEq, Addr.mk.injEq] at hb
    obtain ⟨rfl, _⟩ := hb
    refine hst k vs K h fun μ' h' => hK μ' ?_
    rw [List.getElem_set_self, List.set_set] at h'
    exact h'

/-! ### what is written into -/
/-- Rows of a slice that is being spoilt: those from i on are as they were. -/
def Half {T : Type} (f : T → List PV) (X : List T) (sz i : Nat) (rows : List (List PV)) : Prop :=
  rows.length = X.length ∧ (∀ r ∈ rows, r.length = sz) ∧ ∀ (j : Nat) (h : j < X.length), i ≤ j → rows[j]? = some (f X[j])
theorem Half.start {T : Type} {f : T → List PV} {X : List T} {sz : Nat} (h : ∀ x, (f x).length = sz) : Half f X sz 0 (X.map f) := by
  refine ⟨by simp, fun r hr => ?_, fun j hj _ => by rw [List.getElem?_map, List.getElem?_eq_getElem hj]; rfl⟩
  obtain ⟨x, _, rfl⟩ := List.mem_map.1 hr
  exact h x
theorem Half.step {T : Type} {f : T → List PV} {X : List T} {sz i : Nat} {rows : List (List PV)} {r : List PV} (h : Half f X sz i rows) (hr : r.length = sz) : Half f X sz (i + 1) (rows.set i r) := by
  refine ⟨by rw [List.length_set]; exact h.1, fun r' h' => ?_, fun j hj hij => ?_⟩
  · rcases List.mem_or_eq_of_mem_set h' with h' | rfl
    · exact h.2.1 r' h'
    · exact hr
  · rw [List.getElem?_set_ne (by omega)]; exact h.2.2 j hj (by omega)

/-- The symbols of a list are written into. -/
theorem spoilSyms {q : PV} {l : List Sym} {L : List Asn} {u : Mem} (hO : Ow (Vec tySymO 3 q (l.map Sym.pv) :: L) u) (hl : l.length ≤ 1000000) {body : (Int → Mem → Prop) → Int → Mem → Prop}
    (hbody : ∀ (a : Option Addr) (c : Nat), q = .raw (.slice a l.length c) → ∀ (k : Nat) (u : Mem) (next : Int → Mem → Prop), k < l.length → (∃ rows, Ow (Vec tySymO 3 (.raw (.slice a l.length c)) rows :: L) u) → withSl a (fun b o => (0 : Int) ≤ k ∧ (k : Int) < ((l.length : Nat) : Int) ∧ stM b (o + Int.toNat (k : Int) * 3) [pI 0, pS ⟨#[]⟩, pI 0] u fun u' => next (IntKind.wrap .i64 ((k : Int) + 1)) u') → body next (k : Int) u)
    (hend : ∀ (a : Option Addr) (c : Nat), q = .raw (.slice a l.length c) → ∀ (u : Mem) (next : Int → Mem → Prop), Ow L u → (∃ rows, Ow (Vec tySymO 3 (.raw (.slice a l.length c)) rows :: L) u) → body next (l.length : Int) u) : LoopI body 0 u := by
  obtain ⟨a, c, rfl⟩ := Vec.rawO hO
  rw [List.length_map] at hO
  refine LoopI.each (n := l.length) (by omega) (fun i u => ∃ rows : List (List PV), rows.length = l.length ∧ (∀ x ∈ rows, x.length = 3) ∧ Ow (Vec tySymO 3 (.raw (.slice a l.length c)) rows :: L) u) ⟨_, by simp, symLen l, hO⟩ ?_ ?_
  · rintro i u next hi ⟨rows, h1, h2, hO⟩ hnext
    refine hbody a c (by rw [List.length_map]) i u next hi ⟨rows, hO⟩ ?_
    obtain ⟨b, rfl, _, hst⟩ := Vec.at_ 0 hO rfl h2 (j := i) (by omega)
    refine ⟨by omega, by omega, ?_⟩
    rw [Int.toNat_natCast]
    refine hst 0 [pI 0, pS ⟨#[]⟩, pI 0] _ (by simp) fun u' h => hnext _ ⟨_, by rw [List.length_set]; exact h1, fun x hx => ?_, h⟩
    rcases List.mem_or_eq_of_mem_set hx with h | rfl
    · exact h2 x h
    · rw [wrL_len (by rw [h2 _ (List.getElem_mem (by omega))]; simp)]; exact h2 _ (List.getElem_mem (by omega))
  · rintro u next ⟨rows, h1, h2, hO⟩
    exact hend a c (by rw [List.length_map]) u next hO.drop ⟨rows, hO⟩

@[reducible] def ptrOf (b o : Nat) : Option Addr := some ⟨b, o, none⟩

theorem spoilTests {f b o : Nat} {A : List PV → Asn} (hA : Rw b o 7 A) {row : List PV} (hrow : row.length = 7) {q : PV} (hf : f + 1 ≤ 7) (hq : (row.drop f).take 1 = [q]) {l : List Test} (hl : l.length ≤ 100000) (ht : ∀ t ∈ l, t.list.length ≤ 100000) {L : List Asn} {u : Mem} (hO : Ow (A row :: TestsT true l q :: L) u) {E : Mem → Prop} (hk : ∀ u', Ow (A row :: L) u' → E u') :
    LoopI (α := Int) (fun next s u =>
      nn (ptrOf b o)
      (withPtrP (.raw (.pointer (ptrOf b o))) fun b o =>
        ∃ (x11 : Option Addr) (x11n x11c : Nat), rdM u b (o + f) 1 = some [(.raw (.slice x11 x11n x11c))] ∧
        CIf (decide ((s : Int) < ((x11n : Nat) : Int)))
        (LoopI (α := Int) (fun next_1 s_1 u_1 =>
            nn (ptrOf b o)
            (withPtrP (.raw (.pointer (ptrOf b o))) fun b_1 o_1 =>
              ∃ (x20 : Option Addr) (x20n x20c : Nat), rdM u_1 b_1 (o_1 + f) 1 = some [(.raw (.slice x20 x20n x20c))] ∧
              withSl x20 fun b_2 o_2 =>
              (0 : Int) ≤ s ∧ s < ((x20n : Nat) : Int) ∧
              ∃ (x24 : Option Addr) (x24n x24c : Nat), rdM u_1 b_2 ((o_2 + Int.toNat s * 6) + 5) 1 = some [(.raw (.slice x24 x24n x24c))] ∧
              CIf (decide ((s_1 : Int) < ((x24n : Nat) : Int)))
              (nn (ptrOf b o)
                (withPtrP (.raw (.pointer (ptrOf b o))) fun b_3 o_3 =>
                  ∃ (x32 : Option Addr) (x32n x32c : Nat), rdM u_1 b_3 (o_3 + f) 1 = some [(.raw (.slice x32 x32n x32c))] ∧
                  withSl x32 fun b_4 o_4 =>
                  (0 : Int) ≤ s ∧ s < ((x32n : Nat) : Int) ∧
                  ∃ (x36 : Option Addr) (x36n x36c : Nat), rdM u_1 b_4 ((o_4 + Int.toNat s * 6) + 5) 1 = some [(.raw (.slice x36 x36n x36c))] ∧
                  withSl x36 fun b_5 o_5 =>
                  (0 : Int) ≤ s_1 ∧ s_1 < ((x36n : Nat) : Int) ∧
                  stM b_5 (o_5 + Int.toNat s_1 * 3) [(pI (0)), (pS ⟨#[]⟩), (pI (0))] u_1 fun u_2 =>
                  next_1 (IntKind.wrap .i64 (s_1 + (1))) u_2))
              (nn (ptrOf b o)
                (withPtrP (.raw (.pointer (ptrOf b o))) fun b_6 o_6 =>
                  ∃ (x43 : Option Addr) (x43n x43c : Nat), rdM u_1 b_6 (o_6 + f) 1 = some [(.raw (.slice x43 x43n x43c))] ∧
                  withSl x43 fun b_7 o_7 =>
                  (0 : Int) ≤ s ∧ s < ((x43n : Nat) : Int) ∧
                  stM b_7 (o_7 + Int.toNat s * 6) [(pI (-1)), (pS ⟨#[]⟩), (pI (0)), (pS ⟨#[]⟩), (pI (0)), (.list 3 .nil [])] u_1 fun u_3 =>
                  next (IntKind.wrap .i64 (s + (1))) u_3))))
          (0) u)
        (E u))) 0 u := by
  obtain ⟨X, rfl, hXc, hO⟩ := TestsT.open_ hO.swap
  obtain ⟨a, c, rfl⟩ := Vec.rawO hO
  rw [List.length_map] at hO hl
  have hO1 : Ow (A row :: Vec tyTestO 6 (.raw (.slice a X.length c)) (X.map tRow) :: ((X.drop 0).map (tOwn true) ++ L)) u := (hO.tail fun _ h => h.mid).swap
  have hq' : (row.drop f).take 1 = [.raw (.slice a X.length c)] := by rw [hq, List.length_map]
  refine LoopI.each (n := X.length) (by omega) (fun i u => ∃ rows, Half tRow X 6 i rows ∧ Ow (A row :: Vec tyTestO 6 (.raw (.slice a X.length c)) rows :: ((X.drop i).map (tOwn true) ++ L)) u) ⟨_, Half.start (fun _ => rfl), hO1⟩ ?_ ?_
  · rintro i u next hi ⟨rows, hH, hO⟩ hnext
    have hdr : X.drop i = X[i] :: X.drop (i + 1) := List.drop_eq_getElem_cons hi
    have hrd0 : ∀ {L' : List Asn} {u' : Mem}, Ow (A row :: L') u' → rdM u' b (o + f) 1 = some [.raw (.slice a X.length c)] := fun h => by rw [hA.rd hrow h f 1 hf, hq']
    refine ⟨_, _, _, hrd0 hO, CIf.t (by simpa using hi) ?_⟩
    have hO2 : Ow (Vec tySymO 3 X[i].2 (X[i].1.list.map Sym.pv) :: A row :: Vec tyTestO 6 (.raw (.slice a X.length c)) rows :: ((X.drop (i + 1)).map (tOwn true) ++ L)) u := by
      rw [hdr, List.map_cons, List.cons_append] at hO
      exact (Ow.at 2 rfl hO).imp fun ν hν => hν
    have hri : rows[i]? = some (tRow X[i]) := hH.2.2 i hi (Nat.le_refl _)
    obtain ⟨hlt, hri'⟩ := List.getElem?_eq_some_iff.1 hri
    refine spoilSyms hO2 (by have := ht X[i].1 (List.mem_map.2 ⟨_, List.getElem_mem hi, rfl⟩); omega) ?_ ?_
    · rintro a' c' hq2 k u1 next1 hk ⟨rowsS, hO3⟩ hcont
      have hO4 := hO3.swap
      obtain ⟨b2, rfl, hrd, _⟩ := Vec.at_ 2 hO3 rfl hH.2.1 (j := i) hlt
      rw [hri'] at hrd
      have h5 : rdM u1 b2 (0 + i * 6 + 5) 1 = some [.raw (.slice a' X[i].1.list.length c')] := by rw [hrd 5 1 (by omega)]; show some [X[i].2] = _; rw [hq2]
      have hk' : decide ((k : Int) < ((X[i].1.list.length : Nat) : Int)) = true := by simpa using hk
      refine ⟨_, _, _, hrd0 hO4, by omega, by omega, _, _, _, by rw [Int.toNat_natCast]; exact h5, CIf.t hk' ⟨_, _, _, hrd0 hO4, by omega, by omega, _, _, _, by rw [Int.toNat_natCast]; exact h5, hcont⟩⟩
    · rintro a' c' hq2 u1 next1 hO3 ⟨rowsS, hO3'⟩
      obtain ⟨b2, rfl, hrd, hst⟩ := Vec.at_ 1 hO3 rfl hH.2.1 (j := i) hlt
      rw [hri'] at hrd
      have h5 : rdM u1 b2 (0 + i * 6 + 5) 1 = some [.raw (.slice a' X[i].1.list.length c')] := by rw [hrd 5 1 (by omega)]; show some [X[i].2] = _; rw [hq2]
      refine ⟨_, _, _, hrd0 hO3, by omega, by omega, _, _, _, by rw [Int.toNat_natCast]; exact h5, CIf.f (by simp) ⟨_, _, _, hrd0 hO3, by omega, by omega, ?_⟩⟩
      rw [Int.toNat_natCast]
      refine hst 0 _ _ (by simp) fun u' h' => hnext _ ⟨_, hH.step ?_, h'⟩
      rw [hri']; rfl
  · rintro u next ⟨rows, hH, hO⟩
    rw [List.drop_length] at hO
    exact ⟨_, _, _, by rw [hA.rd hrow hO f 1 hf, hq'], CIf.f (by simp) (hk _ (hO.tail fun _ h => h.drop))⟩


end Go.Proofs.Ytfjemjnbemdkgaa

/-
  Symbols: contracts of package sym, and of the document's own.
-/
namespace Go.Proofs.Ytfjemjnbemdkgaa
open Go.Eng Go.RowKit
set_option linter.unusedVariables false
set_option linter.unusedSimpArgs false
set_option linter.unnecessarySimpa false

@[reducible] def p8 (c : UInt8) : PV := .raw (.int .u8 ((c.toNat : Nat) : Int))

def smallB (c : UInt8) : Bool := decide ((c.toNat : Int) ≥ 97) && decide ((c.toNat : Int) ≤ 122)
def digitB (c : UInt8) : Bool := decide ((c.toNat : Int) ≥ 48) && decide ((c.toNat : Int) ≤ 57)
def greatB (c : UInt8) : Bool := decide ((c.toNat : Int) ≥ 65) && decide ((c.toNat : Int) ≤ 90)
def partB (c : UInt8) : Bool := smallB c || (digitB c || (((c.toNat : Int) == 45) || ((c.toNat : Int) == 95)))

/-- A word. -/
def wordL (l : List UInt8) : Bool := decide (1 ≤ l.length) && (decide (l.length ≤ 32) && ((match l with | c :: _ => smallB c | [] => false) && l.all partB))
def wordB (t : ByteArray) : Bool := wordL (bL t)

def validB (s : Sym) : Bool :=
  bif s.k == 1 then (match bL s.t with | [c] => greatB c && (decide (s.n ≥ 1) && decide (s.n ≤ 1048576)) | _ => false) else
  bif s.k == 2 then strEq s.t ⟨#[]⟩ && (decide (s.n ≥ -2147483647) && decide (s.n ≤ 2147483647)) else
  bif s.k == 3 then (s.n == 0) && wordB s.t else false

theorem cSmall (c : UInt8) : Pure Try.prog 64 [p8 c] (pB (smallB c)) := by
  refine PureK.of (G_sym_small.c ?_)
  refine CIf.mk (fun h => ?_) (fun h => ?_) <;> simp_all [smallB, wk, wk1] <;> omega
theorem cDigit (c : UInt8) : Pure Try.prog 65 [p8 c] (pB (digitB c)) := by
  refine PureK.of (G_sym_digit.c ?_)
  refine CIf.mk (fun h => ?_) (fun h => ?_) <;> simp_all [digitB, wk, wk1] <;> omega
theorem cGreat (c : UInt8) : Pure Try.prog 94 [p8 c] (pB (greatB c)) := by
  refine PureK.of (G_sym_great.c ?_)
  refine CIf.mk (fun h => ?_) (fun h => ?_) <;> simp_all [greatB, wk, wk1] <;> omega
theorem cPart (c : UInt8) : Pure Try.prog 71 [p8 c] (pB (partB c)) := by
  refine PureK.of (G_ponderref04_Part.c ?_)
  repeat' (refine CIf.mk (fun h => ?_) (fun h => ?_))
  all_goals (simp only [wk, wk1, PV.raw.injEq, Value.bool.injEq, partB, smallB, digitB]; grind)

theorem wordL_head {c : UInt8} {l : List UInt8} (h1 : (c :: l).length ≤ 32) (h2 : smallB c = true) : wordL (c :: l) = l.all partB := by
  simp only [wordL, List.length_cons] at *
  have hp : partB c = true := by simp [partB, h2]
  simp [h2, hp]; omega

theorem cWord (t : ByteArray) : Pure Try.prog 38 [pS t] (pB (wordB t)) := by
  refine PureK.of (G_sym_Word.c ?_)
  have hlen := bL_len t
  unfold wordB
  generalize hL : bL t = L at hlen
  refine CIf.mk (fun h => ?_) (fun h => CIf.mk (fun h2 => ?_) (fun h2 => ?_))
  · have : L = [] := List.eq_nil_of_length_eq_zero (by simp at h; omega)
    subst this; rfl
  · have : ¬ L.length ≤ 32 := by simp at h2; omega
    simp [wordL, this, wk, wk1]
  · have h1 : 1 ≤ t.size := by simp at h; omega
    have h3 : L.length ≤ 32 := by simp at h2; omega
    have hat : ∀ k (hk : k < L.length), t[Int.toNat (k : Int)]? = some L[k] := fun k hk => by subst hL; exact byteAt (by omega)
    obtain ⟨c, l, rfl⟩ : ∃ c l, L = c :: l := by
      cases L with
      | nil => simp at hlen; omega
      | cons c l => exact ⟨c, l, rfl⟩
    refine ⟨by omega, c, hat 0 (by simp), (cSmall c).call ⟨_, rfl, CIf.mk (fun h4 => ?_) (fun h4 => ?_)⟩⟩
    · have h4 : smallB c = false := by simpa using h4
      simp [wordL, h4, wk, wk1]
    · have h4 : smallB c = true := by simpa using h4
      rw [wordL_head h3 h4]
      refine LoopI.from (s := 1) (n := t.size) h1 (by omega) (fun k u => (l.take (k - 1)).all partB = true) (by simp) ?_ ?_
      · intro k u next hk1 hk hg hnext
        have hk' : k < (c :: l).length := by omega
        have hkl : k - 1 < l.length := by simp at hk'; omega
        have hck : (c :: l)[k] = l[k - 1] := by
          cases k with
          | zero => omega
          | succ k => simp
        have hx := hat k hk'
        rw [hck] at hx
        have go : partB l[k - 1] = true → ∀ u', next (IntKind.wrap .i64 ((k : Int) + 1)) u' := fun hp u' => hnext u' (by
          have : k + 1 - 1 = k - 1 + 1 := by omega
          rw [this, allTake hkl hg]; exact hp)
        have stop : partB l[k - 1] = false → wk (pB false) = pB (l.all partB) := fun hp => by rw [allMiss hkl hp]; rfl
        refine CIf.t (by simpa using hk) ⟨by omega, _, hx, (cSmall _).call ⟨_, rfl, CIf.mk (fun a1 => ?_) (fun a1 => go ?_ _)⟩⟩
        · refine ⟨by omega, _, hx, (cDigit _).call ⟨_, rfl, CIf.mk (fun a2 => ?_) (fun a2 => go ?_ _)⟩⟩
          · refine ⟨by omega, _, hx, CIf.mk (fun a3 => ⟨by omega, _, hx, CIf.mk (fun a4 => stop ?_) (fun a4 => go ?_ _)⟩) (fun a3 => go ?_ _)⟩ <;> simp_all [partB]
          · simp_all [partB]
        · simp_all [partB]
      · intro u next hg
        refine CIf.f (by simp) ?_
        have : t.size - 1 = l.length := by simp at hlen; omega
        rw [this, List.take_length] at hg
        rw [hg]; rfl

theorem cRefWord (t : ByteArray) : Pure Try.prog 44 [pS t] (pB (wordB t)) := by
  refine PureK.of (G_ponderref04_Word.c ?_)
  have hlen := bL_len t
  unfold wordB
  generalize hL : bL t = L at hlen
  refine CIf.mk (fun h => ?_) (fun h => CIf.mk (fun h2 => ?_) (fun h2 => ?_))
  · have : L = [] := List.eq_nil_of_length_eq_zero (by simp at h; omega)
    subst this; rfl
  · have : ¬ L.length ≤ 32 := by simp at h2; omega
    simp [wordL, this, wk, wk1]
  · have h1 : 1 ≤ t.size := by simp at h; omega
    have h3 : L.length ≤ 32 := by simp at h2; omega
    have hat : ∀ k (hk : k < L.length), t[Int.toNat (k : Int)]? = some L[k] := fun k hk => by subst hL; exact byteAt (by omega)
    obtain ⟨c, l, rfl⟩ : ∃ c l, L = c :: l := by
      cases L with
      | nil => simp at hlen; omega
      | cons c l => exact ⟨c, l, rfl⟩
    refine ⟨by omega, c, hat 0 (by simp), CIf.mk (fun h4 => ?_) (fun h4 => ⟨by omega, c, hat 0 (by simp), CIf.mk (fun h5 => ?_) (fun h5 => ?_)⟩)⟩
    · have : smallB c = false := by simp at h4; simp [smallB]; omega
      simp [wordL, this, wk, wk1]
    · have : smallB c = false := by simp at h5; simp [smallB]; omega
      simp [wordL, this, wk, wk1]
    · have hs : smallB c = true := by simp at h4 h5; simp [smallB]; omega
      have hw : wordL (c :: l) = (c :: l).all partB := by
        simp only [List.length_cons] at h3
        simp [wordL, hs]; omega
      rw [hw]
      refine LoopI.each (n := t.size) (by omega) (fun k u => ((c :: l).take k).all partB = true) (by simp) ?_ ?_
      · intro k u next hk hg hnext
        have hk' : k < (c :: l).length := by omega
        refine CIf.t (by simpa using hk) ⟨by omega, _, hat k hk', (cPart _).call ⟨_, rfl, CIf.mk (fun a1 => ?_) (fun a1 => hnext _ ?_)⟩⟩
        · rw [allMiss hk' (by simpa using a1)]; rfl
        · rw [allTake hk' hg]; simpa using a1
      · intro u next hg
        refine CIf.f (by simp) ?_
        rw [← hlen, List.take_length] at hg
        rw [hg]; rfl

theorem oneByte {t : ByteArray} : ((((t.size : Nat) : Int) == 1) = true ↔ ∃ c, bL t = [c]) := by
  have hlen := bL_len t
  constructor
  · intro h
    have h1 : (bL t).length = 1 := by simp at h; omega
    exact List.length_eq_one_iff.1 h1
  · rintro ⟨c, hc⟩
    rw [hc] at hlen
    simp at hlen ⊢; omega

theorem cValid (s : Sym) : Pure Try.prog 83 [.agg s.pv] (pB (validB s)) := by
  refine PureK.of (G_sym_Valid.c ?_)
  refine CIf.mk (fun h => ?_) (fun h => CIf.mk (fun h2 => ?_) (fun h2 => CIf.mk (fun h3 => ?_) (fun h3 => ?_)))
  · refine CIf.mk (fun a => ?_) (fun a => ?_)
    · obtain ⟨c, hc⟩ := oneByte.1 a
      have hat : s.t[Int.toNat 0]? = some c := by
        have := byteAt (t := s.t) (k := 0) (by have := bL_len s.t; rw [hc] at this; simp at this; omega)
        simpa [hc] using this
      refine ⟨by omega, c, hat, (cGreat c).call ⟨_, rfl, CIf.mk (fun b => CIf.mk (fun d => ?_) (fun d => ?_)) (fun b => ?_)⟩⟩ <;> simp_all [validB, wk, wk1] <;> omega
    · have : ∀ c, bL s.t ≠ [c] := fun c hc => by rw [oneByte.2 ⟨c, hc⟩] at a; cases a
      have hv : validB s = false := by
        simp only [validB, h, cond_true]
        all_goals (split <;> first | rfl | (rename_i c hc; exact absurd hc (this c)))
      rw [hv]; rfl
  · refine CIf.mk (fun a => CIf.mk (fun b => ?_) (fun b => ?_)) (fun a => ?_) <;> simp_all [validB, wk, wk1] <;> omega
  · refine CIf.mk (fun a => (cWord s.t).call ⟨_, rfl, ?_⟩) (fun a => ?_) <;> simp_all [validB, wk, wk1] <;> omega
  · simp_all [validB, wk, wk1]

theorem cRefValid (s : Sym) : Pure Try.prog 96 [.agg s.pv] (pB (validB s)) := by
  refine PureK.of (G_ponderref04_Valid.c ?_)
  refine CIf.mk (fun h => ?_) (fun h => CIf.mk (fun h2 => ?_) (fun h2 => CIf.mk (fun h3 => ?_) (fun h3 => ?_)))
  · refine CIf.mk (fun a => ?_) (fun a => ?_)
    · obtain ⟨c, hc⟩ := oneByte.1 a
      have hat : s.t[Int.toNat 0]? = some c := by
        have := byteAt (t := s.t) (k := 0) (by have := bL_len s.t; rw [hc] at this; simp at this; omega)
        simpa [hc] using this
      refine ⟨by omega, c, hat, CIf.mk (fun b => ⟨by omega, c, hat, CIf.mk (fun b2 => CIf.mk (fun d => ?_) (fun d => ?_)) (fun b2 => ?_)⟩) (fun b => ?_)⟩ <;> simp_all [validB, greatB, wk, wk1] <;> omega
    · have : ∀ c, bL s.t ≠ [c] := fun c hc => by rw [oneByte.2 ⟨c, hc⟩] at a; cases a
      have hv : validB s = false := by
        simp only [validB, h, cond_true]
        all_goals (split <;> first | rfl | (rename_i c hc; exact absurd hc (this c)))
      rw [hv]; rfl
  · refine CIf.mk (fun a => CIf.mk (fun b => ?_) (fun b => ?_)) (fun a => ?_) <;> simp_all [validB, wk, wk1] <;> omega
  · refine CIf.mk (fun a => (cRefWord s.t).call ⟨_, rfl, ?_⟩) (fun a => ?_) <;> simp_all [validB, wk, wk1] <;> omega
  · simp_all [validB, wk, wk1]

/-- A right constant. -/
def constB (s : Sym) : Bool := (s.k != 1) && validB s

theorem cRefConst (s : Sym) : Pure Try.prog 88 [.agg s.pv] (pB (constB s)) := by
  refine PureK.of (G_ponderref04_Const.c ?_)
  refine (cRefValid s).call ⟨_, rfl, CIf.mk (fun a => ?_) (fun a => ?_)⟩ <;> simp_all [constB, wk, wk1]

end Go.Proofs.Ytfjemjnbemdkgaa

/-
  Productions that may be: plain definitions.
-/
namespace Go.Proofs.Ytfjemjnbemdkgaa
open Go.Eng Go.RowKit

def noneB (s : Sym) : Bool := (s.k == 0) && (strEq s.t ⟨#[]⟩ && ((s.n == 0) && true))
def emptyB (a : Atom) : Bool := strEq a.var ⟨#[]⟩ && noneB a.sym
def atomB (a : Atom) : Bool := bif strEq a.var ⟨#[]⟩ then constB a.sym else wordB a.var && noneB a.sym
def testB (t : Test) : Bool :=
  bif t.rel == 8 then strEq t.var ⟨#[]⟩ && (noneB t.sym && (decide (1 ≤ t.list.length) && (decide (t.list.length ≤ 8) && t.list.all constB)))
  else decide (1 ≤ t.rel) && (decide (t.rel ≤ 7) && (decide (t.list.length = 0) && atomB ⟨t.var, t.sym⟩))
def wordA (a : Atom) : Bool := strEq a.var ⟨#[]⟩ && (a.sym.k == 3)
def termB (t : Term) : Bool := decide (0 ≤ t.op) && (decide (t.op ≤ 3) && (atomB t.a && (bif t.op == 0 then emptyB t.b else atomB t.b && (!wordA t.a && !wordA t.b))))
def otherB (k : Int) : Bool := (k == 8) || ((k == 9) || (k == 10))
def actB (a : Actn) : Bool := wordB a.id && (atomB a.attr && (termB a.value && (decide (1 ≤ a.pref) && (decide (a.pref ≤ 10) && (bif otherB a.pref then atomB a.other else emptyB a.other)))))

/-- A condition's error, within so many Alls. -/
def condE (c : Cond) (deep : Int) : Int :=
  bif c.kind == 3 then
    (bif c.goal || (!strEq c.id ⟨#[]⟩ || (decide (0 < c.attr.length) || (decide (0 < c.value.length) || (c.acc || decide (c.conds.length = 0))))) then 9 else bif decide (3 ≤ deep) then 8 else 0)
  else bif (c.kind == 1) || (c.kind == 2) then
    (bif decide (0 < c.conds.length) || (!wordB c.id || decide (c.attr.length = 0)) then 9 else
     bif decide (4 < c.attr.length) || decide (4 < c.value.length) then 7 else
     bif !(c.attr.all testB) || !(c.value.all testB) then 9 else 0)
  else 9

/-- The first that is wrong. -/
def firstE : List (Nat × Nat × Cond) → Option (Nat × Int)
  | [] => none
  | (a, d, c) :: l => bif condE c d == 0 then firstE l else some (a, condE c d)

theorem firstE_append (a b : List (Nat × Nat × Cond)) : firstE (a ++ b) = (firstE a).or (firstE b) := by
  induction a with
  | nil => rfl
  | cons x a ih =>
    obtain ⟨p, d, c⟩ := x
    simp only [List.cons_append, firstE]
    cases condE c d == 0
    · rfl
    · exact ih

/-- The first action that is wrong. -/
def firstA : Nat → List Actn → Option Nat
  | _, [] => none
  | i, a :: l => bif actB a then firstA (i + 1) l else some i

theorem firstA_take {l : List Actn} {k i : Nat} (hk : k < l.length) (h : firstA i (l.take k) = none) : firstA i (l.take (k + 1)) = (bif actB l[k] then none else some (i + k)) := by
  induction l generalizing k i with
  | nil => simp at hk
  | cons a l ih =>
    cases k with
    | zero => simp [firstA]
    | succ k =>
      simp only [List.take_succ_cons, firstA, List.getElem_cons_succ] at h ⊢
      cases ha : actB a with
      | false => rw [ha] at h; cases h
      | true =>
        rw [ha] at h
        simp only [cond_true] at h ⊢
        rw [ih (by simpa using hk) h]
        congr 2; omega

theorem firstA_hit {l : List Actn} {k i : Nat} (hk : k < l.length) (h : firstA i (l.take k) = none) (ha : actB l[k] = false) : firstA i l = some (i + k) := by
  induction l generalizing k i with
  | nil => simp at hk
  | cons a l ih =>
    cases k with
    | zero => simp only [List.getElem_cons_zero] at ha; simp [firstA, ha]
    | succ k =>
      simp only [List.take_succ_cons, firstA, List.getElem_cons_succ] at h ha ⊢
      cases hb : actB a with
      | false => rw [hb] at h; cases h
      | true =>
        rw [hb] at h
        simp only [cond_true] at h ⊢
        rw [ih (by simpa using hk) h ha]
        congr 1; omega

def shapeT (p : Prod) : Int × Int :=
  match firstE (preL p.conds 0 0) with
  | some (a, e) => (a, e)
  | none => match firstA 0 p.acts with
    | some i => (((sizeL p.conds + i : Nat) : Int), 9)
    | none => (-1, 0)

/-- The place and the first error of a production's form. -/
def shapeE (p : Prod) : Int × Int :=
  bif !wordB p.name then (-1, 2) else
  bif decide (sizeL p.conds < 1) || (decide (16 < sizeL p.conds) || (decide (p.acts.length < 1) || decide (16 < p.acts.length))) then (-1, 7) else shapeT p

theorem shapeT_e {p : Prod} {a : Nat} {e : Int} (h : firstE (preL p.conds 0 0) = some (a, e)) : shapeT p = ((a : Int), e) := by simp only [shapeT, h]
theorem shapeT_a {p : Prod} {i : Nat} (h : firstE (preL p.conds 0 0) = none) (h2 : firstA 0 p.acts = some i) : shapeT p = (((sizeL p.conds + i : Nat) : Int), 9) := by simp only [shapeT, h, h2]
theorem shapeT_ok {p : Prod} (h : firstE (preL p.conds 0 0) = none) (h2 : firstA 0 p.acts = none) : shapeT p = (-1, 0) := by simp only [shapeT, h, h2]

theorem firstE_ne {l : List (Nat × Nat × Cond)} {a : Nat} {e : Int} (h : firstE l = some (a, e)) : e ≠ 0 := by
  induction l with
  | nil => cases h
  | cons x l ih =>
    obtain ⟨p, d, c⟩ := x
    simp only [firstE] at h
    cases hc : condE c d == 0 with
    | true => rw [hc] at h; exact ih h
    | false =>
      rw [hc] at h
      simp only [cond_false, Option.some.injEq, Prod.mk.injEq] at h
      rw [← h.2]; simpa using hc

theorem firstE_take {l : List (Nat × Nat × Cond)} {k : Nat} {x : Nat × Nat × Cond} (hx : l[k]? = some x) (h : firstE (l.take k) = none) : firstE (l.take (k + 1)) = (bif condE x.2.2 x.2.1 == 0 then none else some (x.1, condE x.2.2 x.2.1)) := by
  rw [List.take_add_one, firstE_append, h, hx]
  obtain ⟨a, d, c⟩ := x
  simp [firstE]

theorem firstE_stop {l : List (Nat × Nat × Cond)} {k : Nat} {r : Nat × Int} (h : firstE (l.take k) = some r) : firstE l = some r := by
  have := firstE_append (l.take k) (l.drop k)
  rw [List.take_append_drop, h] at this
  exact this

end Go.Proofs.Ytfjemjnbemdkgaa

/-
  Which variables are known: plain definitions.
-/
namespace Go.Proofs.Ytfjemjnbemdkgaa
open Go.Eng Go.RowKit
set_option linter.unusedVariables false
set_option linter.unusedSimpArgs false
set_option linter.unnecessarySimpa false

def hasB (K : List ByteArray) (v : ByteArray) : Bool := K.any fun x => strEq x v
theorem hasB_iff {K : List ByteArray} {v : ByteArray} : hasB K v = true ↔ v ∈ K := by
  unfold hasB
  rw [List.any_eq_true]
  constructor
  · rintro ⟨x, hx, e⟩; rw [strEq_iff] at e; exact e ▸ hx
  · intro h; exact ⟨v, h, strEq_iff.2 rfl⟩
def newK (K : List ByteArray) (v : ByteArray) : List ByteArray := bif hasB K v then [] else [v]
theorem newK_mem {K : List ByteArray} {v y : ByteArray} : y ∈ K ++ newK K v ↔ y = v ∨ y ∈ K := by
  unfold newK
  cases h : hasB K v with
  | true =>
    simp only [cond_true, List.append_nil]
    exact ⟨fun h => .inr h, fun h' => h'.elim (fun e => e ▸ hasB_iff.1 h) (fun h => h)⟩
  | false => simp only [cond_false, List.mem_append, List.mem_singleton]; exact ⟨fun h => h.symm, fun h => h.symm⟩
theorem newK_len (K : List ByteArray) (v : ByteArray) : (newK K v).length ≤ 1 := by unfold newK; cases hasB K v <;> simp

def metT (K : List ByteArray) (t : Test) : Option (List ByteArray) :=
  bif (t.rel == 8) || strEq t.var ⟨#[]⟩ then some K else bif t.rel == 1 then some (K ++ newK K t.var) else bif hasB K t.var then some K else none
def metL : List ByteArray → List Test → Option (List ByteArray)
  | K, [] => some K
  | K, t :: ts => match metT K t with
    | some K' => metL K' ts
    | none => none
theorem metL_append (K : List ByteArray) (a b : List Test) : metL K (a ++ b) = (metL K a).bind fun K' => metL K' b := by
  induction a generalizing K with
  | nil => rfl
  | cons t a ih =>
    simp only [List.cons_append, metL]
    cases metT K t with
    | none => rfl
    | some K' => exact ih K'
theorem metL_take {K K' : List ByteArray} {ts : List Test} {i : Nat} (hi : i < ts.length) (h : metL K (ts.take i) = some K') : metL K (ts.take (i + 1)) = metT K' ts[i] := by
  rw [List.take_add_one, metL_append, h, List.getElem?_eq_getElem hi]
  simp only [Option.bind_some, Option.toList_some, metL]
  cases metT K' ts[i] <;> rfl
theorem metL_stop {K K' : List ByteArray} {ts : List Test} {i : Nat} (hi : i < ts.length) (h : metL K (ts.take i) = some K') (hn : metT K' ts[i] = none) : metL K ts = none := by
  have : ts = ts.take (i + 1) ++ ts.drop (i + 1) := (List.take_append_drop _ _).symm
  rw [this, metL_append, metL_take hi h, hn]; rfl

def metC (K : List ByteArray) (c : Cond) : Option (List ByteArray) :=
  (fun K0 => bif hasB K0 c.id then (metL K0 c.attr).bind fun K1 => metL K1 c.value else none) (bif c.goal then K ++ newK K c.id else K)

mutual
/-- What is known behind a condition that is the n-th; or the place of the first that is wrong. -/
def knowC : Cond → Nat → List ByteArray → Except Nat (List ByteArray)
  | .mk k g i a v ac cs, n, K =>
    bif k == 3 then (match knowL cs (n + 1) K with
      | .error e => .error e
      | .ok _ => .ok K)
    else match metC K (.mk k g i a v ac cs) with
      | none => .error n
      | some K' => .ok (bif k == 1 then K' else K)
def knowL : List Cond → Nat → List ByteArray → Except Nat (List ByteArray)
  | [], _, K => .ok K
  | c :: cs, n, K => match knowC c n K with
    | .error e => .error e
    | .ok K' => knowL cs (n + sizeC c) K'
end

theorem knowC_eq (c : Cond) (n : Nat) (K : List ByteArray) : knowC c n K = (bif c.kind == 3 then (match knowL c.conds (n + 1) K with
      | .error e => .error e
      | .ok _ => .ok K)
    else match metC K c with
      | none => .error n
      | some K' => .ok (bif c.kind == 1 then K' else K)) := by cases c; simp only [knowC]; rfl

theorem knowL_append (a b : List Cond) (n : Nat) (K : List ByteArray) : knowL (a ++ b) n K = match knowL a n K with
    | .error e => .error e
    | .ok K' => knowL b (n + sizeL a) K' := by
  induction a generalizing n K with
  | nil => simp [knowL, sizeL]
  | cons c a ih =>
    simp only [List.cons_append, knowL, sizeL]
    cases knowC c n K with
    | error e => rfl
    | ok K' => simp only [ih]; rw [Nat.add_assoc]
theorem knowL_take {l : List Cond} {n i : Nat} {K K' : List ByteArray} (hi : i < l.length) (h : knowL (l.take i) n K = .ok K') : knowL (l.take (i + 1)) n K = knowC l[i] (n + sizeL (l.take i)) K' := by
  rw [List.take_add_one, knowL_append, h, List.getElem?_eq_getElem hi]
  simp only [Option.toList_some, knowL]
  cases knowC l[i] (n + sizeL (l.take i)) K' <;> rfl
theorem knowL_stop {l : List Cond} {n i e : Nat} {K K' : List ByteArray} (hi : i < l.length) (h : knowL (l.take i) n K = .ok K') (hn : knowC l[i] (n + sizeL (l.take i)) K' = .error e) : knowL l n K = .error e := by
  have : l = l.take (i + 1) ++ l.drop (i + 1) := (List.take_append_drop _ _).symm
  rw [this, knowL_append, knowL_take hi h, hn]

/-- What may be: as far as it matters here. -/
def okT (t : Test) : Prop := t.rel = 8 → strEq t.var ⟨#[]⟩ = true
mutual
def okC : Cond → Prop
  | .mk k _ _ a v _ cs => (k = 3 ∨ ((k = 1 ∨ k = 2) ∧ cs.length = 0)) ∧ a.length ≤ 4 ∧ v.length ≤ 4 ∧ (∀ t ∈ a, okT t) ∧ (∀ t ∈ v, okT t) ∧ okL cs
def okL : List Cond → Prop
  | [] => True
  | c :: cs => okC c ∧ okL cs
end
theorem okC_eq (c : Cond) : okC c ↔ (c.kind = 3 ∨ ((c.kind = 1 ∨ c.kind = 2) ∧ c.conds.length = 0)) ∧ c.attr.length ≤ 4 ∧ c.value.length ≤ 4 ∧ (∀ t ∈ c.attr, okT t) ∧ (∀ t ∈ c.value, okT t) ∧ okL c.conds := by cases c; rfl
theorem okL_iff {l : List Cond} : okL l ↔ ∀ c ∈ l, okC c := by
  induction l with
  | nil => simp [okL]
  | cons c l ih => simp [okL, ih]

theorem testB_ok {t : Test} (h : testB t = true) : okT t := fun e => by
  unfold testB at h
  simp only [e, beq_self_eq_true, cond_true, Bool.and_eq_true] at h
  exact h.1

theorem condE_ok {c : Cond} {d : Int} (h : condE c d = 0) : (c.kind = 3 ∨ ((c.kind = 1 ∨ c.kind = 2) ∧ c.conds.length = 0)) ∧ c.attr.length ≤ 4 ∧ c.value.length ≤ 4 ∧ (∀ t ∈ c.attr, okT t) ∧ (∀ t ∈ c.value, okT t) := by
  unfold condE at h
  cases h3 : c.kind == 3 with
  | true =>
    rw [h3] at h
    simp only [cond_true] at h
    have hk : c.kind = 3 := by simpa using h3
    cases hb : (c.goal || (!strEq c.id ⟨#[]⟩ || (decide (0 < c.attr.length) || (decide (0 < c.value.length) || (c.acc || decide (c.conds.length = 0)))))) with
    | true => rw [hb] at h; simp at h
    | false =>
      simp only [Bool.or_eq_false_iff, decide_eq_false_iff_not] at hb
      obtain ⟨_, _, ha, hv, _⟩ := hb
      refine ⟨.inl hk, by omega, by omega, fun t ht => ?_, fun t ht => ?_⟩
      · have := List.length_pos_of_mem ht; omega
      · have := List.length_pos_of_mem ht; omega
  | false =>
    rw [h3] at h
    simp only [cond_false] at h
    cases h12 : (c.kind == 1) || (c.kind == 2) with
    | false => rw [h12] at h; simp at h
    | true =>
      rw [h12] at h
      simp only [cond_true] at h
      have hk : c.kind = 1 ∨ c.kind = 2 := by simpa using h12
      cases hb : (decide (0 < c.conds.length) || (!wordB c.id || decide (c.attr.length = 0))) with
      | true => rw [hb] at h; simp at h
      | false =>
        rw [hb] at h
        simp only [cond_false] at h
        cases hm : (decide (4 < c.attr.length) || decide (4 < c.value.length)) with
        | true => rw [hm] at h; simp at h
        | false =>
          rw [hm] at h
          simp only [cond_false] at h
          cases ht : (!(c.attr.all testB) || !(c.value.all testB)) with
          | true => rw [ht] at h; simp at h
          | false =>
            simp only [Bool.or_eq_false_iff, decide_eq_false_iff_not, Bool.not_eq_false', List.all_eq_true] at hb hm ht
            exact ⟨.inr ⟨hk, by omega⟩, by omega, by omega, fun t h => testB_ok (ht.1 t h), fun t h => testB_ok (ht.2 t h)⟩

theorem firstE_none {l : List (Nat × Nat × Cond)} (h : firstE l = none) : ∀ x ∈ l, condE x.2.2 x.2.1 = 0 := by
  induction l with
  | nil => intro x hx; cases hx
  | cons y l ih =>
    obtain ⟨a, d, c⟩ := y
    simp only [firstE] at h
    cases hc : condE c d == 0 with
    | false => rw [hc] at h; cases h
    | true =>
      rw [hc] at h
      intro x hx
      rcases List.mem_cons.1 hx with rfl | hx
      · simpa using hc
      · exact ih h x hx

mutual
theorem okC_pre : ∀ (c : Cond) (a d : Nat), (∀ x ∈ preC c a d, condE x.2.2 x.2.1 = 0) → okC c
  | .mk k g i at_ v ac cs, a, d, h => by
    have h0 := condE_ok (h (a, d, .mk k g i at_ v ac cs) (by simp [preC]))
    exact ⟨h0.1, h0.2.1, h0.2.2.1, h0.2.2.2.1, h0.2.2.2.2, okL_pre cs (a + 1) (d + 1) fun x hx => h x (by simp [preC, hx])⟩
theorem okL_pre : ∀ (l : List Cond) (a d : Nat), (∀ x ∈ preL l a d, condE x.2.2 x.2.1 = 0) → okL l
  | [], _, _, _ => trivial
  | c :: cs, a, d, h => ⟨okC_pre c a d fun x hx => h x (by simp [preL, hx]), okL_pre cs (a + sizeC c) d fun x hx => h x (by simp [preL, hx])⟩
end

/-- The first action with a variable that is not known. -/
def lackB (K : List ByteArray) (a : Atom) : Bool := !strEq a.var ⟨#[]⟩ && !hasB K a.var
def lackA (K : List ByteArray) (a : Actn) : Bool := lackB K a.attr || ((a.value.op != 0) && (lackB K a.value.a || lackB K a.value.b))
def firstL (K : List ByteArray) : Nat → List Actn → Option Nat
  | _, [] => none
  | i, a :: l => bif lackA K a then some i else firstL K (i + 1) l
theorem firstL_take {K : List ByteArray} {l : List Actn} {k i : Nat} (hk : k < l.length) (h : firstL K i (l.take k) = none) : firstL K i (l.take (k + 1)) = (bif lackA K l[k] then some (i + k) else none) := by
  induction l generalizing k i with
  | nil => simp at hk
  | cons a l ih =>
    cases k with
    | zero => simp [firstL]
    | succ k =>
      simp only [List.take_succ_cons, firstL, List.getElem_cons_succ] at h ⊢
      cases ha : lackA K a with
      | true => rw [ha] at h; cases h
      | false =>
        rw [ha] at h
        simp only [cond_false] at h ⊢
        rw [ih (by simpa using hk) h]
        congr 2; omega
theorem firstL_hit {K : List ByteArray} {l : List Actn} {k i : Nat} (hk : k < l.length) (h : firstL K i (l.take k) = none) (ha : lackA K l[k] = true) : firstL K i l = some (i + k) := by
  induction l generalizing k i with
  | nil => simp at hk
  | cons a l ih =>
    cases k with
    | zero => simp only [List.getElem_cons_zero] at ha; simp [firstL, ha]
    | succ k =>
      simp only [List.take_succ_cons, firstL, List.getElem_cons_succ] at h ha ⊢
      cases hb : lackA K a with
      | true => rw [hb] at h; cases h
      | false =>
        rw [hb] at h
        simp only [cond_false] at h ⊢
        rw [ih (by simpa using hk) h ha]
        congr 1; omega

/-- The place and the first error of a production, and what is known behind all conditions. -/
def checkE (p : Prod) : Int × Int × List ByteArray :=
  bif (shapeE p).2 != 0 then ((shapeE p).1, (shapeE p).2, []) else
  bif (p.conds.head?.map Cond.kind).getD 0 != 1 then (0, 9, []) else
  match knowL p.conds 0 [] with
  | .error n => ((n : Int), 6, [])
  | .ok K => match firstL K 0 p.acts with
    | some i => (((sizeL p.conds + i : Nat) : Int), 6, [])
    | none => (-1, 0, K)

/-- A production of its form. -/
theorem shapeE_ok {p : Prod} (h : (shapeE p).2 = 0) : 1 ≤ sizeL p.conds ∧ sizeL p.conds ≤ 16 ∧ 1 ≤ p.acts.length ∧ p.acts.length ≤ 16 ∧ okL p.conds := by
  unfold shapeE at h
  cases hw : wordB p.name with
  | false => rw [hw] at h; simp at h
  | true =>
    rw [hw] at h
    simp only [Bool.not_true, cond_false] at h
    cases hb : (decide (sizeL p.conds < 1) || (decide (16 < sizeL p.conds) || (decide (p.acts.length < 1) || decide (16 < p.acts.length)))) with
    | true => rw [hb] at h; simp at h
    | false =>
      rw [hb] at h
      simp only [cond_false] at h
      simp only [Bool.or_eq_false_iff, decide_eq_false_iff_not] at hb
      refine ⟨by omega, by omega, by omega, by omega, okL_pre _ 0 0 (firstE_none ?_)⟩
      unfold shapeT at h
      split at h
      · rename_i a e he
        exfalso
        have : ∀ l : List (Nat × Nat × Cond), firstE l = some (a, e) → e ≠ 0 := by
          intro l
          induction l with
          | nil => intro h; cases h
          | cons y l ih =>
            obtain ⟨a', d, c⟩ := y
            simp only [firstE]
            cases hc : condE c d == 0 with
            | true => exact ih
            | false =>
              intro h
              simp only [cond_false, Option.some.injEq, Prod.mk.injEq] at h
              rw [← h.2]; simpa using hc
        exact this _ he h
      · assumption

end Go.Proofs.Ytfjemjnbemdkgaa

/-
  Other names: plain.
-/
namespace Go.Proofs.Ytfjemjnbemdkgaa
open Go.Eng Go.RowKit
set_option linter.unusedVariables false
set_option linter.unusedSimpArgs false
set_option linter.unnecessarySimpa false
set_option linter.unusedSectionVars false

/-- Other names, unlike ones unlike. -/
structure RenOk (r : ByteArray → ByteArray) : Prop where
  e0 : r ⟨#[]⟩ = ⟨#[]⟩
  w : ∀ a, wordB a = true → wordB (r a) = true
  inv : ∀ a, wordB a = true → r (r a) = a

/-- A word, or none. -/
def nm (v : ByteArray) : Prop := v = ⟨#[]⟩ ∨ wordB v = true
def nmL (K : List ByteArray) : Prop := ∀ x ∈ K, nm x

theorem word_ne {v : ByteArray} (h : wordB v = true) : v ≠ ⟨#[]⟩ := by
  rintro rfl
  have : wordB ⟨#[]⟩ = false := by kernel_rfl
  rw [this] at h; cases h

section
variable {r : ByteArray → ByteArray} (hr : RenOk r)
include hr

theorem RenOk.nm {v : ByteArray} (hv : nm v) : Go.Proofs.Ytfjemjnbemdkgaa.nm (r v) := by
  rcases hv with rfl | hv
  · exact .inl hr.e0
  · exact .inr (hr.w v hv)
theorem RenOk.word {v : ByteArray} (hv : Go.Proofs.Ytfjemjnbemdkgaa.nm v) : wordB (r v) = wordB v := by
  rcases hv with rfl | hv
  · rw [hr.e0]
  · rw [hv, hr.w v hv]
theorem RenOk.eq {a b : ByteArray} (ha : Go.Proofs.Ytfjemjnbemdkgaa.nm a) (hb : Go.Proofs.Ytfjemjnbemdkgaa.nm b) : strEq (r a) (r b) = strEq a b := by
  by_cases e : a = b
  · subst e; rw [strEq_self, strEq_self]
  · rw [strEq_false.2 e, strEq_false]
    intro e2
    rcases ha with rfl | ha <;> rcases hb with rfl | hb
    · exact e rfl
    · rw [hr.e0] at e2; exact word_ne (hr.w b hb) e2.symm
    · rw [hr.e0] at e2; exact word_ne (hr.w a ha) e2
    · exact e (by rw [← hr.inv a ha, e2, hr.inv b hb])
theorem RenOk.emp {v : ByteArray} (hv : Go.Proofs.Ytfjemjnbemdkgaa.nm v) : strEq (r v) ⟨#[]⟩ = strEq v ⟨#[]⟩ := by
  have := hr.eq hv (.inl rfl : Go.Proofs.Ytfjemjnbemdkgaa.nm ⟨#[]⟩)
  rw [hr.e0] at this; exact this
end

def renT (r : ByteArray → ByteArray) (t : Test) : Test := { t with var := r t.var }
mutual
def renC (r : ByteArray → ByteArray) : Cond → Cond
  | .mk k g i a v ac cs => .mk k g (r i) (a.map (renT r)) (v.map (renT r)) ac (renL r cs)
def renL (r : ByteArray → ByteArray) : List Cond → List Cond
  | [] => []
  | c :: cs => renC r c :: renL r cs
end
theorem renL_eq (r : ByteArray → ByteArray) : ∀ l, renL r l = l.map (renC r)
  | [] => rfl
  | c :: cs => by simp [renL, renL_eq r cs]
theorem renC_eq (r : ByteArray → ByteArray) (c : Cond) : renC r c = .mk c.kind c.goal (r c.id) (c.attr.map (renT r)) (c.value.map (renT r)) c.acc (c.conds.map (renC r)) := by
  cases c; simp only [renC, renL_eq]; rfl
def renAt (r : ByteArray → ByteArray) (a : Atom) : Atom := { a with var := r a.var }
def renA (r : ByteArray → ByteArray) (a : Actn) : Actn := { id := r a.id, attr := renAt r a.attr, value := { op := a.value.op, a := renAt r a.value.a, b := renAt r a.value.b }, pref := a.pref, other := renAt r a.other }
def renP (r : ByteArray → ByteArray) (p : Prod) : Prod := ⟨p.name, p.conds.map (renC r), p.acts.map (renA r)⟩

mutual
def nmC : Cond → Prop
  | .mk _ _ i a v _ cs => nm i ∧ (∀ t ∈ a, nm t.var) ∧ (∀ t ∈ v, nm t.var) ∧ nmCs cs
def nmCs : List Cond → Prop
  | [] => True
  | c :: cs => nmC c ∧ nmCs cs
end
theorem nmC_eq (c : Cond) : nmC c ↔ nm c.id ∧ (∀ t ∈ c.attr, nm t.var) ∧ (∀ t ∈ c.value, nm t.var) ∧ nmCs c.conds := by cases c; rfl
theorem nmCs_iff {l : List Cond} : nmCs l ↔ ∀ c ∈ l, nmC c := by
  induction l with
  | nil => simp [nmCs]
  | cons c l ih => simp [nmCs, ih]
def nmAt (a : Atom) : Prop := nm a.var
def nmA (a : Actn) : Prop := nm a.id ∧ nmAt a.attr ∧ nmAt a.value.a ∧ nmAt a.value.b ∧ nmAt a.other

/-! ### what is of its form has words -/
theorem atomB_nm {a : Atom} (h : atomB a = true) : nmAt a := by
  unfold atomB at h
  cases he : strEq a.var ⟨#[]⟩ with
  | true => exact .inl (strEq_iff.1 he)
  | false =>
    rw [he] at h
    simp only [cond_false, Bool.and_eq_true] at h
    exact .inr h.1
theorem emptyB_nm {a : Atom} (h : emptyB a = true) : nmAt a := by
  unfold emptyB at h
  simp only [Bool.and_eq_true] at h
  exact .inl (strEq_iff.1 h.1)
theorem testB_nm {t : Test} (h : testB t = true) : nm t.var := by
  unfold testB at h
  cases h8 : t.rel == 8 with
  | true =>
    rw [h8] at h
    simp only [cond_true, Bool.and_eq_true] at h
    exact .inl (strEq_iff.1 h.1)
  | false =>
    rw [h8] at h
    simp only [cond_false, Bool.and_eq_true] at h
    exact atomB_nm (a := ⟨t.var, t.sym⟩) h.2.2.2
theorem actB_nm {a : Actn} (h : actB a = true) : nmA a := by
  unfold actB termB at h
  simp only [Bool.and_eq_true] at h
  obtain ⟨h1, h2, ⟨_, _, h3, h4⟩, _, _, h5⟩ := h
  refine ⟨.inr h1, atomB_nm h2, atomB_nm h3, ?_, ?_⟩
  · cases ho : a.value.op == 0 with
    | true => rw [ho] at h4; exact emptyB_nm h4
    | false =>
      rw [ho] at h4
      simp only [cond_false, Bool.and_eq_true] at h4
      exact atomB_nm h4.1
  · cases ho : otherB a.pref with
    | true => rw [ho] at h5; exact atomB_nm h5
    | false => rw [ho] at h5; exact emptyB_nm h5
theorem condE_nm {c : Cond} {d : Int} (h : condE c d = 0) : nm c.id ∧ (∀ t ∈ c.attr, nm t.var) ∧ (∀ t ∈ c.value, nm t.var) := by
  unfold condE at h
  cases h3 : c.kind == 3 with
  | true =>
    rw [h3] at h
    simp only [cond_true] at h
    cases hb : (c.goal || (!strEq c.id ⟨#[]⟩ || (decide (0 < c.attr.length) || (decide (0 < c.value.length) || (c.acc || decide (c.conds.length = 0)))))) with
    | true => rw [hb] at h; simp at h
    | false =>
      simp only [Bool.or_eq_false_iff, decide_eq_false_iff_not] at hb
      obtain ⟨_, b1, b2, b3, _⟩ := hb
      have e1 : c.attr = [] := List.eq_nil_of_length_eq_zero (by omega)
      have e2 : c.value = [] := List.eq_nil_of_length_eq_zero (by omega)
      refine ⟨.inl (strEq_iff.1 (by simpa using b1)), by rw [e1]; simp, by rw [e2]; simp⟩
  | false =>
    rw [h3] at h
    simp only [cond_false] at h
    cases hk : ((c.kind == 1) || (c.kind == 2)) with
    | false => rw [hk] at h; simp at h
    | true =>
      rw [hk] at h
      simp only [cond_true] at h
      cases hb : (decide (0 < c.conds.length) || (!wordB c.id || decide (c.attr.length = 0))) with
      | true => rw [hb] at h; simp at h
      | false =>
        rw [hb] at h
        simp only [cond_false] at h
        cases hb2 : (decide (4 < c.attr.length) || decide (4 < c.value.length)) with
        | true => rw [hb2] at h; simp at h
        | false =>
          rw [hb2] at h
          simp only [cond_false] at h
          cases hb3 : (!(c.attr.all testB) || !(c.value.all testB)) with
          | true => rw [hb3] at h; simp at h
          | false =>
            simp only [Bool.or_eq_false_iff, Bool.not_eq_false'] at hb hb3
            exact ⟨.inr hb.2.1, fun t ht => testB_nm (List.all_eq_true.1 hb3.1 t ht), fun t ht => testB_nm (List.all_eq_true.1 hb3.2 t ht)⟩
mutual
theorem nmC_pre : ∀ (c : Cond) (a d : Nat), (∀ x ∈ preC c a d, condE x.2.2 x.2.1 = 0) → nmC c
  | .mk k g i at_ v ac cs, a, d, h => by
    obtain ⟨h1, h2, h3⟩ := condE_nm (h (a, d, .mk k g i at_ v ac cs) (by simp [preC]))
    exact ⟨h1, h2, h3, nmCs_pre cs (a + 1) (d + 1) fun x hx => h x (by simp [preC, hx])⟩
theorem nmCs_pre : ∀ (l : List Cond) (a d : Nat), (∀ x ∈ preL l a d, condE x.2.2 x.2.1 = 0) → nmCs l
  | [], _, _, _ => trivial
  | c :: cs, a, d, h => ⟨nmC_pre c a d fun x hx => h x (by simp [preL, hx]), nmCs_pre cs (a + sizeC c) d fun x hx => h x (by simp [preL, hx])⟩
end
theorem firstA_none {l : List Actn} {i : Nat} (h : firstA i l = none) : ∀ a ∈ l, actB a = true := by
  induction l generalizing i with
  | nil => intro a ha; cases ha
  | cons b l ih =>
    simp only [firstA] at h
    cases hb : actB b with
    | false => rw [hb] at h; cases h
    | true =>
      rw [hb] at h
      intro a ha
      rcases List.mem_cons.1 ha with rfl | ha
      · exact hb
      · exact ih h a ha
theorem shapeE_nm {p : Prod} (h : (shapeE p).2 = 0) : nmCs p.conds ∧ ∀ a ∈ p.acts, nmA a := by
  have hT : (shapeT p).2 = 0 := by
    unfold shapeE at h
    cases hw : wordB p.name with
    | false => rw [hw] at h; simp at h
    | true =>
      rw [hw] at h
      simp only [Bool.not_true, cond_false] at h
      cases hb : (decide (sizeL p.conds < 1) || (decide (16 < sizeL p.conds) || (decide (p.acts.length < 1) || decide (16 < p.acts.length)))) with
      | true => rw [hb] at h; simp at h
      | false => rw [hb] at h; exact h
  unfold shapeT at hT
  split at hT
  · rename_i a e he
    exact absurd hT (firstE_ne he)
  · rename_i he
    refine ⟨nmCs_pre _ 0 0 (firstE_none he), ?_⟩
    split at hT
    · simp at hT
    · rename_i ha
      exact fun a h => actB_nm (firstA_none ha a h)

theorem allCong {α : Type} {p q : α → Bool} : ∀ {l : List α}, (∀ x ∈ l, p x = q x) → l.all p = l.all q
  | [], _ => rfl
  | x :: l, h => by simp only [List.all_cons, h x (List.mem_cons_self ..), allCong fun y hy => h y (List.mem_cons_of_mem _ hy)]
theorem anyCong {α : Type} {p q : α → Bool} : ∀ {l : List α}, (∀ x ∈ l, p x = q x) → l.any p = l.any q
  | [], _ => rfl
  | x :: l, h => by simp only [List.any_cons, h x (List.mem_cons_self ..), anyCong fun y hy => h y (List.mem_cons_of_mem _ hy)]

/-! ### forms stay -/
mutual
theorem sizeC_ren (r : ByteArray → ByteArray) : ∀ c, sizeC (renC r c) = sizeC c
  | .mk k g i a v ac cs => by simp only [renC, sizeC, sizeL_ren r cs]
theorem sizeL_ren (r : ByteArray → ByteArray) : ∀ l, sizeL (renL r l) = sizeL l
  | [] => rfl
  | c :: cs => by simp only [renL, sizeL, sizeC_ren r c, sizeL_ren r cs]
end
mutual
theorem preC_ren (r : ByteArray → ByteArray) : ∀ (c : Cond) (a d : Nat), preC (renC r c) a d = (preC c a d).map fun x => (x.1, x.2.1, renC r x.2.2)
  | .mk k g i at_ v ac cs, a, d => by simp only [renC, preC, List.map_cons, preL_ren r cs]
theorem preL_ren (r : ByteArray → ByteArray) : ∀ (l : List Cond) (a d : Nat), preL (renL r l) a d = (preL l a d).map fun x => (x.1, x.2.1, renC r x.2.2)
  | [], _, _ => rfl
  | c :: cs, a, d => by simp only [renL, preL, List.map_append, preC_ren r c, preL_ren r cs, sizeC_ren]
end
mutual
theorem nmC_mem : ∀ (c : Cond) (a d : Nat), nmC c → ∀ x ∈ preC c a d, nmC x.2.2
  | .mk k g i at_ v ac cs, a, d, h, x, hx => by
    simp only [preC, List.mem_cons] at hx
    rcases hx with rfl | hx
    · exact h
    · exact nmCs_mem cs _ _ h.2.2.2 x hx
theorem nmCs_mem : ∀ (l : List Cond) (a d : Nat), nmCs l → ∀ x ∈ preL l a d, nmC x.2.2
  | [], _, _, _, x, hx => by simp [preL] at hx
  | c :: cs, a, d, h, x, hx => by
    simp only [preL, List.mem_append] at hx
    rcases hx with hx | hx
    · exact nmC_mem c a d h.1 x hx
    · exact nmCs_mem cs _ d h.2 x hx
end

section
variable {r : ByteArray → ByteArray} (hr : RenOk r)
include hr

theorem atomB_ren {a : Atom} (h : nmAt a) : atomB (renAt r a) = atomB a := by
  unfold atomB renAt
  simp only [hr.emp h, hr.word h]
theorem emptyB_ren {a : Atom} (h : nmAt a) : emptyB (renAt r a) = emptyB a := by
  unfold emptyB renAt
  simp only [hr.emp h]
theorem wordA_ren {a : Atom} (h : nmAt a) : wordA (renAt r a) = wordA a := by
  unfold wordA renAt
  simp only [hr.emp h]
theorem testB_ren {t : Test} (h : nm t.var) : testB (renT r t) = testB t := by
  have := atomB_ren hr (a := ⟨t.var, t.sym⟩) h
  unfold testB renT
  simp only [hr.emp h]
  unfold renAt at this
  simp only at this
  rw [this]
theorem actB_ren {a : Actn} (h : nmA a) : actB (renA r a) = actB a := by
  obtain ⟨h1, h2, h3, h4, h5⟩ := h
  unfold actB termB renA
  simp only [hr.word h1, atomB_ren hr h2, atomB_ren hr h3, atomB_ren hr h4, emptyB_ren hr h4, wordA_ren hr h3, wordA_ren hr h4, atomB_ren hr h5, emptyB_ren hr h5]
theorem allT_ren {l : List Test} (h : ∀ t ∈ l, nm t.var) : (l.map (renT r)).all testB = l.all testB := by
  rw [List.all_map]
  exact allCong fun t ht => testB_ren hr (h t ht)
theorem condE_ren {c : Cond} (h : nmC c) (d : Int) : condE (renC r c) d = condE c d := by
  obtain ⟨h1, h2, h3, _⟩ := (nmC_eq c).1 h
  rw [renC_eq]
  unfold condE
  simp only [Cond.kind, Cond.goal, Cond.id, Cond.attr, Cond.value, Cond.acc, Cond.conds] at h1 h2 h3 ⊢
  cases c
  simp only at h1 h2 h3 ⊢
  simp only [hr.emp h1, hr.word h1, allT_ren hr h2, allT_ren hr h3, List.length_map]
  rfl
theorem firstE_ren : ∀ {l : List (Nat × Nat × Cond)}, (∀ x ∈ l, nmC x.2.2) → firstE (l.map fun x => (x.1, x.2.1, renC r x.2.2)) = firstE l
  | [], _ => rfl
  | (a, d, c) :: l, h => by
    have ih := firstE_ren (l := l) fun x hx => h x (List.mem_cons_of_mem _ hx)
    simp only [List.map_cons, firstE, condE_ren hr (h (a, d, c) (List.mem_cons_self ..)), ih]
theorem firstA_ren : ∀ {l : List Actn} {i : Nat}, (∀ a ∈ l, nmA a) → firstA i (l.map (renA r)) = firstA i l
  | [], _, _ => rfl
  | a :: l, i, h => by
    have ih := firstA_ren (l := l) (i := i + 1) fun x hx => h x (List.mem_cons_of_mem _ hx)
    simp only [List.map_cons, firstA, actB_ren hr (h a (List.mem_cons_self ..)), ih]
theorem shapeE_ren {p : Prod} (h1 : nmCs p.conds) (h2 : ∀ a ∈ p.acts, nmA a) : shapeE (renP r p) = shapeE p := by
  have hs : sizeL (p.conds.map (renC r)) = sizeL p.conds := by rw [← renL_eq, sizeL_ren]
  have hE : firstE (preL (p.conds.map (renC r)) 0 0) = firstE (preL p.conds 0 0) := by rw [← renL_eq, preL_ren, firstE_ren hr (nmCs_mem _ _ _ h1)]
  unfold shapeE shapeT renP
  simp only [hs, hE, firstA_ren hr h2, List.length_map]

/-! ### what is known -/
theorem hasB_ren {K : List ByteArray} {v : ByteArray} (hK : nmL K) (hv : nm v) : hasB (K.map r) (r v) = hasB K v := by
  unfold hasB
  rw [List.any_map]
  exact anyCong fun x hx => hr.eq (hK x hx) hv
theorem newK_ren {K : List ByteArray} {v : ByteArray} (hK : nmL K) (hv : nm v) : newK (K.map r) (r v) = (newK K v).map r := by
  unfold newK
  rw [hasB_ren hr hK hv]
  cases hasB K v <;> rfl
omit hr in
theorem newK_nm {K : List ByteArray} {v : ByteArray} (hK : nmL K) (hv : nm v) : nmL (K ++ newK K v) := fun x hx => by
  rcases newK_mem.1 hx with rfl | hx
  · exact hv
  · exact hK x hx
theorem metT_ren {K : List ByteArray} {t : Test} (hK : nmL K) (hv : nm t.var) : metT (K.map r) (renT r t) = (metT K t).map (·.map r) := by
  unfold metT renT
  simp only [hr.emp hv, hasB_ren hr hK hv, newK_ren hr hK hv]
  cases (t.rel == 8) || strEq t.var ⟨#[]⟩ with
  | true => rfl
  | false =>
    cases t.rel == 1 with
    | true => simp
    | false => cases hasB K t.var <;> rfl
omit hr in
theorem metT_nm {K K' : List ByteArray} {t : Test} (hK : nmL K) (hv : nm t.var) (h : metT K t = some K') : nmL K' := by
  unfold metT at h
  cases h1 : (t.rel == 8) || strEq t.var ⟨#[]⟩ with
  | true => rw [h1] at h; cases h; exact hK
  | false =>
    rw [h1] at h
    simp only [cond_false] at h
    cases h2 : t.rel == 1 with
    | true => rw [h2] at h; cases h; exact newK_nm hK hv
    | false =>
      rw [h2] at h
      simp only [cond_false] at h
      cases h3 : hasB K t.var with
      | true => rw [h3] at h; cases h; exact hK
      | false => rw [h3] at h; cases h
theorem metL_ren : ∀ {ts : List Test} {K : List ByteArray}, nmL K → (∀ t ∈ ts, nm t.var) → metL (K.map r) (ts.map (renT r)) = (metL K ts).map (·.map r)
  | [], K, _, _ => rfl
  | t :: ts, K, hK, h => by
    simp only [List.map_cons, metL, metT_ren hr hK (h t (by simp))]
    cases hm : metT K t with
    | none => rfl
    | some K' => exact metL_ren (metT_nm hK (h t (by simp)) hm) fun x hx => h x (by simp [hx])
omit hr in
theorem metL_nm : ∀ {ts : List Test} {K K' : List ByteArray}, nmL K → (∀ t ∈ ts, nm t.var) → metL K ts = some K' → nmL K'
  | [], K, K', hK, _, h => by simp only [metL, Option.some.injEq] at h; exact h ▸ hK
  | t :: ts, K, K', hK, h, hm => by
    simp only [metL] at hm
    cases h1 : metT K t with
    | none => rw [h1] at hm; cases hm
    | some K1 => rw [h1] at hm; exact metL_nm (metT_nm hK (h t (by simp)) h1) (fun x hx => h x (by simp [hx])) hm
omit hr in
theorem goalK_nm {K : List ByteArray} {c : Cond} (hK : nmL K) (h1 : nm c.id) : nmL (bif c.goal then K ++ newK K c.id else K) := by
  cases c.goal with
  | true => exact newK_nm hK h1
  | false => exact hK
theorem metC_ren {K : List ByteArray} {c : Cond} (hK : nmL K) (h : nmC c) : metC (K.map r) (renC r c) = (metC K c).map (·.map r) := by
  obtain ⟨h1, h2, h3, _⟩ := (nmC_eq c).1 h
  have hg : (bif (renC r c).goal then K.map r ++ newK (K.map r) (renC r c).id else K.map r) = (bif c.goal then K ++ newK K c.id else K).map r := by
    rw [renC_eq]
    show (bif c.goal then K.map r ++ newK (K.map r) (r c.id) else K.map r) = _
    cases c.goal with
    | true => simp [newK_ren hr hK h1]
    | false => rfl
  unfold metC
  simp only
  rw [hg]
  have hn := goalK_nm hK h1
  generalize (bif c.goal then K ++ newK K c.id else K) = K0 at hn
  rw [renC_eq]
  show (bif hasB (K0.map r) (r c.id) then (metL (K0.map r) (c.attr.map (renT r))).bind fun K1 => metL K1 (c.value.map (renT r)) else none) = _
  rw [hasB_ren hr hn h1, metL_ren hr hn h2]
  cases hasB K0 c.id with
  | false => rfl
  | true =>
    simp only [cond_true]
    cases hm : metL K0 c.attr with
    | none => rfl
    | some K1 => exact metL_ren hr (metL_nm hn h2 hm) h3
omit hr in
theorem metC_nm {K K' : List ByteArray} {c : Cond} (hK : nmL K) (h : nmC c) (hm : metC K c = some K') : nmL K' := by
  obtain ⟨h1, h2, h3, _⟩ := (nmC_eq c).1 h
  unfold metC at hm
  simp only at hm
  have hn := goalK_nm hK h1
  generalize (bif c.goal then K ++ newK K c.id else K) = K0 at hn hm
  cases hb : hasB K0 c.id with
  | false => rw [hb] at hm; cases hm
  | true =>
    rw [hb] at hm
    simp only [cond_true] at hm
    cases h4 : metL K0 c.attr with
    | none => rw [h4] at hm; cases hm
    | some K1 => rw [h4] at hm; exact metL_nm (metL_nm hn h2 h4) h3 hm

def mapK (r : ByteArray → ByteArray) : Except Nat (List ByteArray) → Except Nat (List ByteArray)
  | .error e => .error e
  | .ok K => .ok (K.map r)
mutual
theorem knowC_ren : ∀ (c : Cond) (n : Nat) (K : List ByteArray), nmL K → nmC c → knowC (renC r c) n (K.map r) = mapK r (knowC c n K) ∧ ∀ K', knowC c n K = .ok K' → nmL K'
  | .mk k g i a v ac cs, n, K, hK, h => by
    have hm := metC_ren hr hK h
    simp only [renC] at hm
    simp only [renC, knowC]
    cases hk : k == 3 with
    | true =>
      simp only [cond_true]
      obtain ⟨h1, h2⟩ := knowL_ren cs (n + 1) K hK h.2.2.2
      rw [h1]
      cases hc : knowL cs (n + 1) K with
      | error e => exact ⟨rfl, fun K' h => by cases h⟩
      | ok K1 => exact ⟨rfl, fun K' h => by cases h; exact hK⟩
    | false =>
      simp only [cond_false]
      rw [hm]
      cases hc : metC K (.mk k g i a v ac cs) with
      | none => exact ⟨rfl, fun K' h => by cases h⟩
      | some K1 =>
        have hn := metC_nm hK h hc
        cases k == 1 with
        | true => exact ⟨rfl, fun K' h => by cases h; exact hn⟩
        | false => exact ⟨rfl, fun K' h => by cases h; exact hK⟩
theorem knowL_ren : ∀ (l : List Cond) (n : Nat) (K : List ByteArray), nmL K → nmCs l → knowL (renL r l) n (K.map r) = mapK r (knowL l n K) ∧ ∀ K', knowL l n K = .ok K' → nmL K'
  | [], n, K, hK, _ => ⟨rfl, fun K' h => by cases h; exact hK⟩
  | c :: cs, n, K, hK, h => by
    simp only [renL, knowL]
    obtain ⟨h1, h2⟩ := knowC_ren c n K hK h.1
    rw [h1, sizeC_ren]
    cases hc : knowC c n K with
    | error e => exact ⟨rfl, fun K' h => by cases h⟩
    | ok K1 =>
      obtain ⟨h3, h4⟩ := knowL_ren cs (n + sizeC c) K1 (h2 K1 hc) h.2
      exact ⟨h3, h4⟩
end

theorem lackB_ren {K : List ByteArray} {a : Atom} (hK : nmL K) (h : nmAt a) : lackB (K.map r) (renAt r a) = lackB K a := by
  unfold lackB renAt
  simp only [hr.emp h, hasB_ren hr hK h]
theorem firstL_ren {K : List ByteArray} (hK : nmL K) : ∀ {l : List Actn} {i : Nat}, (∀ a ∈ l, nmA a) → firstL (K.map r) i (l.map (renA r)) = firstL K i l
  | [], _, _ => rfl
  | a :: l, i, h => by
    obtain ⟨h1, h2, h3, h4, h5⟩ := h a (by simp)
    have e : lackA (K.map r) (renA r a) = lackA K a := by
      unfold lackA renA
      simp only [lackB_ren hr hK h2, lackB_ren hr hK h3, lackB_ren hr hK h4]
    have ih := firstL_ren hK (l := l) (i := i + 1) fun x hx => h x (List.mem_cons_of_mem _ hx)
    simp only [List.map_cons, firstL, e, ih]

theorem checkE_ren {p : Prod} (h : (shapeE p).2 = 0) : checkE (renP r p) = ((checkE p).1, (checkE p).2.1, (checkE p).2.2.map r) := by
  obtain ⟨h1, h2⟩ := shapeE_nm h
  have hs : sizeL (p.conds.map (renC r)) = sizeL p.conds := by rw [← renL_eq, sizeL_ren]
  unfold checkE
  rw [shapeE_ren hr h1 h2, h]
  have hk : ((renP r p).conds.head?.map Cond.kind).getD 0 = (p.conds.head?.map Cond.kind).getD 0 := by
    unfold renP
    cases p.conds with
    | nil => rfl
    | cons c cs => simp only [List.map_cons, List.head?_cons, Option.map_some, Option.getD_some]; rw [renC_eq]; rfl
  rw [hk]
  simp only [bne_self_eq_false, cond_false]
  cases (p.conds.head?.map Cond.kind).getD 0 != 1 with
  | true => rfl
  | false =>
    simp only [cond_false]
    obtain ⟨k1, k2⟩ := knowL_ren hr p.conds 0 [] (by intro x hx; cases hx) h1
    have k1 : knowL (renP r p).conds 0 [] = mapK r (knowL p.conds 0 []) := by rw [← k1, renL_eq]; rfl
    rw [k1]
    cases hc : knowL p.conds 0 [] with
    | error e => rfl
    | ok K =>
      have hK := k2 K hc
      simp only [mapK, renP, firstL_ren hr hK h2, hs]
      cases firstL K 0 p.acts <;> rfl
end

end Go.Proofs.Ytfjemjnbemdkgaa

/-
  Other names, written into conditions of one's own: the loops.
-/
namespace Go.Proofs.Ytfjemjnbemdkgaa
open Go.Eng Go.RowKit
set_option linter.unusedVariables false
set_option linter.unusedSimpArgs false
set_option linter.unnecessarySimpa false

/-- The first i of a list are turned. -/
def turnI {T : Type} (g : T → T) (X : List T) (i : Nat) : List T := (X.take i).map g ++ X.drop i
theorem turnI_0 {T : Type} (g : T → T) (X : List T) : turnI g X 0 = X := by simp [turnI]
theorem turnI_all {T : Type} (g : T → T) (X : List T) : turnI g X X.length = X.map g := by simp [turnI]
theorem turnI_len {T : Type} (g : T → T) (X : List T) (i : Nat) (h : i ≤ X.length) : (turnI g X i).length = X.length := by simp [turnI]; omega
theorem turnI_at {T : Type} {g : T → T} {X : List T} {i : Nat} (h : i < X.length) : turnI g X i = (X.take i).map g ++ X[i] :: X.drop (i + 1) := by rw [turnI, List.drop_eq_getElem_cons h]
theorem turnI_succ {T : Type} {g : T → T} {X : List T} {i : Nat} (h : i < X.length) : turnI g X (i + 1) = (X.take i).map g ++ g X[i] :: X.drop (i + 1) := by
  rw [turnI, List.take_add_one, List.getElem?_eq_getElem h, List.map_append]; simp
theorem turnI_get {T : Type} {g : T → T} {X : List T} {i : Nat} (h : i < X.length) : (turnI g X i)[i]? = some X[i] := by
  rw [turnI_at h, List.getElem?_append_right (by simp; omega)]
  have : i - ((X.take i).map g).length = 0 := by simp; omega
  rw [this]; rfl
theorem turnI_set {T U : Type} {g : T → T} {f : T → U} {X : List T} {i : Nat} (h : i < X.length) : ((turnI g X i).map f).set i (f (g X[i])) = (turnI g X (i + 1)).map f := by
  rw [turnI_at h, turnI_succ h, List.map_append, List.map_append, List.set_append_right _ _ (by simp; omega)]
  congr 1
  have : i - (((X.take i).map g).map f).length = 0 := by simp; omega
  rw [this]; rfl

theorem renTests {r : ByteArray → ByteArray} {g : FuncId} {f b o : Nat} {A : List PV → Asn} (hA : Rw b o 7 A) {row : List PV} (hrow : row.length = 7) {q : PV} (hf : f + 1 ≤ 7) (hq : (row.drop f).take 1 = [q]) {l : List Test} (hl : l.length ≤ 100000) (hg : ∀ t ∈ l, Pure Try.prog g [pS t.var] (pS (r t.var))) {L : List Asn} {u : Mem} (hO : Ow (A row :: TestsT false l q :: L) u) {E : Mem → Prop} (hk : ∀ u', Ow (A row :: TestsT false (l.map (renT r)) q :: L) u' → E u') :
    LoopI (α := Int) (fun next_1 s_1 u_3 =>
        ∃ (x27 : Option Addr) (x27n x27c : Nat), rdM u_3 b (o + f) 1 = some [(.raw (.slice x27 x27n x27c))] ∧
        CIf (decide ((s_1 : Int) < ((x27n : Nat) : Int)))
        (∃ (x35 : Option Addr) (x35n x35c : Nat), rdM u_3 b (o + f) 1 = some [(.raw (.slice x35 x35n x35c))] ∧
          ∃ (x40 : Option Addr) (x40n x40c : Nat), rdM u_3 b (o + f) 1 = some [(.raw (.slice x40 x40n x40c))] ∧
          withSl x40 fun b_1 o_1 =>
          (0 : Int) ≤ s_1 ∧ s_1 < ((x40n : Nat) : Int) ∧
          ∃ (x44 : ByteArray), rdM u_3 b_1 ((o_1 + Int.toNat s_1 * 6) + 1) 1 = some [(pS x44)] ∧
          CallQ Try.prog g [(pS x44)] u_3 fun v_1 u_4 =>
          ∃ (x45 : ByteArray), v_1 = (pS x45) ∧
          withSl x35 fun b_2 o_2 =>
          (0 : Int) ≤ s_1 ∧ s_1 < ((x35n : Nat) : Int) ∧
          stM b_2 ((o_2 + Int.toNat s_1 * 6) + 1) [(pS x45)] (Mem.or u_3 u_4) fun u_5 =>
          next_1 (IntKind.wrap .i64 (s_1 + (1))) u_5)
        (E u_3)) 0 u := by
  obtain ⟨X, rfl, hXc, hO⟩ := TestsT.open_ hO.swap
  obtain ⟨a, c, rfl⟩ := Vec.rawO hO
  rw [List.length_map] at hO hl
  have hO1 : Ow (A row :: Vec tyTestO 6 (.raw (.slice a X.length c)) ((turnI (fun x => (renT r x.1, x.2)) X 0).map tRow) :: (X.map (tOwn false) ++ L)) u := by rw [turnI_0]; exact (hO.tail fun _ h => h.mid).swap
  have hq' : (row.drop f).take 1 = [.raw (.slice a X.length c)] := by rw [hq, List.length_map]
  refine LoopI.each (n := X.length) (by omega) (fun i u => Ow (A row :: Vec tyTestO 6 (.raw (.slice a X.length c)) ((turnI (fun x => (renT r x.1, x.2)) X i).map tRow) :: (X.map (tOwn false) ++ L)) u) hO1 ?_ ?_
  · intro i u next hi hO hnext
    have hrd0 : rdM u b (o + f) 1 = some [.raw (.slice a X.length c)] := by rw [hA.rd hrow hO f 1 hf, hq']
    have hlen := turnI_len (fun x : Test × PV => (renT r x.1, x.2)) X i (by omega)
    obtain ⟨b2, rfl, hrd, hst⟩ := Vec.at_ 1 hO rfl (tRowLen _) (j := i) (by simpa [hlen] using hi)
    have hri : ((turnI (fun x : Test × PV => (renT r x.1, x.2)) X i).map tRow)[i]'(by simpa [hlen] using hi) = tRow X[i] := by
      have := turnI_get (g := fun x : Test × PV => (renT r x.1, x.2)) hi
      obtain ⟨h1, h2⟩ := List.getElem?_eq_some_iff.1 this
      rw [List.getElem_map, h2]
    rw [hri] at hrd hst
    refine ⟨_, _, _, hrd0, CIf.t (by simpa using hi) ⟨_, _, _, hrd0, _, _, _, hrd0, by omega, by omega, _, by rw [Int.toNat_natCast]; exact hrd 1 1 (by omega), (hg X[i].1 (List.mem_map.2 ⟨_, List.getElem_mem hi, rfl⟩)).q ⟨_, rfl, by omega, by omega, ?_⟩⟩⟩
    rw [Int.toNat_natCast, Mem.or_M0]
    refine hst 1 [pS (r X[i].1.var)] _ (by simp) fun u' h' => hnext _ ?_
    have e : wrL (tRow X[i]) 1 [pS (r X[i].1.var)] = tRow (renT r X[i].1, X[i].2) := rfl
    rw [e, turnI_set (g := fun x : Test × PV => (renT r x.1, x.2)) (f := tRow) hi] at h'
    exact h'
  · intro u next hO
    rw [turnI_all] at hO
    refine ⟨_, _, _, by rw [hA.rd hrow hO f 1 hf, hq'], CIf.f (by simp) (hk _ ?_)⟩
    have hO2 := (hO.swap.tail fun _ h => Ow.unmid h)
    have e1 : X.map (tOwn false) = (X.map fun x => (renT r x.1, x.2)).map (tOwn false) := by rw [List.map_map]; rfl
    rw [e1] at hO2
    have h3 := TestsT.shut (X := X.map fun x => (renT r x.1, x.2)) (by
      intro x hx
      obtain ⟨y, hy, rfl⟩ := List.mem_map.1 hx
      exact hXc y hy) hO2
    have e2 : (X.map fun x => (renT r x.1, x.2)).map (·.1) = (X.map (·.1)).map (renT r) := by rw [List.map_map, List.map_map]; rfl
    rw [e2] at h3
    rw [List.length_map]
    exact h3.swap

end Go.Proofs.Ytfjemjnbemdkgaa
