import Derived.Test.YtdiimonfmdbclaaQ07
import Derived.Test.YtdiimonfmdbclaaChecked
import Derived.KernelRfl
/- What functions of the program ask of plain values: printed, and held against the code by the kernel. -/
namespace Go.Proofs.Ytdiimonfmdbclaa
open Go.Eng
set_option maxRecDepth 100000
set_option linter.unusedVariables false

/-- (*ponder/order.Set[ponder/book.page[ponder/alpha.number, ponder/api.Elem]]).All -/
def G_order_Set_book_page_alpha_number_api_Elem_All.sh (a0 : Option Addr) (u0 : Mem) (R : PV → Mem → Prop) : Prop :=
  R (.fn (.func 81) [] [(.fptr [(.raw (.pointer a0))] 0)]) u0

theorem G_order_Set_book_page_alpha_number_api_Elem_All.ok (a0 : Option Addr) (u0 : Mem) (R : PV → Mem → Prop) : G_order_Set_book_page_alpha_number_api_Elem_All.sh a0 u0 R = VF ⟨Try.prog, 4, [], [], [], [], [1], [], []⟩ ((Try.f66.body).getD .skip) [.tmp 2] [(.raw (.pointer a0))] u0 R := by kernel_rfl

theorem G_order_Set_book_page_alpha_number_api_Elem_All.c {a0 : Option Addr} {u0 : Mem} {K : PV → Mem → Prop} (h : G_order_Set_book_page_alpha_number_api_Elem_All.sh a0 u0 K) : CallP Try.prog 66 [(.raw (.pointer a0))] u0 K :=
  VF_sound (E := ⟨Try.prog, 4, [], [], [], [], [1], [], []⟩) (rs := [.tmp 2]) Try.func66 rfl rfl rfl (by kernel_rfl) (by kernel_rfl) (G_order_Set_book_page_alpha_number_api_Elem_All.ok a0 u0 K ▸ h)


/-- ponder/test.Cond -/
def G_test_Cond.sh (a0a : Int) (a0b : Bool) (a0c : ByteArray) (a0df : Fl) (a0d : List (List PV)) (a0ef : Fl) (a0e : List (List PV)) (a0f : Bool) (a0gf : Fl) (a0g : List (List PV)) (a1a : Int) (a1b : ByteArray) (a1c : Int) (a1d : Int) (a1e : ByteArray) (a1f : Int) (a1g : Int) (a1h : ByteArray) (a1i : Int) (a1j : Bool) (a1k : Bool) (a1l : Int) (a2f : Fl) (a2 : List (List PV)) (u0 : Mem) (R : PV → Mem → Prop) : Prop :=
  CJoin (α := Unit) (fun J =>
    CIf ((a0a : Int) != (1))
    (CIf ((a0a : Int) != (2))
      (R (.tup [(.list 4 .nil []), (pB false)]) u0)
      (CIf a0b
        (CIf (!a1k)
          (R (.tup [(.list 4 .nil []), (pB false)]) u0)
          (CIf (!(a0f == a1j))
            (R (.tup [(.list 4 .nil []), (pB false)]) u0)
            (J () u0)))
        (CIf (!(a0f == a1j))
          (R (.tup [(.list 4 .nil []), (pB false)]) u0)
          (J () u0))))
    (CIf a0b
      (CIf (!a1k)
        (R (.tup [(.list 4 .nil []), (pB false)]) u0)
        (CIf (!(a0f == a1j))
          (R (.tup [(.list 4 .nil []), (pB false)]) u0)
          (J () u0)))
      (CIf (!(a0f == a1j))
        (R (.tup [(.list 4 .nil []), (pB false)]) u0)
        (J () u0))))
  (fun s u =>
    CallP Try.prog 83 [(.agg [(pI (1)), (pS a0c), (pI (0)), (pS ⟨#[]⟩), (pI (0)), (.list 3 .sh [])]), (.agg [(pI a1a), (pS a1b), (pI a1c)]), (.list 4 a2f a2)] u fun v u_1 =>
    ∃ (x41pf : Fl) (x41p : List (List PV)), ∃ (x41q : Bool), v = (.tup [(.list 4 x41pf x41p), (pB x41q)]) ∧
    CIf (!x41q)
    (R (.tup [(.list 4 .nil []), (pB false)]) u_1)
    (CallP Try.prog 84 [(.list 6 a0df a0d), (.agg [(pI a1d), (pS a1e), (pI a1f)]), (.list 4 x41pf x41p)] u_1 fun v_1 u_2 =>
      ∃ (x52pf : Fl) (x52p : List (List PV)), ∃ (x52q : Bool), v_1 = (.tup [(.list 4 x52pf x52p), (pB x52q)]) ∧
      CIf (!x52q)
      (R (.tup [(.list 4 .nil []), (pB false)]) u_2)
      (CallP Try.prog 84 [(.list 6 a0ef a0e), (.agg [(pI a1g), (pS a1h), (pI a1i)]), (.list 4 x52pf x52p)] u_2 fun v_2 u_3 =>
        ∃ (x63pf : Fl) (x63p : List (List PV)), ∃ (x63q : Bool), v_2 = (.tup [(.list 4 x63pf x63p), (pB x63q)]) ∧
        CIf (!x63q)
        (R (.tup [(.list 4 .nil []), (pB false)]) u_3)
        (CallP Try.prog 85 [(.list 4 x63pf x63p)] u_3 fun v_3 u_4 =>
          ∃ (x69f : Fl) (x69 : List (List PV)), v_3 = (.list 4 x69f x69) ∧
          R (.tup [(.list 4 x69f x69), (pB true)]) u_4))))

theorem G_test_Cond.ok (a0a : Int) (a0b : Bool) (a0c : ByteArray) (a0df : Fl) (a0d : List (List PV)) (a0ef : Fl) (a0e : List (List PV)) (a0f : Bool) (a0gf : Fl) (a0g : List (List PV)) (a1a : Int) (a1b : ByteArray) (a1c : Int) (a1d : Int) (a1e : ByteArray) (a1f : Int) (a1g : Int) (a1h : ByteArray) (a1i : Int) (a1j : Bool) (a1k : Bool) (a1l : Int) (a2f : Fl) (a2 : List (List PV)) (u0 : Mem) (R : PV → Mem → Prop) : G_test_Cond.sh a0a a0b a0c a0df a0d a0ef a0e a0f a0gf a0g a1a a1b a1c a1d a1e a1f a1g a1h a1i a1j a1k a1l a2f a2 u0 R = VF ⟨Try.prog, 70, [3, 4], [], [(3, ⟨[], []⟩)], [], [], [], []⟩ ((Try.f67.body).getD .skip) [.tmp 6, .tmp 7] [(.agg [(pI a0a), (pB a0b), (pS a0c), (.list 6 a0df a0d), (.list 6 a0ef a0e), (pB a0f), (.list 7 a0gf a0g)]), (.agg [(pI a1a), (pS a1b), (pI a1c), (pI a1d), (pS a1e), (pI a1f), (pI a1g), (pS a1h), (pI a1i), (pB a1j), (pB a1k), (pI a1l)]), (.list 4 a2f a2)] u0 R := by kernel_rfl

theorem G_test_Cond.c {a0a : Int} {a0b : Bool} {a0c : ByteArray} {a0df : Fl} {a0d : List (List PV)} {a0ef : Fl} {a0e : List (List PV)} {a0f : Bool} {a0gf : Fl} {a0g : List (List PV)} {a1a : Int} {a1b : ByteArray} {a1c : Int} {a1d : Int} {a1e : ByteArray} {a1f : Int} {a1g : Int} {a1h : ByteArray} {a1i : Int} {a1j : Bool} {a1k : Bool} {a1l : Int} {a2f : Fl} {a2 : List (List PV)} {u0 : Mem} {K : PV → Mem → Prop} (h : G_test_Cond.sh a0a a0b a0c a0df a0d a0ef a0e a0f a0gf a0g a1a a1b a1c a1d a1e a1f a1g a1h a1i a1j a1k a1l a2f a2 u0 K) : CallP Try.prog 67 [(.agg [(pI a0a), (pB a0b), (pS a0c), (.list 6 a0df a0d), (.list 6 a0ef a0e), (pB a0f), (.list 7 a0gf a0g)]), (.agg [(pI a1a), (pS a1b), (pI a1c), (pI a1d), (pS a1e), (pI a1f), (pI a1g), (pS a1h), (pI a1i), (pB a1j), (pB a1k), (pI a1l)]), (.list 4 a2f a2)] u0 K :=
  VF_sound (E := ⟨Try.prog, 70, [3, 4], [], [(3, ⟨[], []⟩)], [], [], [], []⟩) (rs := [.tmp 6, .tmp 7]) Try.func67 rfl rfl rfl (by kernel_rfl) (by kernel_rfl) (G_test_Cond.ok a0a a0b a0c a0df a0d a0ef a0e a0f a0gf a0g a1a a1b a1c a1d a1e a1f a1g a1h a1i a1j a1k a1l a2f a2 u0 K ▸ h)


/-- ponder/test.Cond -/
def G_test_Cond_w.sh (a0a : Int) (a0b : Bool) (a0c : ByteArray) (a0df : Fl) (a0d : List (List PV)) (a0ef : Fl) (a0e : List (List PV)) (a0f : Bool) (a0gf : Fl) (a0g : List (List PV)) (a1a : Int) (a1b : ByteArray) (a1c : Int) (a1d : Int) (a1e : ByteArray) (a1f : Int) (a1g : Int) (a1h : ByteArray) (a1i : Int) (a1j : Bool) (a1k : Bool) (a1l : Int) (a2f : Fl) (a2 : List (List PV)) (u0 : Mem) (R : PV → Mem → Prop) : Prop :=
  CJoin (α := Unit) (fun J =>
    CIf ((a0a : Int) != (1))
    (CIf ((a0a : Int) != (2))
      (R (.tup [(.list 4 .nil []), (pB false)]) u0)
      (CIf a0b
        (CIf (!a1k)
          (R (.tup [(.list 4 .nil []), (pB false)]) u0)
          (CIf (!(a0f == a1j))
            (R (.tup [(.list 4 .nil []), (pB false)]) u0)
            (J () u0)))
        (CIf (!(a0f == a1j))
          (R (.tup [(.list 4 .nil []), (pB false)]) u0)
          (J () u0))))
    (CIf a0b
      (CIf (!a1k)
        (R (.tup [(.list 4 .nil []), (pB false)]) u0)
        (CIf (!(a0f == a1j))
          (R (.tup [(.list 4 .nil []), (pB false)]) u0)
          (J () u0)))
      (CIf (!(a0f == a1j))
        (R (.tup [(.list 4 .nil []), (pB false)]) u0)
        (J () u0))))
  (fun s u =>
    CallP Try.prog 83 [(.agg [(pI (1)), (pS a0c), (pI (0)), (pS ⟨#[]⟩), (pI (0)), (.list 3 .sh [])]), (.agg [(pI a1a), (pS a1b), (pI a1c)]), (.list 4 a2f a2)] u fun v u_1 =>
    ∃ (x41pf : Fl) (x41p : List (List PV)), ∃ (x41q : Bool), v = (.tup [(.list 4 x41pf x41p), (pB x41q)]) ∧
    CIf (!x41q)
    (R (.tup [(.list 4 .nil []), (pB false)]) u_1)
    (CallP Try.prog 84 [(.list 6 a0df a0d), (.agg [(pI a1d), (pS a1e), (pI a1f)]), (.list 4 x41pf x41p)] u_1 fun v_1 u_2 =>
      ∃ (x52pf : Fl) (x52p : List (List PV)), ∃ (x52q : Bool), v_1 = (.tup [(.list 4 x52pf x52p), (pB x52q)]) ∧
      CIf (!x52q)
      (R (.tup [(.list 4 .nil []), (pB false)]) u_2)
      (CallP Try.prog 84 [(.list 6 a0ef a0e), (.agg [(pI a1g), (pS a1h), (pI a1i)]), (.list 4 x52pf x52p)] u_2 fun v_2 u_3 =>
        ∃ (x63pf : Fl) (x63p : List (List PV)), ∃ (x63q : Bool), v_2 = (.tup [(.list 4 x63pf x63p), (pB x63q)]) ∧
        CIf (!x63q)
        (R (.tup [(.list 4 .nil []), (pB false)]) u_3)
        (CallP Try.prog 85 [(.list 4 x63pf x63p)] u_3 fun v_3 u_4 =>
          ∃ (x69 : Option Addr) (x69n x69c : Nat), v_3 = (.raw (.slice x69 x69n x69c)) ∧
          R (.tup [(.raw (.slice x69 x69n x69c)), (pB true)]) u_4))))

theorem G_test_Cond_w.ok (a0a : Int) (a0b : Bool) (a0c : ByteArray) (a0df : Fl) (a0d : List (List PV)) (a0ef : Fl) (a0e : List (List PV)) (a0f : Bool) (a0gf : Fl) (a0g : List (List PV)) (a1a : Int) (a1b : ByteArray) (a1c : Int) (a1d : Int) (a1e : ByteArray) (a1f : Int) (a1g : Int) (a1h : ByteArray) (a1i : Int) (a1j : Bool) (a1k : Bool) (a1l : Int) (a2f : Fl) (a2 : List (List PV)) (u0 : Mem) (R : PV → Mem → Prop) : G_test_Cond_w.sh a0a a0b a0c a0df a0d a0ef a0e a0f a0gf a0g a1a a1b a1c a1d a1e a1f a1g a1h a1i a1j a1k a1l a2f a2 u0 R = VF ⟨Try.prog, 70, [3, 4], [], [(3, ⟨[], []⟩)], [], [], [], [6, 69]⟩ ((Try.f67.body).getD .skip) [.tmp 6, .tmp 7] [(.agg [(pI a0a), (pB a0b), (pS a0c), (.list 6 a0df a0d), (.list 6 a0ef a0e), (pB a0f), (.list 7 a0gf a0g)]), (.agg [(pI a1a), (pS a1b), (pI a1c), (pI a1d), (pS a1e), (pI a1f), (pI a1g), (pS a1h), (pI a1i), (pB a1j), (pB a1k), (pI a1l)]), (.list 4 a2f a2)] u0 R := by kernel_rfl

theorem G_test_Cond_w.c {a0a : Int} {a0b : Bool} {a0c : ByteArray} {a0df : Fl} {a0d : List (List PV)} {a0ef : Fl} {a0e : List (List PV)} {a0f : Bool} {a0gf : Fl} {a0g : List (List PV)} {a1a : Int} {a1b : ByteArray} {a1c : Int} {a1d : Int} {a1e : ByteArray} {a1f : Int} {a1g : Int} {a1h : ByteArray} {a1i : Int} {a1j : Bool} {a1k : Bool} {a1l : Int} {a2f : Fl} {a2 : List (List PV)} {u0 : Mem} {K : PV → Mem → Prop} (h : G_test_Cond_w.sh a0a a0b a0c a0df a0d a0ef a0e a0f a0gf a0g a1a a1b a1c a1d a1e a1f a1g a1h a1i a1j a1k a1l a2f a2 u0 K) : CallP Try.prog 67 [(.agg [(pI a0a), (pB a0b), (pS a0c), (.list 6 a0df a0d), (.list 6 a0ef a0e), (pB a0f), (.list 7 a0gf a0g)]), (.agg [(pI a1a), (pS a1b), (pI a1c), (pI a1d), (pS a1e), (pI a1f), (pI a1g), (pS a1h), (pI a1i), (pB a1j), (pB a1k), (pI a1l)]), (.list 4 a2f a2)] u0 K :=
  VF_sound (E := ⟨Try.prog, 70, [3, 4], [], [(3, ⟨[], []⟩)], [], [], [], [6, 69]⟩) (rs := [.tmp 6, .tmp 7]) Try.func67 rfl rfl rfl (by kernel_rfl) (by kernel_rfl) (G_test_Cond_w.ok a0a a0b a0c a0df a0d a0ef a0e a0f a0gf a0g a1a a1b a1c a1d a1e a1f a1g a1h a1i a1j a1k a1l a2f a2 u0 K ▸ h)


/-- (*ponder/order.Set[ponder/alpha.tagged]).find -/
def G_order_Set_alpha_tagged_find.sh (a0 : Option Addr) (a1a : Int) (a1b : ByteArray) (a1c : Int) (a1d : Int) (a1e : ByteArray) (a1f : Int) (a1g : Int) (a1h : ByteArray) (a1i : Int) (a1j : Bool) (a1k : Bool) (a1l : Int) (u0 : Mem) (R : PV → Mem → Prop) : Prop :=
  nn a0
  (withPtrP (.raw (.pointer a0)) fun b o =>
    ∃ (x13f : Fl) (x13 : List (List PV)), rdM u0 b o 1 = some [(.list 12 x13f x13)] ∧
    LoopI (α := Int × Int) (fun next s u =>
      CIf (decide ((s.1 : Int) < s.2))
      (((2) : Int) ≠ 0 ∧
        nn a0
        (withPtrP (.raw (.pointer a0)) fun b_1 o_1 =>
          ∃ (x27f : Fl) (x27 : List (List PV)), rdM u b_1 o_1 1 = some [(.list 12 x27f x27)] ∧
          (0 : Int) ≤ (IntKind.wrap .i64 (s.1 + (IntKind.wrap .i64 (Int.tdiv (IntKind.wrap .i64 (s.2 - s.1)) (2))))) ∧ ∃ (r29 : List PV), (x27)[Int.toNat (IntKind.wrap .i64 (s.1 + (IntKind.wrap .i64 (Int.tdiv (IntKind.wrap .i64 (s.2 - s.1)) (2)))))]? = some r29 ∧
          ∃ (x30a : Int), ∃ (x30b : ByteArray), ∃ (x30c : Int), ∃ (x30d : Int), ∃ (x30e : ByteArray), ∃ (x30f : Int), ∃ (x30g : Int), ∃ (x30h : ByteArray), ∃ (x30i : Int), ∃ (x30j : Bool), ∃ (x30k : Bool), ∃ (x30l : Int), rowM r29 0 12 = some [(pI x30a), (pS x30b), (pI x30c), (pI x30d), (pS x30e), (pI x30f), (pI x30g), (pS x30h), (pI x30i), (pB x30j), (pB x30k), (pI x30l)] ∧
          (∀ v, pv Try.prog (method (Try.prog.types.size + Made.depth) 85 v "Compare") = some (115, v)) ∧
          CallP Try.prog 115 [(.agg [(pI x30a), (pS x30b), (pI x30c), (pI x30d), (pS x30e), (pI x30f), (pI x30g), (pS x30h), (pI x30i), (pB x30j), (pB x30k), (pI x30l)]), (.agg [(pI a1a), (pS a1b), (pI a1c), (pI a1d), (pS a1e), (pI a1f), (pI a1g), (pS a1h), (pI a1i), (pB a1j), (pB a1k), (pI a1l)])] u fun v u_1 =>
          ∃ (x33 : Int), v = (pI x33) ∧
          CIf ((x33 : Int) == (0))
          (R (.tup [(pI (IntKind.wrap .i64 (s.1 + (IntKind.wrap .i64 (Int.tdiv (IntKind.wrap .i64 (s.2 - s.1)) (2)))))), (pB true)]) u_1)
          (CIf (decide ((x33 : Int) < (0)))
            (next ((IntKind.wrap .i64 ((IntKind.wrap .i64 (s.1 + (IntKind.wrap .i64 (Int.tdiv (IntKind.wrap .i64 (s.2 - s.1)) (2))))) + (1))), s.2) u_1)
            (next (s.1, (IntKind.wrap .i64 (s.1 + (IntKind.wrap .i64 (Int.tdiv (IntKind.wrap .i64 (s.2 - s.1)) (2)))))) u_1))))
      (R (.tup [(pI s.1), (pB false)]) u))
    ((0), ((List.length x13 : Nat) : Int)) u0)

theorem G_order_Set_alpha_tagged_find.ok (a0 : Option Addr) (a1a : Int) (a1b : ByteArray) (a1c : Int) (a1d : Int) (a1e : ByteArray) (a1f : Int) (a1g : Int) (a1h : ByteArray) (a1i : Int) (a1j : Bool) (a1k : Bool) (a1l : Int) (u0 : Mem) (R : PV → Mem → Prop) : G_order_Set_alpha_tagged_find.sh a0 a1a a1b a1c a1d a1e a1f a1g a1h a1i a1j a1k a1l u0 R = VF ⟨Try.prog, 43, [3], [(2, ⟨[(6, .one (.raw (.int .i64))), (7, .one (.raw (.int .i64)))], []⟩)], [], [], [], [], []⟩ ((Try.f68.body).getD .skip) [.tmp 4, .tmp 5] [(.raw (.pointer a0)), (.agg [(pI a1a), (pS a1b), (pI a1c), (pI a1d), (pS a1e), (pI a1f), (pI a1g), (pS a1h), (pI a1i), (pB a1j), (pB a1k), (pI a1l)])] u0 R := by kernel_rfl

theorem G_order_Set_alpha_tagged_find.c {a0 : Option Addr} {a1a : Int} {a1b : ByteArray} {a1c : Int} {a1d : Int} {a1e : ByteArray} {a1f : Int} {a1g : Int} {a1h : ByteArray} {a1i : Int} {a1j : Bool} {a1k : Bool} {a1l : Int} {u0 : Mem} {K : PV → Mem → Prop} (h : G_order_Set_alpha_tagged_find.sh a0 a1a a1b a1c a1d a1e a1f a1g a1h a1i a1j a1k a1l u0 K) : CallP Try.prog 68 [(.raw (.pointer a0)), (.agg [(pI a1a), (pS a1b), (pI a1c), (pI a1d), (pS a1e), (pI a1f), (pI a1g), (pS a1h), (pI a1i), (pB a1j), (pB a1k), (pI a1l)])] u0 K :=
  VF_sound (E := ⟨Try.prog, 43, [3], [(2, ⟨[(6, .one (.raw (.int .i64))), (7, .one (.raw (.int .i64)))], []⟩)], [], [], [], [], []⟩) (rs := [.tmp 4, .tmp 5]) Try.func68 rfl rfl rfl (by kernel_rfl) (by kernel_rfl) (G_order_Set_alpha_tagged_find.ok a0 a1a a1b a1c a1d a1e a1f a1g a1h a1i a1j a1k a1l u0 K ▸ h)


/-- (*ponder/order.Set[ponder/alpha.tagged]).find -/
def G_order_Set_alpha_tagged_find_r.sh (a0 : Option Addr) (a1a : Int) (a1b : ByteArray) (a1c : Int) (a1d : Int) (a1e : ByteArray) (a1f : Int) (a1g : Int) (a1h : ByteArray) (a1i : Int) (a1j : Bool) (a1k : Bool) (a1l : Int) (u0 : Mem) (R : PV → Mem → Prop) : Prop :=
  nn a0
  (withPtrP (.raw (.pointer a0)) fun b o =>
    ∃ (x13 : Option Addr) (x13n x13c : Nat), rdM u0 b o 1 = some [(.raw (.slice x13 x13n x13c))] ∧
    LoopI (α := Int × Int) (fun next s u =>
      CIf (decide ((s.1 : Int) < s.2))
      (((2) : Int) ≠ 0 ∧
        nn a0
        (withPtrP (.raw (.pointer a0)) fun b_1 o_1 =>
          ∃ (x27 : Option Addr) (x27n x27c : Nat), rdM u b_1 o_1 1 = some [(.raw (.slice x27 x27n x27c))] ∧
          withSl x27 fun b_2 o_2 =>
          (0 : Int) ≤ (IntKind.wrap .i64 (s.1 + (IntKind.wrap .i64 (Int.tdiv (IntKind.wrap .i64 (s.2 - s.1)) (2))))) ∧ (IntKind.wrap .i64 (s.1 + (IntKind.wrap .i64 (Int.tdiv (IntKind.wrap .i64 (s.2 - s.1)) (2))))) < ((x27n : Nat) : Int) ∧
          ∃ (x30a : Int), ∃ (x30b : ByteArray), ∃ (x30c : Int), ∃ (x30d : Int), ∃ (x30e : ByteArray), ∃ (x30f : Int), ∃ (x30g : Int), ∃ (x30h : ByteArray), ∃ (x30i : Int), ∃ (x30j : Bool), ∃ (x30k : Bool), ∃ (x30l : Int), rdM u b_2 (o_2 + Int.toNat (IntKind.wrap .i64 (s.1 + (IntKind.wrap .i64 (Int.tdiv (IntKind.wrap .i64 (s.2 - s.1)) (2))))) * 12) 12 = some [(pI x30a), (pS x30b), (pI x30c), (pI x30d), (pS x30e), (pI x30f), (pI x30g), (pS x30h), (pI x30i), (pB x30j), (pB x30k), (pI x30l)] ∧
          (∀ v, pv Try.prog (method (Try.prog.types.size + Made.depth) 85 v "Compare") = some (115, v)) ∧
          CallP Try.prog 115 [(.agg [(pI x30a), (pS x30b), (pI x30c), (pI x30d), (pS x30e), (pI x30f), (pI x30g), (pS x30h), (pI x30i), (pB x30j), (pB x30k), (pI x30l)]), (.agg [(pI a1a), (pS a1b), (pI a1c), (pI a1d), (pS a1e), (pI a1f), (pI a1g), (pS a1h), (pI a1i), (pB a1j), (pB a1k), (pI a1l)])] u fun v u_1 =>
          ∃ (x33 : Int), v = (pI x33) ∧
          CIf ((x33 : Int) == (0))
          (R (.tup [(pI (IntKind.wrap .i64 (s.1 + (IntKind.wrap .i64 (Int.tdiv (IntKind.wrap .i64 (s.2 - s.1)) (2)))))), (pB true)]) u_1)
          (CIf (decide ((x33 : Int) < (0)))
            (next ((IntKind.wrap .i64 ((IntKind.wrap .i64 (s.1 + (IntKind.wrap .i64 (Int.tdiv (IntKind.wrap .i64 (s.2 - s.1)) (2))))) + (1))), s.2) u_1)
            (next (s.1, (IntKind.wrap .i64 (s.1 + (IntKind.wrap .i64 (Int.tdiv (IntKind.wrap .i64 (s.2 - s.1)) (2)))))) u_1))))
      (R (.tup [(pI s.1), (pB false)]) u))
    ((0), ((x13n : Nat) : Int)) u0)

theorem G_order_Set_alpha_tagged_find_r.ok (a0 : Option Addr) (a1a : Int) (a1b : ByteArray) (a1c : Int) (a1d : Int) (a1e : ByteArray) (a1f : Int) (a1g : Int) (a1h : ByteArray) (a1i : Int) (a1j : Bool) (a1k : Bool) (a1l : Int) (u0 : Mem) (R : PV → Mem → Prop) : G_order_Set_alpha_tagged_find_r.sh a0 a1a a1b a1c a1d a1e a1f a1g a1h a1i a1j a1k a1l u0 R = VF ⟨Try.prog, 43, [3], [(2, ⟨[(6, .one (.raw (.int .i64))), (7, .one (.raw (.int .i64)))], []⟩)], [], [], [], [], [13, 27]⟩ ((Try.f68.body).getD .skip) [.tmp 4, .tmp 5] [(.raw (.pointer a0)), (.agg [(pI a1a), (pS a1b), (pI a1c), (pI a1d), (pS a1e), (pI a1f), (pI a1g), (pS a1h), (pI a1i), (pB a1j), (pB a1k), (pI a1l)])] u0 R := by kernel_rfl

theorem G_order_Set_alpha_tagged_find_r.c {a0 : Option Addr} {a1a : Int} {a1b : ByteArray} {a1c : Int} {a1d : Int} {a1e : ByteArray} {a1f : Int} {a1g : Int} {a1h : ByteArray} {a1i : Int} {a1j : Bool} {a1k : Bool} {a1l : Int} {u0 : Mem} {K : PV → Mem → Prop} (h : G_order_Set_alpha_tagged_find_r.sh a0 a1a a1b a1c a1d a1e a1f a1g a1h a1i a1j a1k a1l u0 K) : CallP Try.prog 68 [(.raw (.pointer a0)), (.agg [(pI a1a), (pS a1b), (pI a1c), (pI a1d), (pS a1e), (pI a1f), (pI a1g), (pS a1h), (pI a1i), (pB a1j), (pB a1k), (pI a1l)])] u0 K :=
  VF_sound (E := ⟨Try.prog, 43, [3], [(2, ⟨[(6, .one (.raw (.int .i64))), (7, .one (.raw (.int .i64)))], []⟩)], [], [], [], [], [13, 27]⟩) (rs := [.tmp 4, .tmp 5]) Try.func68 rfl rfl rfl (by kernel_rfl) (by kernel_rfl) (G_order_Set_alpha_tagged_find_r.ok a0 a1a a1b a1c a1d a1e a1f a1g a1h a1i a1j a1k a1l u0 K ▸ h)


/-- (*ponder/order.Set[ponder/alpha.tagged]).own -/
def G_order_Set_alpha_tagged_own.sh (a0 : Option Addr) (u0 : Mem) (R : PV → Mem → Prop) : Prop :=
  nn a0
  (withPtrP (.raw (.pointer a0)) fun b o =>
    ∃ (x5 : Bool), rdM u0 b (o + 1) 1 = some [(pB x5)] ∧
    CIf x5
    (nn a0
      (withPtrP (.raw (.pointer a0)) fun b_1 o_1 =>
        ∃ (x10f : Fl) (x10 : List (List PV)), rdM u0 b_1 o_1 1 = some [(.list 12 x10f x10)] ∧
        nn a0
        (withPtrP (.raw (.pointer a0)) fun b_2 o_2 =>
          ∃ (x17f : Fl) (x17 : List (List PV)), rdM u0 b_2 o_2 1 = some [(.list 12 x17f x17)] ∧
          (0 : Int) ≤ (0) ∧ (0) ≤ (IntKind.wrap .i64 (((List.length x10 : Nat) : Int) + (1))) ∧ (IntKind.wrap .i64 (((List.length x10 : Nat) : Int) + (1))) < (4611686018427387904 : Int) ∧ Int.toNat (IntKind.wrap .i64 (((List.length x10 : Nat) : Int) + (1))) * 112 ≤ 140737488355328 ∧
          ∀ (b13 : Nat), u0 b13 = none →
          appR 12 112 85 (some ⟨b13, 0, none⟩) (Int.toNat (0)) (Int.toNat (IntKind.wrap .i64 (((List.length x10 : Nat) : Int) + (1)))) (.list 12 x17f x17) (Mem.set u0 b13 (some (.cells 85 (List.flatten (List.replicate (Int.toNat (IntKind.wrap .i64 (((List.length x10 : Nat) : Int) + (1)))) [(pI (0)), (pS ⟨#[]⟩), (pI (0)), (pI (0)), (pS ⟨#[]⟩), (pI (0)), (pI (0)), (pS ⟨#[]⟩), (pI (0)), (pB false), (pB false), (pI (0))]))))) fun s18 s18n s18c u =>
          nn a0
          (withPtrP (.raw (.pointer a0)) fun b_3 o_3 =>
            stM b_3 o_3 [(.raw (.slice s18 s18n s18c))] u fun u_1 =>
            nn a0
            (withPtrP (.raw (.pointer a0)) fun b_4 o_4 =>
              stM b_4 (o_4 + 1) [(pB false)] u_1 fun u_2 =>
              R (.tup []) u_2)))))
    (R (.tup []) u0))

theorem G_order_Set_alpha_tagged_own.ok (a0 : Option Addr) (u0 : Mem) (R : PV → Mem → Prop) : G_order_Set_alpha_tagged_own.sh a0 u0 R = VF ⟨Try.prog, 24, [], [], [], [], [], [], []⟩ ((Try.f69.body).getD .skip) [] [(.raw (.pointer a0))] u0 R := by kernel_rfl

theorem G_order_Set_alpha_tagged_own.c {a0 : Option Addr} {u0 : Mem} {K : PV → Mem → Prop} (h : G_order_Set_alpha_tagged_own.sh a0 u0 K) : CallP Try.prog 69 [(.raw (.pointer a0))] u0 K :=
  VF_sound (E := ⟨Try.prog, 24, [], [], [], [], [], [], []⟩) (rs := []) Try.func69 rfl rfl rfl (by kernel_rfl) (by kernel_rfl) (G_order_Set_alpha_tagged_own.ok a0 u0 K ▸ h)


/-- (*ponder/order.Set[ponder/book.page[ponder/alpha.number, ponder/alpha.memory]]).Len -/
def G_order_Set_book_page_alpha_number_alpha_memory_Len.sh (a0 : Option Addr) (u0 : Mem) (R : PV → Mem → Prop) : Prop :=
  CIf (Option.isNone a0)
  (R (pI (0)) u0)
  (nn a0
    (withPtrP (.raw (.pointer a0)) fun b o =>
      ∃ (x8f : Fl) (x8 : List (List PV)), rdM u0 b o 1 = some [(.list 10 x8f x8)] ∧
      R (pI ((List.length x8 : Nat) : Int)) u0))

theorem G_order_Set_book_page_alpha_number_alpha_memory_Len.ok (a0 : Option Addr) (u0 : Mem) (R : PV → Mem → Prop) : G_order_Set_book_page_alpha_number_alpha_memory_Len.sh a0 u0 R = VF ⟨Try.prog, 10, [], [], [], [], [], [], []⟩ ((Try.f70.body).getD .skip) [.tmp 2] [(.raw (.pointer a0))] u0 R := by kernel_rfl

theorem G_order_Set_book_page_alpha_number_alpha_memory_Len.c {a0 : Option Addr} {u0 : Mem} {K : PV → Mem → Prop} (h : G_order_Set_book_page_alpha_number_alpha_memory_Len.sh a0 u0 K) : CallP Try.prog 70 [(.raw (.pointer a0))] u0 K :=
  VF_sound (E := ⟨Try.prog, 10, [], [], [], [], [], [], []⟩) (rs := [.tmp 2]) Try.func70 rfl rfl rfl (by kernel_rfl) (by kernel_rfl) (G_order_Set_book_page_alpha_number_alpha_memory_Len.ok a0 u0 K ▸ h)


/-- (*ponder/order.Set[ponder/book.page[ponder/alpha.number, ponder/api.Elem]]).Get -/
def G_order_Set_book_page_alpha_number_api_Elem_Get.sh (a0 : Option Addr) (a1a : Int) (a1b : Int) (a1c : ByteArray) (a1d : Int) (a1e : Int) (a1f : ByteArray) (a1g : Int) (a1h : Int) (a1i : ByteArray) (a1j : Int) (a1k : Bool) (a1l : Bool) (a1m : Int) (u0 : Mem) (R : PV → Mem → Prop) : Prop :=
  CIf (Option.isNone a0)
  (R (.tup [(.agg [(pI (0)), (pI (0)), (pS ⟨#[]⟩), (pI (0)), (pI (0)), (pS ⟨#[]⟩), (pI (0)), (pI (0)), (pS ⟨#[]⟩), (pI (0)), (pB false), (pB false), (pI (0))]), (pB false)]) u0)
  (CallP Try.prog 86 [(.raw (.pointer a0)), (.agg [(pI a1a), (pI a1b), (pS a1c), (pI a1d), (pI a1e), (pS a1f), (pI a1g), (pI a1h), (pS a1i), (pI a1j), (pB a1k), (pB a1l), (pI a1m)])] u0 fun v u =>
    ∃ (x15p : Int), ∃ (x15q : Bool), v = (.tup [(pI x15p), (pB x15q)]) ∧
    CIf (!x15q)
    (R (.tup [(.agg [(pI (0)), (pI (0)), (pS ⟨#[]⟩), (pI (0)), (pI (0)), (pS ⟨#[]⟩), (pI (0)), (pI (0)), (pS ⟨#[]⟩), (pI (0)), (pB false), (pB false), (pI (0))]), (pB false)]) u)
    (nn a0
      (withPtrP (.raw (.pointer a0)) fun b o =>
        ∃ (x24f : Fl) (x24 : List (List PV)), rdM u b o 1 = some [(.list 13 x24f x24)] ∧
        (0 : Int) ≤ x15p ∧ ∃ (r26 : List PV), (x24)[Int.toNat x15p]? = some r26 ∧
        ∃ (x27a : Int), ∃ (x27b : Int), ∃ (x27c : ByteArray), ∃ (x27d : Int), ∃ (x27e : Int), ∃ (x27f : ByteArray), ∃ (x27g : Int), ∃ (x27h : Int), ∃ (x27i : ByteArray), ∃ (x27j : Int), ∃ (x27k : Bool), ∃ (x27l : Bool), ∃ (x27m : Int), rowM r26 0 13 = some [(pI x27a), (pI x27b), (pS x27c), (pI x27d), (pI x27e), (pS x27f), (pI x27g), (pI x27h), (pS x27i), (pI x27j), (pB x27k), (pB x27l), (pI x27m)] ∧
        R (.tup [(.agg [(pI x27a), (pI x27b), (pS x27c), (pI x27d), (pI x27e), (pS x27f), (pI x27g), (pI x27h), (pS x27i), (pI x27j), (pB x27k), (pB x27l), (pI x27m)]), (pB true)]) u)))

theorem G_order_Set_book_page_alpha_number_api_Elem_Get.ok (a0 : Option Addr) (a1a : Int) (a1b : Int) (a1c : ByteArray) (a1d : Int) (a1e : Int) (a1f : ByteArray) (a1g : Int) (a1h : Int) (a1i : ByteArray) (a1j : Int) (a1k : Bool) (a1l : Bool) (a1m : Int) (u0 : Mem) (R : PV → Mem → Prop) : G_order_Set_book_page_alpha_number_api_Elem_Get.sh a0 a1a a1b a1c a1d a1e a1f a1g a1h a1i a1j a1k a1l a1m u0 R = VF ⟨Try.prog, 28, [3, 4, 6], [], [], [], [], [], []⟩ ((Try.f71.body).getD .skip) [.cell 4 105, .tmp 5] [(.raw (.pointer a0)), (.agg [(pI a1a), (pI a1b), (pS a1c), (pI a1d), (pI a1e), (pS a1f), (pI a1g), (pI a1h), (pS a1i), (pI a1j), (pB a1k), (pB a1l), (pI a1m)])] u0 R := by kernel_rfl

theorem G_order_Set_book_page_alpha_number_api_Elem_Get.c {a0 : Option Addr} {a1a : Int} {a1b : Int} {a1c : ByteArray} {a1d : Int} {a1e : Int} {a1f : ByteArray} {a1g : Int} {a1h : Int} {a1i : ByteArray} {a1j : Int} {a1k : Bool} {a1l : Bool} {a1m : Int} {u0 : Mem} {K : PV → Mem → Prop} (h : G_order_Set_book_page_alpha_number_api_Elem_Get.sh a0 a1a a1b a1c a1d a1e a1f a1g a1h a1i a1j a1k a1l a1m u0 K) : CallP Try.prog 71 [(.raw (.pointer a0)), (.agg [(pI a1a), (pI a1b), (pS a1c), (pI a1d), (pI a1e), (pS a1f), (pI a1g), (pI a1h), (pS a1i), (pI a1j), (pB a1k), (pB a1l), (pI a1m)])] u0 K :=
  VF_sound (E := ⟨Try.prog, 28, [3, 4, 6], [], [], [], [], [], []⟩) (rs := [.cell 4 105, .tmp 5]) Try.func71 rfl rfl rfl (by kernel_rfl) (by kernel_rfl) (G_order_Set_book_page_alpha_number_api_Elem_Get.ok a0 a1a a1b a1c a1d a1e a1f a1g a1h a1i a1j a1k a1l a1m u0 K ▸ h)


/-- (*ponder/order.Set[ponder/book.page[ponder/alpha.number, ponder/api.Elem]]).Get -/
def G_order_Set_book_page_alpha_number_api_Elem_Get_r.sh (a0 : Option Addr) (a1a : Int) (a1b : Int) (a1c : ByteArray) (a1d : Int) (a1e : Int) (a1f : ByteArray) (a1g : Int) (a1h : Int) (a1i : ByteArray) (a1j : Int) (a1k : Bool) (a1l : Bool) (a1m : Int) (u0 : Mem) (R : PV → Mem → Prop) : Prop :=
  CIf (Option.isNone a0)
  (R (.tup [(.agg [(pI (0)), (pI (0)), (pS ⟨#[]⟩), (pI (0)), (pI (0)), (pS ⟨#[]⟩), (pI (0)), (pI (0)), (pS ⟨#[]⟩), (pI (0)), (pB false), (pB false), (pI (0))]), (pB false)]) u0)
  (CallP Try.prog 86 [(.raw (.pointer a0)), (.agg [(pI a1a), (pI a1b), (pS a1c), (pI a1d), (pI a1e), (pS a1f), (pI a1g), (pI a1h), (pS a1i), (pI a1j), (pB a1k), (pB a1l), (pI a1m)])] u0 fun v u =>
    ∃ (x15p : Int), ∃ (x15q : Bool), v = (.tup [(pI x15p), (pB x15q)]) ∧
    CIf (!x15q)
    (R (.tup [(.agg [(pI (0)), (pI (0)), (pS ⟨#[]⟩), (pI (0)), (pI (0)), (pS ⟨#[]⟩), (pI (0)), (pI (0)), (pS ⟨#[]⟩), (pI (0)), (pB false), (pB false), (pI (0))]), (pB false)]) u)
    (nn a0
      (withPtrP (.raw (.pointer a0)) fun b o =>
        ∃ (x24 : Option Addr) (x24n x24c : Nat), rdM u b o 1 = some [(.raw (.slice x24 x24n x24c))] ∧
        withSl x24 fun b_1 o_1 =>
        (0 : Int) ≤ x15p ∧ x15p < ((x24n : Nat) : Int) ∧
        ∃ (x27a : Int), ∃ (x27b : Int), ∃ (x27c : ByteArray), ∃ (x27d : Int), ∃ (x27e : Int), ∃ (x27f : ByteArray), ∃ (x27g : Int), ∃ (x27h : Int), ∃ (x27i : ByteArray), ∃ (x27j : Int), ∃ (x27k : Bool), ∃ (x27l : Bool), ∃ (x27m : Int), rdM u b_1 (o_1 + Int.toNat x15p * 13) 13 = some [(pI x27a), (pI x27b), (pS x27c), (pI x27d), (pI x27e), (pS x27f), (pI x27g), (pI x27h), (pS x27i), (pI x27j), (pB x27k), (pB x27l), (pI x27m)] ∧
        R (.tup [(.agg [(pI x27a), (pI x27b), (pS x27c), (pI x27d), (pI x27e), (pS x27f), (pI x27g), (pI x27h), (pS x27i), (pI x27j), (pB x27k), (pB x27l), (pI x27m)]), (pB true)]) u)))

theorem G_order_Set_book_page_alpha_number_api_Elem_Get_r.ok (a0 : Option Addr) (a1a : Int) (a1b : Int) (a1c : ByteArray) (a1d : Int) (a1e : Int) (a1f : ByteArray) (a1g : Int) (a1h : Int) (a1i : ByteArray) (a1j : Int) (a1k : Bool) (a1l : Bool) (a1m : Int) (u0 : Mem) (R : PV → Mem → Prop) : G_order_Set_book_page_alpha_number_api_Elem_Get_r.sh a0 a1a a1b a1c a1d a1e a1f a1g a1h a1i a1j a1k a1l a1m u0 R = VF ⟨Try.prog, 28, [3, 4, 6], [], [], [], [], [], [24]⟩ ((Try.f71.body).getD .skip) [.cell 4 105, .tmp 5] [(.raw (.pointer a0)), (.agg [(pI a1a), (pI a1b), (pS a1c), (pI a1d), (pI a1e), (pS a1f), (pI a1g), (pI a1h), (pS a1i), (pI a1j), (pB a1k), (pB a1l), (pI a1m)])] u0 R := by kernel_rfl

theorem G_order_Set_book_page_alpha_number_api_Elem_Get_r.c {a0 : Option Addr} {a1a : Int} {a1b : Int} {a1c : ByteArray} {a1d : Int} {a1e : Int} {a1f : ByteArray} {a1g : Int} {a1h : Int} {a1i : ByteArray} {a1j : Int} {a1k : Bool} {a1l : Bool} {a1m : Int} {u0 : Mem} {K : PV → Mem → Prop} (h : G_order_Set_book_page_alpha_number_api_Elem_Get_r.sh a0 a1a a1b a1c a1d a1e a1f a1g a1h a1i a1j a1k a1l a1m u0 K) : CallP Try.prog 71 [(.raw (.pointer a0)), (.agg [(pI a1a), (pI a1b), (pS a1c), (pI a1d), (pI a1e), (pS a1f), (pI a1g), (pI a1h), (pS a1i), (pI a1j), (pB a1k), (pB a1l), (pI a1m)])] u0 K :=
  VF_sound (E := ⟨Try.prog, 28, [3, 4, 6], [], [], [], [], [], [24]⟩) (rs := [.cell 4 105, .tmp 5]) Try.func71 rfl rfl rfl (by kernel_rfl) (by kernel_rfl) (G_order_Set_book_page_alpha_number_api_Elem_Get_r.ok a0 a1a a1b a1c a1d a1e a1f a1g a1h a1i a1j a1k a1l a1m u0 K ▸ h)


/-- ponder/book.at[ponder/alpha.number,ponder/api.Elem] -/
def G_book_at_alpha_number_api_Elem.sh (a0 : Int) (u0 : Mem) (R : PV → Mem → Prop) : Prop :=
  R (.agg [(pI a0), (pI (0)), (pS ⟨#[]⟩), (pI (0)), (pI (0)), (pS ⟨#[]⟩), (pI (0)), (pI (0)), (pS ⟨#[]⟩), (pI (0)), (pB false), (pB false), (pI (0))]) u0

theorem G_book_at_alpha_number_api_Elem.ok (a0 : Int) (u0 : Mem) (R : PV → Mem → Prop) : G_book_at_alpha_number_api_Elem.sh a0 u0 R = VF ⟨Try.prog, 5, [2], [], [], [], [], [], []⟩ ((Try.f72.body).getD .skip) [.cell 2 105] [(pI a0)] u0 R := by kernel_rfl

theorem G_book_at_alpha_number_api_Elem.c {a0 : Int} {u0 : Mem} {K : PV → Mem → Prop} (h : G_book_at_alpha_number_api_Elem.sh a0 u0 K) : CallP Try.prog 72 [(pI a0)] u0 K :=
  VF_sound (E := ⟨Try.prog, 5, [2], [], [], [], [], [], []⟩) (rs := [.cell 2 105]) Try.func72 rfl rfl rfl (by kernel_rfl) (by kernel_rfl) (G_book_at_alpha_number_api_Elem.ok a0 u0 K ▸ h)


/-- (*ponder/order.Set[ponder/book.page[ponder/alpha.number, ponder/api.Elem]]).Put -/
def G_order_Set_book_page_alpha_number_api_Elem_Put.sh (a0 : Option Addr) (a1a : Int) (a1b : Int) (a1c : ByteArray) (a1d : Int) (a1e : Int) (a1f : ByteArray) (a1g : Int) (a1h : Int) (a1i : ByteArray) (a1j : Int) (a1k : Bool) (a1l : Bool) (a1m : Int) (u0 : Mem) (R : PV → Mem → Prop) : Prop :=
  CIf (Option.isNone a0)
  (R (pB false) u0)
  (CallP Try.prog 86 [(.raw (.pointer a0)), (.agg [(pI a1a), (pI a1b), (pS a1c), (pI a1d), (pI a1e), (pS a1f), (pI a1g), (pI a1h), (pS a1i), (pI a1j), (pB a1k), (pB a1l), (pI a1m)])] u0 fun v u =>
    ∃ (x13p : Int), ∃ (x13q : Bool), v = (.tup [(pI x13p), (pB x13q)]) ∧
    CIf x13q
    (R (pB false) u)
    (CallP Try.prog 87 [(.raw (.pointer a0))] u fun v_1 u_1 =>
       v_1 = (.tup []) ∧
      nn a0
      (withPtrP (.raw (.pointer a0)) fun b o =>
        ∃ (x23 : Option Addr) (x23n x23c : Nat), rdM u_1 b o 1 = some [(.raw (.slice x23 x23n x23c))] ∧
        appR 13 120 105 x23 x23n x23c (.list 13 .nr [[(pI a1a), (pI a1b), (pS a1c), (pI a1d), (pI a1e), (pS a1f), (pI a1g), (pI a1h), (pS a1i), (pI a1j), (pB a1k), (pB a1l), (pI a1m)]]) u_1 fun s26 s26n s26c u_2 =>
        nn a0
        (withPtrP (.raw (.pointer a0)) fun b_1 o_1 =>
          stM b_1 o_1 [(.raw (.slice s26 s26n s26c))] u_2 fun u_3 =>
          nn a0
          (withPtrP (.raw (.pointer a0)) fun b_2 o_2 =>
            ∃ (x32 : Option Addr) (x32n x32c : Nat), rdM u_3 b_2 o_2 1 = some [(.raw (.slice x32 x32n x32c))] ∧
            LoopI (α := Int) (fun next s u_4 =>
              CIf (decide ((s : Int) > x13p))
              (nn a0
                (withPtrP (.raw (.pointer a0)) fun b_3 o_3 =>
                  ∃ (x43 : Option Addr) (x43n x43c : Nat), rdM u_4 b_3 o_3 1 = some [(.raw (.slice x43 x43n x43c))] ∧
                  nn a0
                  (withPtrP (.raw (.pointer a0)) fun b_4 o_4 =>
                    ∃ (x48 : Option Addr) (x48n x48c : Nat), rdM u_4 b_4 o_4 1 = some [(.raw (.slice x48 x48n x48c))] ∧
                    withSl x48 fun b_5 o_5 =>
                    (0 : Int) ≤ (IntKind.wrap .i64 (s - (1))) ∧ (IntKind.wrap .i64 (s - (1))) < ((x48n : Nat) : Int) ∧
                    ∃ (x52a : Int), ∃ (x52b : Int), ∃ (x52c : ByteArray), ∃ (x52d : Int), ∃ (x52e : Int), ∃ (x52f : ByteArray), ∃ (x52g : Int), ∃ (x52h : Int), ∃ (x52i : ByteArray), ∃ (x52j : Int), ∃ (x52k : Bool), ∃ (x52l : Bool), ∃ (x52m : Int), rdM u_4 b_5 (o_5 + Int.toNat (IntKind.wrap .i64 (s - (1))) * 13) 13 = some [(pI x52a), (pI x52b), (pS x52c), (pI x52d), (pI x52e), (pS x52f), (pI x52g), (pI x52h), (pS x52i), (pI x52j), (pB x52k), (pB x52l), (pI x52m)] ∧
                    withSl x43 fun b_6 o_6 =>
                    (0 : Int) ≤ s ∧ s < ((x43n : Nat) : Int) ∧
                    stM b_6 (o_6 + Int.toNat s * 13) [(pI x52a), (pI x52b), (pS x52c), (pI x52d), (pI x52e), (pS x52f), (pI x52g), (pI x52h), (pS x52i), (pI x52j), (pB x52k), (pB x52l), (pI x52m)] u_4 fun u_5 =>
                    next (IntKind.wrap .i64 (s - (1))) u_5)))
              (nn a0
                (withPtrP (.raw (.pointer a0)) fun b_7 o_7 =>
                  ∃ (x57 : Option Addr) (x57n x57c : Nat), rdM u_4 b_7 o_7 1 = some [(.raw (.slice x57 x57n x57c))] ∧
                  withSl x57 fun b_8 o_8 =>
                  (0 : Int) ≤ x13p ∧ x13p < ((x57n : Nat) : Int) ∧
                  stM b_8 (o_8 + Int.toNat x13p * 13) [(pI a1a), (pI a1b), (pS a1c), (pI a1d), (pI a1e), (pS a1f), (pI a1g), (pI a1h), (pS a1i), (pI a1j), (pB a1k), (pB a1l), (pI a1m)] u_4 fun u_6 =>
                  R (pB true) u_6)))
            (IntKind.wrap .i64 (((x32n : Nat) : Int) - (1))) u_3)))))

theorem G_order_Set_book_page_alpha_number_api_Elem_Put.ok (a0 : Option Addr) (a1a : Int) (a1b : Int) (a1c : ByteArray) (a1d : Int) (a1e : Int) (a1f : ByteArray) (a1g : Int) (a1h : Int) (a1i : ByteArray) (a1j : Int) (a1k : Bool) (a1l : Bool) (a1m : Int) (u0 : Mem) (R : PV → Mem → Prop) : G_order_Set_book_page_alpha_number_api_Elem_Put.sh a0 a1a a1b a1c a1d a1e a1f a1g a1h a1i a1j a1k a1l a1m u0 R = VF ⟨Try.prog, 61, [3], [(9, ⟨[(7, .one (.raw (.int .i64)))], []⟩)], [], [], [], [], [23, 32, 43, 48, 57]⟩ ((Try.f73.body).getD .skip) [.tmp 4] [(.raw (.pointer a0)), (.agg [(pI a1a), (pI a1b), (pS a1c), (pI a1d), (pI a1e), (pS a1f), (pI a1g), (pI a1h), (pS a1i), (pI a1j), (pB a1k), (pB a1l), (pI a1m)])] u0 R := by kernel_rfl

theorem G_order_Set_book_page_alpha_number_api_Elem_Put.c {a0 : Option Addr} {a1a : Int} {a1b : Int} {a1c : ByteArray} {a1d : Int} {a1e : Int} {a1f : ByteArray} {a1g : Int} {a1h : Int} {a1i : ByteArray} {a1j : Int} {a1k : Bool} {a1l : Bool} {a1m : Int} {u0 : Mem} {K : PV → Mem → Prop} (h : G_order_Set_book_page_alpha_number_api_Elem_Put.sh a0 a1a a1b a1c a1d a1e a1f a1g a1h a1i a1j a1k a1l a1m u0 K) : CallP Try.prog 73 [(.raw (.pointer a0)), (.agg [(pI a1a), (pI a1b), (pS a1c), (pI a1d), (pI a1e), (pS a1f), (pI a1g), (pI a1h), (pS a1i), (pI a1j), (pB a1k), (pB a1l), (pI a1m)])] u0 K :=
  VF_sound (E := ⟨Try.prog, 61, [3], [(9, ⟨[(7, .one (.raw (.int .i64)))], []⟩)], [], [], [], [], [23, 32, 43, 48, 57]⟩) (rs := [.tmp 4]) Try.func73 rfl rfl rfl (by kernel_rfl) (by kernel_rfl) (G_order_Set_book_page_alpha_number_api_Elem_Put.ok a0 a1a a1b a1c a1d a1e a1f a1g a1h a1i a1j a1k a1l a1m u0 K ▸ h)


/-- (*ponder/order.Set[ponder/book.page[ponder/alpha.number, ponder/api.Elem]]).Drop -/
def G_order_Set_book_page_alpha_number_api_Elem_Drop.sh (a0 : Option Addr) (a1a : Int) (a1b : Int) (a1c : ByteArray) (a1d : Int) (a1e : Int) (a1f : ByteArray) (a1g : Int) (a1h : Int) (a1i : ByteArray) (a1j : Int) (a1k : Bool) (a1l : Bool) (a1m : Int) (u0 : Mem) (R : PV → Mem → Prop) : Prop :=
  CIf (Option.isNone a0)
  (R (pB false) u0)
  (CallP Try.prog 86 [(.raw (.pointer a0)), (.agg [(pI a1a), (pI a1b), (pS a1c), (pI a1d), (pI a1e), (pS a1f), (pI a1g), (pI a1h), (pS a1i), (pI a1j), (pB a1k), (pB a1l), (pI a1m)])] u0 fun v u =>
    ∃ (x13p : Int), ∃ (x13q : Bool), v = (.tup [(pI x13p), (pB x13q)]) ∧
    CIf (!x13q)
    (R (pB false) u)
    (CallP Try.prog 87 [(.raw (.pointer a0))] u fun v_1 u_1 =>
       v_1 = (.tup []) ∧
      LoopI (α := Int) (fun next s u_2 =>
        nn a0
        (withPtrP (.raw (.pointer a0)) fun b o =>
          ∃ (x26 : Option Addr) (x26n x26c : Nat), rdM u_2 b o 1 = some [(.raw (.slice x26 x26n x26c))] ∧
          CIf (decide (((IntKind.wrap .i64 (s + (1))) : Int) < ((x26n : Nat) : Int)))
          (nn a0
            (withPtrP (.raw (.pointer a0)) fun b_1 o_1 =>
              ∃ (x34 : Option Addr) (x34n x34c : Nat), rdM u_2 b_1 o_1 1 = some [(.raw (.slice x34 x34n x34c))] ∧
              nn a0
              (withPtrP (.raw (.pointer a0)) fun b_2 o_2 =>
                ∃ (x39 : Option Addr) (x39n x39c : Nat), rdM u_2 b_2 o_2 1 = some [(.raw (.slice x39 x39n x39c))] ∧
                withSl x39 fun b_3 o_3 =>
                (0 : Int) ≤ (IntKind.wrap .i64 (s + (1))) ∧ (IntKind.wrap .i64 (s + (1))) < ((x39n : Nat) : Int) ∧
                ∃ (x43a : Int), ∃ (x43b : Int), ∃ (x43c : ByteArray), ∃ (x43d : Int), ∃ (x43e : Int), ∃ (x43f : ByteArray), ∃ (x43g : Int), ∃ (x43h : Int), ∃ (x43i : ByteArray), ∃ (x43j : Int), ∃ (x43k : Bool), ∃ (x43l : Bool), ∃ (x43m : Int), rdM u_2 b_3 (o_3 + Int.toNat (IntKind.wrap .i64 (s + (1))) * 13) 13 = some [(pI x43a), (pI x43b), (pS x43c), (pI x43d), (pI x43e), (pS x43f), (pI x43g), (pI x43h), (pS x43i), (pI x43j), (pB x43k), (pB x43l), (pI x43m)] ∧
                withSl x34 fun b_4 o_4 =>
                (0 : Int) ≤ s ∧ s < ((x34n : Nat) : Int) ∧
                stM b_4 (o_4 + Int.toNat s * 13) [(pI x43a), (pI x43b), (pS x43c), (pI x43d), (pI x43e), (pS x43f), (pI x43g), (pI x43h), (pS x43i), (pI x43j), (pB x43k), (pB x43l), (pI x43m)] u_2 fun u_3 =>
                next (IntKind.wrap .i64 (s + (1))) u_3)))
          (nn a0
            (withPtrP (.raw (.pointer a0)) fun b_5 o_5 =>
              ∃ (x49 : Option Addr) (x49n x49c : Nat), rdM u_2 b_5 o_5 1 = some [(.raw (.slice x49 x49n x49c))] ∧
              nn a0
              (withPtrP (.raw (.pointer a0)) fun b_6 o_6 =>
                ∃ (x53 : Option Addr) (x53n x53c : Nat), rdM u_2 b_6 o_6 1 = some [(.raw (.slice x53 x53n x53c))] ∧
                noSpot x49 ∧ (0 : Int) ≤ (0 : Int) ∧ (0 : Int) ≤ (IntKind.wrap .i64 (((x53n : Nat) : Int) - (1))) ∧ (IntKind.wrap .i64 (((x53n : Nat) : Int) - (1))) ≤ ((x49c : Nat) : Int) ∧ ((x49c : Nat) : Int) ≤ ((x49c : Nat) : Int) ∧
                nn a0
                (withPtrP (.raw (.pointer a0)) fun b_7 o_7 =>
                  stM b_7 o_7 [(.raw (.slice (slA x49 (Int.toNat (0 : Int)) (Int.toNat ((x49c : Nat) : Int)) 13) (Int.toNat (IntKind.wrap .i64 (((x53n : Nat) : Int) - (1))) - Int.toNat (0 : Int)) (Int.toNat ((x49c : Nat) : Int) - Int.toNat (0 : Int))))] u_2 fun u_4 =>
                  R (pB true) u_4))))))
      x13p u_1))

theorem G_order_Set_book_page_alpha_number_api_Elem_Drop.ok (a0 : Option Addr) (a1a : Int) (a1b : Int) (a1c : ByteArray) (a1d : Int) (a1e : Int) (a1f : ByteArray) (a1g : Int) (a1h : Int) (a1i : ByteArray) (a1j : Int) (a1k : Bool) (a1l : Bool) (a1m : Int) (u0 : Mem) (R : PV → Mem → Prop) : G_order_Set_book_page_alpha_number_api_Elem_Drop.sh a0 a1a a1b a1c a1d a1e a1f a1g a1h a1i a1j a1k a1l a1m u0 R = VF ⟨Try.prog, 59, [3], [(8, ⟨[(7, .one (.raw (.int .i64)))], []⟩)], [], [], [], [], [26, 34, 39, 49, 53, 56]⟩ ((Try.f74.body).getD .skip) [.tmp 4] [(.raw (.pointer a0)), (.agg [(pI a1a), (pI a1b), (pS a1c), (pI a1d), (pI a1e), (pS a1f), (pI a1g), (pI a1h), (pS a1i), (pI a1j), (pB a1k), (pB a1l), (pI a1m)])] u0 R := by kernel_rfl

theorem G_order_Set_book_page_alpha_number_api_Elem_Drop.c {a0 : Option Addr} {a1a : Int} {a1b : Int} {a1c : ByteArray} {a1d : Int} {a1e : Int} {a1f : ByteArray} {a1g : Int} {a1h : Int} {a1i : ByteArray} {a1j : Int} {a1k : Bool} {a1l : Bool} {a1m : Int} {u0 : Mem} {K : PV → Mem → Prop} (h : G_order_Set_book_page_alpha_number_api_Elem_Drop.sh a0 a1a a1b a1c a1d a1e a1f a1g a1h a1i a1j a1k a1l a1m u0 K) : CallP Try.prog 74 [(.raw (.pointer a0)), (.agg [(pI a1a), (pI a1b), (pS a1c), (pI a1d), (pI a1e), (pS a1f), (pI a1g), (pI a1h), (pS a1i), (pI a1j), (pB a1k), (pB a1l), (pI a1m)])] u0 K :=
  VF_sound (E := ⟨Try.prog, 59, [3], [(8, ⟨[(7, .one (.raw (.int .i64)))], []⟩)], [], [], [], [], [26, 34, 39, 49, 53, 56]⟩) (rs := [.tmp 4]) Try.func74 rfl rfl rfl (by kernel_rfl) (by kernel_rfl) (G_order_Set_book_page_alpha_number_api_Elem_Drop.ok a0 a1a a1b a1c a1d a1e a1f a1g a1h a1i a1j a1k a1l a1m u0 K ▸ h)


/-- (*ponder/order.Set[ponder/alpha.tagged]).All$1 -/
def G_order_Set_alpha_tagged_All_1.sh (a0 : Fn) (a0a a0b : List PV) (c0 : List PV) (u0 : Mem) (R : PV → Mem → Prop) : Prop :=
  ∃ (x3 : Option Addr), rowM c0 0 1 = some [(.raw (.pointer x3))] ∧
  CIf (!(Option.isNone x3))
  (∃ (x5 : Option Addr), rowM c0 0 1 = some [(.raw (.pointer x5))] ∧
    CallP Try.prog 76 [(.raw (.pointer x5)), (pI (0)), (.fn a0 a0a a0b)] u0 fun v u =>
     v = (.tup []) ∧
    R (.tup []) u)
  (R (.tup []) u0)

theorem G_order_Set_alpha_tagged_All_1.ok (a0 : Fn) (a0a a0b : List PV) (c0 : List PV) (u0 : Mem) (R : PV → Mem → Prop) : G_order_Set_alpha_tagged_All_1.sh a0 a0a a0b c0 u0 R = VF ⟨Try.prog, 8, [], [], [], [], [], [], []⟩ ((Try.f75.body).getD .skip) [] [(.fn a0 a0a a0b), (.fptr c0 0)] u0 R := by kernel_rfl

theorem G_order_Set_alpha_tagged_All_1.c {a0 : Fn} {a0a a0b : List PV} {c0 : List PV} {u0 : Mem} {K : PV → Mem → Prop} (h : G_order_Set_alpha_tagged_All_1.sh a0 a0a a0b c0 u0 K) : CallP Try.prog 75 [(.fn a0 a0a a0b), (.fptr c0 0)] u0 K :=
  VF_sound (E := ⟨Try.prog, 8, [], [], [], [], [], [], []⟩) (rs := []) Try.func75 rfl rfl rfl (by kernel_rfl) (by kernel_rfl) (G_order_Set_alpha_tagged_All_1.ok a0 a0a a0b c0 u0 K ▸ h)


/-- (*ponder/order.Set[ponder/alpha.tagged]).from -/
def G_order_Set_alpha_tagged_from.sh (a0 : Option Addr) (a1 : Int) (a2 : Fn) (a2a a2b : List PV) (u0 : Mem) (R : PV → Mem → Prop) : Prop :=
  nn a0
  (withPtrP (.raw (.pointer a0)) fun b o =>
    stM b (o + 1) [(pB true)] u0 fun u =>
    nn a0
    (withPtrP (.raw (.pointer a0)) fun b_1 o_1 =>
      ∃ (x14f : Fl) (x14 : List (List PV)), rdM u b_1 o_1 1 = some [(.list 12 x14f x14)] ∧
      LoopI (α := Int) (fun next s u_1 =>
        CIf (decide ((s : Int) < ((List.length x14 : Nat) : Int)))
        ((0 : Int) ≤ s ∧ ∃ (r25 : List PV), (x14)[Int.toNat s]? = some r25 ∧
          ∃ (x26a : Int), ∃ (x26b : ByteArray), ∃ (x26c : Int), ∃ (x26d : Int), ∃ (x26e : ByteArray), ∃ (x26f : Int), ∃ (x26g : Int), ∃ (x26h : ByteArray), ∃ (x26i : Int), ∃ (x26j : Bool), ∃ (x26k : Bool), ∃ (x26l : Int), rowM r25 0 12 = some [(pI x26a), (pS x26b), (pI x26c), (pI x26d), (pS x26e), (pI x26f), (pI x26g), (pS x26h), (pI x26i), (pB x26j), (pB x26k), (pI x26l)] ∧
          CallVP Try.prog (.fn a2 a2a a2b) [(.agg [(pI x26a), (pS x26b), (pI x26c), (pI x26d), (pS x26e), (pI x26f), (pI x26g), (pS x26h), (pI x26i), (pB x26j), (pB x26k), (pI x26l)])] u_1 fun v u_2 =>
          ∃ (x27 : Bool), v = (pB x27) ∧
          CIf (!x27)
          (R (.tup []) u_2)
          (next (IntKind.wrap .i64 (s + (1))) u_2))
        (R (.tup []) u_1))
      a1 u))

theorem G_order_Set_alpha_tagged_from.ok (a0 : Option Addr) (a1 : Int) (a2 : Fn) (a2a a2b : List PV) (u0 : Mem) (R : PV → Mem → Prop) : G_order_Set_alpha_tagged_from.sh a0 a1 a2 a2a a2b u0 R = VF ⟨Try.prog, 29, [], [(3, ⟨[(7, .one (.raw (.int .i64)))], []⟩)], [], [], [], [], []⟩ ((Try.f76.body).getD .skip) [] [(.raw (.pointer a0)), (pI a1), (.fn a2 a2a a2b)] u0 R := by kernel_rfl

theorem G_order_Set_alpha_tagged_from.c {a0 : Option Addr} {a1 : Int} {a2 : Fn} {a2a a2b : List PV} {u0 : Mem} {K : PV → Mem → Prop} (h : G_order_Set_alpha_tagged_from.sh a0 a1 a2 a2a a2b u0 K) : CallP Try.prog 76 [(.raw (.pointer a0)), (pI a1), (.fn a2 a2a a2b)] u0 K :=
  VF_sound (E := ⟨Try.prog, 29, [], [(3, ⟨[(7, .one (.raw (.int .i64)))], []⟩)], [], [], [], [], []⟩) (rs := []) Try.func76 rfl rfl rfl (by kernel_rfl) (by kernel_rfl) (G_order_Set_alpha_tagged_from.ok a0 a1 a2 a2a a2b u0 K ▸ h)


/-- (*ponder/order.Set[ponder/book.page[ponder/alpha.number, ponder/alpha.memory]]).All$1 -/
def G_order_Set_book_page_alpha_number_alpha_memory_All_1.sh (a0 : Fn) (a0a a0b : List PV) (c0 : List PV) (u0 : Mem) (R : PV → Mem → Prop) : Prop :=
  ∃ (x3 : Option Addr), rowM c0 0 1 = some [(.raw (.pointer x3))] ∧
  CIf (!(Option.isNone x3))
  (∃ (x5 : Option Addr), rowM c0 0 1 = some [(.raw (.pointer x5))] ∧
    CallP Try.prog 78 [(.raw (.pointer x5)), (pI (0)), (.fn a0 a0a a0b)] u0 fun v u =>
     v = (.tup []) ∧
    R (.tup []) u)
  (R (.tup []) u0)

theorem G_order_Set_book_page_alpha_number_alpha_memory_All_1.ok (a0 : Fn) (a0a a0b : List PV) (c0 : List PV) (u0 : Mem) (R : PV → Mem → Prop) : G_order_Set_book_page_alpha_number_alpha_memory_All_1.sh a0 a0a a0b c0 u0 R = VF ⟨Try.prog, 8, [], [], [], [], [], [], []⟩ ((Try.f77.body).getD .skip) [] [(.fn a0 a0a a0b), (.fptr c0 0)] u0 R := by kernel_rfl

theorem G_order_Set_book_page_alpha_number_alpha_memory_All_1.c {a0 : Fn} {a0a a0b : List PV} {c0 : List PV} {u0 : Mem} {K : PV → Mem → Prop} (h : G_order_Set_book_page_alpha_number_alpha_memory_All_1.sh a0 a0a a0b c0 u0 K) : CallP Try.prog 77 [(.fn a0 a0a a0b), (.fptr c0 0)] u0 K :=
  VF_sound (E := ⟨Try.prog, 8, [], [], [], [], [], [], []⟩) (rs := []) Try.func77 rfl rfl rfl (by kernel_rfl) (by kernel_rfl) (G_order_Set_book_page_alpha_number_alpha_memory_All_1.ok a0 a0a a0b c0 u0 K ▸ h)


/-- (*ponder/order.Set[ponder/book.page[ponder/alpha.number, ponder/alpha.memory]]).from -/
def G_order_Set_book_page_alpha_number_alpha_memory_from.sh (a0 : Option Addr) (a1 : Int) (a2 : Fn) (a2a a2b : List PV) (u0 : Mem) (R : PV → Mem → Prop) : Prop :=
  nn a0
  (withPtrP (.raw (.pointer a0)) fun b o =>
    stM b (o + 1) [(pB true)] u0 fun u =>
    nn a0
    (withPtrP (.raw (.pointer a0)) fun b_1 o_1 =>
      ∃ (x14f : Fl) (x14 : List (List PV)), rdM u b_1 o_1 1 = some [(.list 10 x14f x14)] ∧
      LoopI (α := Int) (fun next s u_1 =>
        CIf (decide ((s : Int) < ((List.length x14 : Nat) : Int)))
        ((0 : Int) ≤ s ∧ ∃ (r25 : List PV), (x14)[Int.toNat s]? = some r25 ∧
          ∃ (x26a : Int), ∃ (x26b : Int), ∃ (x26c : Bool), ∃ (x26d : ByteArray), ∃ (x26ef : Fl) (x26e : List (List PV)), ∃ (x26ff : Fl) (x26f : List (List PV)), ∃ (x26g : Bool), ∃ (x26hf : Fl) (x26h : List (List PV)), ∃ (x26i : Int), ∃ (x26j : Option Addr), rowM r25 0 10 = some [(pI x26a), (pI x26b), (pB x26c), (pS x26d), (.list 6 x26ef x26e), (.list 6 x26ff x26f), (pB x26g), (.list 7 x26hf x26h), (pI x26i), (.raw (.pointer x26j))] ∧
          CallVP Try.prog (.fn a2 a2a a2b) [(.agg [(pI x26a), (pI x26b), (pB x26c), (pS x26d), (.list 6 .sh x26e), (.list 6 .sh x26f), (pB x26g), (.list 7 .sh x26h), (pI x26i), (.raw (.pointer x26j))])] u_1 fun v u_2 =>
          ∃ (x27 : Bool), v = (pB x27) ∧
          CIf (!x27)
          (R (.tup []) u_2)
          (next (IntKind.wrap .i64 (s + (1))) u_2))
        (R (.tup []) u_1))
      a1 u))

theorem G_order_Set_book_page_alpha_number_alpha_memory_from.ok (a0 : Option Addr) (a1 : Int) (a2 : Fn) (a2a a2b : List PV) (u0 : Mem) (R : PV → Mem → Prop) : G_order_Set_book_page_alpha_number_alpha_memory_from.sh a0 a1 a2 a2a a2b u0 R = VF ⟨Try.prog, 29, [], [(3, ⟨[(7, .one (.raw (.int .i64)))], []⟩)], [], [], [], [], []⟩ ((Try.f78.body).getD .skip) [] [(.raw (.pointer a0)), (pI a1), (.fn a2 a2a a2b)] u0 R := by kernel_rfl

theorem G_order_Set_book_page_alpha_number_alpha_memory_from.c {a0 : Option Addr} {a1 : Int} {a2 : Fn} {a2a a2b : List PV} {u0 : Mem} {K : PV → Mem → Prop} (h : G_order_Set_book_page_alpha_number_alpha_memory_from.sh a0 a1 a2 a2a a2b u0 K) : CallP Try.prog 78 [(.raw (.pointer a0)), (pI a1), (.fn a2 a2a a2b)] u0 K :=
  VF_sound (E := ⟨Try.prog, 29, [], [(3, ⟨[(7, .one (.raw (.int .i64)))], []⟩)], [], [], [], [], []⟩) (rs := []) Try.func78 rfl rfl rfl (by kernel_rfl) (by kernel_rfl) (G_order_Set_book_page_alpha_number_alpha_memory_from.ok a0 a1 a2 a2a a2b u0 K ▸ h)


/-- (*ponder/order.Set[ponder/book.page[ponder/alpha.number, ponder/alpha.memory]]).find -/
def G_order_Set_book_page_alpha_number_alpha_memory_find.sh (a0 : Option Addr) (a1a : Int) (a1b : Int) (a1c : Bool) (a1d : ByteArray) (a1ef : Fl) (a1e : List (List PV)) (a1ff : Fl) (a1f : List (List PV)) (a1g : Bool) (a1hf : Fl) (a1h : List (List PV)) (a1i : Int) (a1j : Option Addr) (u0 : Mem) (R : PV → Mem → Prop) : Prop :=
  nn a0
  (withPtrP (.raw (.pointer a0)) fun b o =>
    ∃ (x13f : Fl) (x13 : List (List PV)), rdM u0 b o 1 = some [(.list 10 x13f x13)] ∧
    LoopI (α := Int × Int) (fun next s u =>
      CIf (decide ((s.1 : Int) < s.2))
      (((2) : Int) ≠ 0 ∧
        nn a0
        (withPtrP (.raw (.pointer a0)) fun b_1 o_1 =>
          ∃ (x27f : Fl) (x27 : List (List PV)), rdM u b_1 o_1 1 = some [(.list 10 x27f x27)] ∧
          (0 : Int) ≤ (IntKind.wrap .i64 (s.1 + (IntKind.wrap .i64 (Int.tdiv (IntKind.wrap .i64 (s.2 - s.1)) (2))))) ∧ ∃ (r29 : List PV), (x27)[Int.toNat (IntKind.wrap .i64 (s.1 + (IntKind.wrap .i64 (Int.tdiv (IntKind.wrap .i64 (s.2 - s.1)) (2)))))]? = some r29 ∧
          ∃ (x30a : Int), ∃ (x30b : Int), ∃ (x30c : Bool), ∃ (x30d : ByteArray), ∃ (x30ef : Fl) (x30e : List (List PV)), ∃ (x30ff : Fl) (x30f : List (List PV)), ∃ (x30g : Bool), ∃ (x30hf : Fl) (x30h : List (List PV)), ∃ (x30i : Int), ∃ (x30j : Option Addr), rowM r29 0 10 = some [(pI x30a), (pI x30b), (pB x30c), (pS x30d), (.list 6 x30ef x30e), (.list 6 x30ff x30f), (pB x30g), (.list 7 x30hf x30h), (pI x30i), (.raw (.pointer x30j))] ∧
          (∀ v, pv Try.prog (method (Try.prog.types.size + Made.depth) 111 v "Compare") = some (118, v)) ∧
          CallP Try.prog 118 [(.agg [(pI x30a), (pI x30b), (pB x30c), (pS x30d), (.list 6 .sh x30e), (.list 6 .sh x30f), (pB x30g), (.list 7 .sh x30h), (pI x30i), (.raw (.pointer x30j))]), (.agg [(pI a1a), (pI a1b), (pB a1c), (pS a1d), (.list 6 .sh a1e), (.list 6 .sh a1f), (pB a1g), (.list 7 .sh a1h), (pI a1i), (.raw (.pointer a1j))])] u fun v u_1 =>
          ∃ (x33 : Int), v = (pI x33) ∧
          CIf ((x33 : Int) == (0))
          (R (.tup [(pI (IntKind.wrap .i64 (s.1 + (IntKind.wrap .i64 (Int.tdiv (IntKind.wrap .i64 (s.2 - s.1)) (2)))))), (pB true)]) u_1)
          (CIf (decide ((x33 : Int) < (0)))
            (next ((IntKind.wrap .i64 ((IntKind.wrap .i64 (s.1 + (IntKind.wrap .i64 (Int.tdiv (IntKind.wrap .i64 (s.2 - s.1)) (2))))) + (1))), s.2) u_1)
            (next (s.1, (IntKind.wrap .i64 (s.1 + (IntKind.wrap .i64 (Int.tdiv (IntKind.wrap .i64 (s.2 - s.1)) (2)))))) u_1))))
      (R (.tup [(pI s.1), (pB false)]) u))
    ((0), ((List.length x13 : Nat) : Int)) u0)

theorem G_order_Set_book_page_alpha_number_alpha_memory_find.ok (a0 : Option Addr) (a1a : Int) (a1b : Int) (a1c : Bool) (a1d : ByteArray) (a1ef : Fl) (a1e : List (List PV)) (a1ff : Fl) (a1f : List (List PV)) (a1g : Bool) (a1hf : Fl) (a1h : List (List PV)) (a1i : Int) (a1j : Option Addr) (u0 : Mem) (R : PV → Mem → Prop) : G_order_Set_book_page_alpha_number_alpha_memory_find.sh a0 a1a a1b a1c a1d a1ef a1e a1ff a1f a1g a1hf a1h a1i a1j u0 R = VF ⟨Try.prog, 43, [3], [(2, ⟨[(6, .one (.raw (.int .i64))), (7, .one (.raw (.int .i64)))], []⟩)], [], [], [], [], []⟩ ((Try.f79.body).getD .skip) [.tmp 4, .tmp 5] [(.raw (.pointer a0)), (.agg [(pI a1a), (pI a1b), (pB a1c), (pS a1d), (.list 6 a1ef a1e), (.list 6 a1ff a1f), (pB a1g), (.list 7 a1hf a1h), (pI a1i), (.raw (.pointer a1j))])] u0 R := by kernel_rfl

theorem G_order_Set_book_page_alpha_number_alpha_memory_find.c {a0 : Option Addr} {a1a : Int} {a1b : Int} {a1c : Bool} {a1d : ByteArray} {a1ef : Fl} {a1e : List (List PV)} {a1ff : Fl} {a1f : List (List PV)} {a1g : Bool} {a1hf : Fl} {a1h : List (List PV)} {a1i : Int} {a1j : Option Addr} {u0 : Mem} {K : PV → Mem → Prop} (h : G_order_Set_book_page_alpha_number_alpha_memory_find.sh a0 a1a a1b a1c a1d a1ef a1e a1ff a1f a1g a1hf a1h a1i a1j u0 K) : CallP Try.prog 79 [(.raw (.pointer a0)), (.agg [(pI a1a), (pI a1b), (pB a1c), (pS a1d), (.list 6 a1ef a1e), (.list 6 a1ff a1f), (pB a1g), (.list 7 a1hf a1h), (pI a1i), (.raw (.pointer a1j))])] u0 K :=
  VF_sound (E := ⟨Try.prog, 43, [3], [(2, ⟨[(6, .one (.raw (.int .i64))), (7, .one (.raw (.int .i64)))], []⟩)], [], [], [], [], []⟩) (rs := [.tmp 4, .tmp 5]) Try.func79 rfl rfl rfl (by kernel_rfl) (by kernel_rfl) (G_order_Set_book_page_alpha_number_alpha_memory_find.ok a0 a1a a1b a1c a1d a1ef a1e a1ff a1f a1g a1hf a1h a1i a1j u0 K ▸ h)


/-- (*ponder/order.Set[ponder/book.page[ponder/alpha.number, ponder/alpha.memory]]).find -/
def G_order_Set_book_page_alpha_number_alpha_memory_find_r.sh (a0 : Option Addr) (a1a : Int) (a1b : Int) (a1c : Bool) (a1d : ByteArray) (a1ef : Fl) (a1e : List (List PV)) (a1ff : Fl) (a1f : List (List PV)) (a1g : Bool) (a1hf : Fl) (a1h : List (List PV)) (a1i : Int) (a1j : Option Addr) (u0 : Mem) (R : PV → Mem → Prop) : Prop :=
  nn a0
  (withPtrP (.raw (.pointer a0)) fun b o =>
    ∃ (x13 : Option Addr) (x13n x13c : Nat), rdM u0 b o 1 = some [(.raw (.slice x13 x13n x13c))] ∧
    LoopI (α := Int × Int) (fun next s u =>
      CIf (decide ((s.1 : Int) < s.2))
      (((2) : Int) ≠ 0 ∧
        nn a0
        (withPtrP (.raw (.pointer a0)) fun b_1 o_1 =>
          ∃ (x27 : Option Addr) (x27n x27c : Nat), rdM u b_1 o_1 1 = some [(.raw (.slice x27 x27n x27c))] ∧
          withSl x27 fun b_2 o_2 =>
          (0 : Int) ≤ (IntKind.wrap .i64 (s.1 + (IntKind.wrap .i64 (Int.tdiv (IntKind.wrap .i64 (s.2 - s.1)) (2))))) ∧ (IntKind.wrap .i64 (s.1 + (IntKind.wrap .i64 (Int.tdiv (IntKind.wrap .i64 (s.2 - s.1)) (2))))) < ((x27n : Nat) : Int) ∧
          ∃ (x30a : Int), ∃ (x30b : Int), ∃ (x30c : Bool), ∃ (x30d : ByteArray), ∃ (x30ef : Fl) (x30e : List (List PV)), ∃ (x30ff : Fl) (x30f : List (List PV)), ∃ (x30g : Bool), ∃ (x30hf : Fl) (x30h : List (List PV)), ∃ (x30i : Int), ∃ (x30j : Option Addr), rdM u b_2 (o_2 + Int.toNat (IntKind.wrap .i64 (s.1 + (IntKind.wrap .i64 (Int.tdiv (IntKind.wrap .i64 (s.2 - s.1)) (2))))) * 10) 10 = some [(pI x30a), (pI x30b), (pB x30c), (pS x30d), (.list 6 x30ef x30e), (.list 6 x30ff x30f), (pB x30g), (.list 7 x30hf x30h), (pI x30i), (.raw (.pointer x30j))] ∧
          (∀ v, pv Try.prog (method (Try.prog.types.size + Made.depth) 111 v "Compare") = some (118, v)) ∧
          CallP Try.prog 118 [(.agg [(pI x30a), (pI x30b), (pB x30c), (pS x30d), (.list 6 .sh x30e), (.list 6 .sh x30f), (pB x30g), (.list 7 .sh x30h), (pI x30i), (.raw (.pointer x30j))]), (.agg [(pI a1a), (pI a1b), (pB a1c), (pS a1d), (.list 6 .sh a1e), (.list 6 .sh a1f), (pB a1g), (.list 7 .sh a1h), (pI a1i), (.raw (.pointer a1j))])] u fun v u_1 =>
          ∃ (x33 : Int), v = (pI x33) ∧
          CIf ((x33 : Int) == (0))
          (R (.tup [(pI (IntKind.wrap .i64 (s.1 + (IntKind.wrap .i64 (Int.tdiv (IntKind.wrap .i64 (s.2 - s.1)) (2)))))), (pB true)]) u_1)
          (CIf (decide ((x33 : Int) < (0)))
            (next ((IntKind.wrap .i64 ((IntKind.wrap .i64 (s.1 + (IntKind.wrap .i64 (Int.tdiv (IntKind.wrap .i64 (s.2 - s.1)) (2))))) + (1))), s.2) u_1)
            (next (s.1, (IntKind.wrap .i64 (s.1 + (IntKind.wrap .i64 (Int.tdiv (IntKind.wrap .i64 (s.2 - s.1)) (2)))))) u_1))))
      (R (.tup [(pI s.1), (pB false)]) u))
    ((0), ((x13n : Nat) : Int)) u0)

theorem G_order_Set_book_page_alpha_number_alpha_memory_find_r.ok (a0 : Option Addr) (a1a : Int) (a1b : Int) (a1c : Bool) (a1d : ByteArray) (a1ef : Fl) (a1e : List (List PV)) (a1ff : Fl) (a1f : List (List PV)) (a1g : Bool) (a1hf : Fl) (a1h : List (List PV)) (a1i : Int) (a1j : Option Addr) (u0 : Mem) (R : PV → Mem → Prop) : G_order_Set_book_page_alpha_number_alpha_memory_find_r.sh a0 a1a a1b a1c a1d a1ef a1e a1ff a1f a1g a1hf a1h a1i a1j u0 R = VF ⟨Try.prog, 43, [3], [(2, ⟨[(6, .one (.raw (.int .i64))), (7, .one (.raw (.int .i64)))], []⟩)], [], [], [], [], [13, 27]⟩ ((Try.f79.body).getD .skip) [.tmp 4, .tmp 5] [(.raw (.pointer a0)), (.agg [(pI a1a), (pI a1b), (pB a1c), (pS a1d), (.list 6 a1ef a1e), (.list 6 a1ff a1f), (pB a1g), (.list 7 a1hf a1h), (pI a1i), (.raw (.pointer a1j))])] u0 R := by kernel_rfl

theorem G_order_Set_book_page_alpha_number_alpha_memory_find_r.c {a0 : Option Addr} {a1a : Int} {a1b : Int} {a1c : Bool} {a1d : ByteArray} {a1ef : Fl} {a1e : List (List PV)} {a1ff : Fl} {a1f : List (List PV)} {a1g : Bool} {a1hf : Fl} {a1h : List (List PV)} {a1i : Int} {a1j : Option Addr} {u0 : Mem} {K : PV → Mem → Prop} (h : G_order_Set_book_page_alpha_number_alpha_memory_find_r.sh a0 a1a a1b a1c a1d a1ef a1e a1ff a1f a1g a1hf a1h a1i a1j u0 K) : CallP Try.prog 79 [(.raw (.pointer a0)), (.agg [(pI a1a), (pI a1b), (pB a1c), (pS a1d), (.list 6 a1ef a1e), (.list 6 a1ff a1f), (pB a1g), (.list 7 a1hf a1h), (pI a1i), (.raw (.pointer a1j))])] u0 K :=
  VF_sound (E := ⟨Try.prog, 43, [3], [(2, ⟨[(6, .one (.raw (.int .i64))), (7, .one (.raw (.int .i64)))], []⟩)], [], [], [], [], [13, 27]⟩) (rs := [.tmp 4, .tmp 5]) Try.func79 rfl rfl rfl (by kernel_rfl) (by kernel_rfl) (G_order_Set_book_page_alpha_number_alpha_memory_find_r.ok a0 a1a a1b a1c a1d a1ef a1e a1ff a1f a1g a1hf a1h a1i a1j u0 K ▸ h)


/-- (*ponder/order.Set[ponder/book.page[ponder/alpha.number, ponder/alpha.memory]]).own -/
def G_order_Set_book_page_alpha_number_alpha_memory_own.sh (a0 : Option Addr) (u0 : Mem) (R : PV → Mem → Prop) : Prop :=
  nn a0
  (withPtrP (.raw (.pointer a0)) fun b o =>
    ∃ (x5 : Bool), rdM u0 b (o + 1) 1 = some [(pB x5)] ∧
    CIf x5
    (nn a0
      (withPtrP (.raw (.pointer a0)) fun b_1 o_1 =>
        ∃ (x10f : Fl) (x10 : List (List PV)), rdM u0 b_1 o_1 1 = some [(.list 10 x10f x10)] ∧
        nn a0
        (withPtrP (.raw (.pointer a0)) fun b_2 o_2 =>
          ∃ (x17f : Fl) (x17 : List (List PV)), rdM u0 b_2 o_2 1 = some [(.list 10 x17f x17)] ∧
          (0 : Int) ≤ (0) ∧ (0) ≤ (IntKind.wrap .i64 (((List.length x10 : Nat) : Int) + (1))) ∧ (IntKind.wrap .i64 (((List.length x10 : Nat) : Int) + (1))) < (4611686018427387904 : Int) ∧ Int.toNat (IntKind.wrap .i64 (((List.length x10 : Nat) : Int) + (1))) * 136 ≤ 140737488355328 ∧
          ∀ (b13 : Nat), u0 b13 = none →
          appR 10 136 111 (some ⟨b13, 0, none⟩) (Int.toNat (0)) (Int.toNat (IntKind.wrap .i64 (((List.length x10 : Nat) : Int) + (1)))) (.list 10 x17f x17) (Mem.set u0 b13 (some (.cells 111 (List.flatten (List.replicate (Int.toNat (IntKind.wrap .i64 (((List.length x10 : Nat) : Int) + (1)))) [(pI (0)), (pI (0)), (pB false), (pS ⟨#[]⟩), (.list 6 .nil []), (.list 6 .nil []), (pB false), (.list 7 .nil []), (pI (0)), (.raw (.pointer none))]))))) fun s18 s18n s18c u =>
          nn a0
          (withPtrP (.raw (.pointer a0)) fun b_3 o_3 =>
            stM b_3 o_3 [(.raw (.slice s18 s18n s18c))] u fun u_1 =>
            nn a0
            (withPtrP (.raw (.pointer a0)) fun b_4 o_4 =>
              stM b_4 (o_4 + 1) [(pB false)] u_1 fun u_2 =>
              R (.tup []) u_2)))))
    (R (.tup []) u0))

theorem G_order_Set_book_page_alpha_number_alpha_memory_own.ok (a0 : Option Addr) (u0 : Mem) (R : PV → Mem → Prop) : G_order_Set_book_page_alpha_number_alpha_memory_own.sh a0 u0 R = VF ⟨Try.prog, 24, [], [], [], [], [], [], []⟩ ((Try.f80.body).getD .skip) [] [(.raw (.pointer a0))] u0 R := by kernel_rfl

theorem G_order_Set_book_page_alpha_number_alpha_memory_own.c {a0 : Option Addr} {u0 : Mem} {K : PV → Mem → Prop} (h : G_order_Set_book_page_alpha_number_alpha_memory_own.sh a0 u0 K) : CallP Try.prog 80 [(.raw (.pointer a0))] u0 K :=
  VF_sound (E := ⟨Try.prog, 24, [], [], [], [], [], [], []⟩) (rs := []) Try.func80 rfl rfl rfl (by kernel_rfl) (by kernel_rfl) (G_order_Set_book_page_alpha_number_alpha_memory_own.ok a0 u0 K ▸ h)


/-- (*ponder/order.Set[ponder/book.page[ponder/alpha.number, ponder/api.Elem]]).All$1 -/
def G_order_Set_book_page_alpha_number_api_Elem_All_1.sh (a0 : Fn) (a0a a0b : List PV) (c0 : List PV) (u0 : Mem) (R : PV → Mem → Prop) : Prop :=
  ∃ (x3 : Option Addr), rowM c0 0 1 = some [(.raw (.pointer x3))] ∧
  CIf (!(Option.isNone x3))
  (∃ (x5 : Option Addr), rowM c0 0 1 = some [(.raw (.pointer x5))] ∧
    CallP Try.prog 82 [(.raw (.pointer x5)), (pI (0)), (.fn a0 a0a a0b)] u0 fun v u =>
     v = (.tup []) ∧
    R (.tup []) u)
  (R (.tup []) u0)

theorem G_order_Set_book_page_alpha_number_api_Elem_All_1.ok (a0 : Fn) (a0a a0b : List PV) (c0 : List PV) (u0 : Mem) (R : PV → Mem → Prop) : G_order_Set_book_page_alpha_number_api_Elem_All_1.sh a0 a0a a0b c0 u0 R = VF ⟨Try.prog, 8, [], [], [], [], [], [], []⟩ ((Try.f81.body).getD .skip) [] [(.fn a0 a0a a0b), (.fptr c0 0)] u0 R := by kernel_rfl

theorem G_order_Set_book_page_alpha_number_api_Elem_All_1.c {a0 : Fn} {a0a a0b : List PV} {c0 : List PV} {u0 : Mem} {K : PV → Mem → Prop} (h : G_order_Set_book_page_alpha_number_api_Elem_All_1.sh a0 a0a a0b c0 u0 K) : CallP Try.prog 81 [(.fn a0 a0a a0b), (.fptr c0 0)] u0 K :=
  VF_sound (E := ⟨Try.prog, 8, [], [], [], [], [], [], []⟩) (rs := []) Try.func81 rfl rfl rfl (by kernel_rfl) (by kernel_rfl) (G_order_Set_book_page_alpha_number_api_Elem_All_1.ok a0 a0a a0b c0 u0 K ▸ h)


/-- (*ponder/order.Set[ponder/book.page[ponder/alpha.number, ponder/api.Elem]]).from -/
def G_order_Set_book_page_alpha_number_api_Elem_from.sh (a0 : Option Addr) (a1 : Int) (a2 : Fn) (a2a a2b : List PV) (u0 : Mem) (R : PV → Mem → Prop) : Prop :=
  nn a0
  (withPtrP (.raw (.pointer a0)) fun b o =>
    stM b (o + 1) [(pB true)] u0 fun u =>
    nn a0
    (withPtrP (.raw (.pointer a0)) fun b_1 o_1 =>
      ∃ (x14f : Fl) (x14 : List (List PV)), rdM u b_1 o_1 1 = some [(.list 13 x14f x14)] ∧
      LoopI (α := Int) (fun next s u_1 =>
        CIf (decide ((s : Int) < ((List.length x14 : Nat) : Int)))
        ((0 : Int) ≤ s ∧ ∃ (r25 : List PV), (x14)[Int.toNat s]? = some r25 ∧
          ∃ (x26a : Int), ∃ (x26b : Int), ∃ (x26c : ByteArray), ∃ (x26d : Int), ∃ (x26e : Int), ∃ (x26f : ByteArray), ∃ (x26g : Int), ∃ (x26h : Int), ∃ (x26i : ByteArray), ∃ (x26j : Int), ∃ (x26k : Bool), ∃ (x26l : Bool), ∃ (x26m : Int), rowM r25 0 13 = some [(pI x26a), (pI x26b), (pS x26c), (pI x26d), (pI x26e), (pS x26f), (pI x26g), (pI x26h), (pS x26i), (pI x26j), (pB x26k), (pB x26l), (pI x26m)] ∧
          CallVP Try.prog (.fn a2 a2a a2b) [(.agg [(pI x26a), (pI x26b), (pS x26c), (pI x26d), (pI x26e), (pS x26f), (pI x26g), (pI x26h), (pS x26i), (pI x26j), (pB x26k), (pB x26l), (pI x26m)])] u_1 fun v u_2 =>
          ∃ (x27 : Bool), v = (pB x27) ∧
          CIf (!x27)
          (R (.tup []) u_2)
          (next (IntKind.wrap .i64 (s + (1))) u_2))
        (R (.tup []) u_1))
      a1 u))

theorem G_order_Set_book_page_alpha_number_api_Elem_from.ok (a0 : Option Addr) (a1 : Int) (a2 : Fn) (a2a a2b : List PV) (u0 : Mem) (R : PV → Mem → Prop) : G_order_Set_book_page_alpha_number_api_Elem_from.sh a0 a1 a2 a2a a2b u0 R = VF ⟨Try.prog, 29, [], [(3, ⟨[(7, .one (.raw (.int .i64)))], []⟩)], [], [], [], [], []⟩ ((Try.f82.body).getD .skip) [] [(.raw (.pointer a0)), (pI a1), (.fn a2 a2a a2b)] u0 R := by kernel_rfl

theorem G_order_Set_book_page_alpha_number_api_Elem_from.c {a0 : Option Addr} {a1 : Int} {a2 : Fn} {a2a a2b : List PV} {u0 : Mem} {K : PV → Mem → Prop} (h : G_order_Set_book_page_alpha_number_api_Elem_from.sh a0 a1 a2 a2a a2b u0 K) : CallP Try.prog 82 [(.raw (.pointer a0)), (pI a1), (.fn a2 a2a a2b)] u0 K :=
  VF_sound (E := ⟨Try.prog, 29, [], [(3, ⟨[(7, .one (.raw (.int .i64)))], []⟩)], [], [], [], [], []⟩) (rs := []) Try.func82 rfl rfl rfl (by kernel_rfl) (by kernel_rfl) (G_order_Set_book_page_alpha_number_api_Elem_from.ok a0 a1 a2 a2a a2b u0 K ▸ h)


/-- ponder/test.met -/
def G_test_met.sh (a0a : Int) (a0b : ByteArray) (a0c : Int) (a0d : ByteArray) (a0e : Int) (a0ff : Fl) (a0f : List (List PV)) (a1a : Int) (a1b : ByteArray) (a1c : Int) (a2f : Fl) (a2 : List (List PV)) (u0 : Mem) (R : PV → Mem → Prop) : Prop :=
  CIf ((a0a : Int) == (8))
  (LoopI (α := Int) (fun next s u =>
      CIf (decide ((s : Int) < ((List.length a0f : Nat) : Int)))
      ((0 : Int) ≤ s ∧ ∃ (r20 : List PV), (a0f)[Int.toNat s]? = some r20 ∧
        ∃ (x21a : Int), ∃ (x21b : ByteArray), ∃ (x21c : Int), rowM r20 0 3 = some [(pI x21a), (pS x21b), (pI x21c)] ∧
        CIf ((x21a == a1a) && (strEq x21b a1b && ((x21c == a1c) && true)))
        (R (.tup [(.list 4 a2f a2), (pB true)]) u)
        (next (IntKind.wrap .i64 (s + (1))) u))
      (R (.tup [(.list 4 .nil []), (pB false)]) u))
    (0) u0)
  (CIf (decide ((a0a : Int) < (1)))
    (R (.tup [(.list 4 .nil []), (pB false)]) u0)
    (CIf (decide ((a0a : Int) > (7)))
      (R (.tup [(.list 4 .nil []), (pB false)]) u0)
      (CIf (strEq a0b ⟨#[]⟩)
        (CallP Try.prog 88 [(pI a0a), (.agg [(pI a1a), (pS a1b), (pI a1c)]), (.agg [(pI a0c), (pS a0d), (pI a0e)])] u0 fun v u_1 =>
          ∃ (x44 : Bool), v = (pB x44) ∧
          R (.tup [(.list 4 a2f a2), (pB x44)]) u_1)
        (CallP Try.prog 89 [(.list 4 a2f a2), (pS a0b)] u0 fun v_1 u_2 =>
          ∃ (x49pa : Int), ∃ (x49pb : ByteArray), ∃ (x49pc : Int), ∃ (x49q : Bool), v_1 = (.tup [(.agg [(pI x49pa), (pS x49pb), (pI x49pc)]), (pB x49q)]) ∧
          CIf x49q
          (CallP Try.prog 88 [(pI a0a), (.agg [(pI a1a), (pS a1b), (pI a1c)]), (.agg [(pI x49pa), (pS x49pb), (pI x49pc)])] u_2 fun v_2 u_3 =>
            ∃ (x58 : Bool), v_2 = (pB x58) ∧
            R (.tup [(.list 4 a2f a2), (pB x58)]) u_3)
          (CIf ((a0a : Int) != (1))
            (R (.tup [(.list 4 .nil []), (pB false)]) u_2)
            ((0 : Int) ≤ (0 : Int) ∧ (0 : Int) ≤ ((List.length a2 : Nat) : Int) ∧ ((List.length a2 : Nat) : Int) ≤ ((List.length a2 : Nat) : Int) ∧ ((List.length a2 : Nat) : Int) = ((List.length a2 : Nat) : Int) ∧ 
              appL false 4 48 .nr (List.drop (Int.toNat (0 : Int)) (List.take (Int.toNat ((List.length a2 : Nat) : Int)) a2)) [[(pS a0b), (pI a1a), (pS a1b), (pI a1c)]] u_2 fun f73 u_4 =>
              R (.tup [(.list 4 f73 ((List.drop (Int.toNat (0 : Int)) (List.take (Int.toNat ((List.length a2 : Nat) : Int)) a2)) ++ [[(pS a0b), (pI a1a), (pS a1b), (pI a1c)]])), (pB true)]) u_4))))))

theorem G_test_met.ok (a0a : Int) (a0b : ByteArray) (a0c : Int) (a0d : ByteArray) (a0e : Int) (a0ff : Fl) (a0f : List (List PV)) (a1a : Int) (a1b : ByteArray) (a1c : Int) (a2f : Fl) (a2 : List (List PV)) (u0 : Mem) (R : PV → Mem → Prop) : G_test_met.sh a0a a0b a0c a0d a0e a0ff a0f a1a a1b a1c a2f a2 u0 R = VF ⟨Try.prog, 74, [3, 4, 9, 10], [(3, ⟨[(18, .one (.raw (.int .i64)))], []⟩)], [], [], [], [], []⟩ ((Try.f83.body).getD .skip) [.tmp 6, .tmp 7] [(.agg [(pI a0a), (pS a0b), (pI a0c), (pS a0d), (pI a0e), (.list 3 a0ff a0f)]), (.agg [(pI a1a), (pS a1b), (pI a1c)]), (.list 4 a2f a2)] u0 R := by kernel_rfl

theorem G_test_met.c {a0a : Int} {a0b : ByteArray} {a0c : Int} {a0d : ByteArray} {a0e : Int} {a0ff : Fl} {a0f : List (List PV)} {a1a : Int} {a1b : ByteArray} {a1c : Int} {a2f : Fl} {a2 : List (List PV)} {u0 : Mem} {K : PV → Mem → Prop} (h : G_test_met.sh a0a a0b a0c a0d a0e a0ff a0f a1a a1b a1c a2f a2 u0 K) : CallP Try.prog 83 [(.agg [(pI a0a), (pS a0b), (pI a0c), (pS a0d), (pI a0e), (.list 3 a0ff a0f)]), (.agg [(pI a1a), (pS a1b), (pI a1c)]), (.list 4 a2f a2)] u0 K :=
  VF_sound (E := ⟨Try.prog, 74, [3, 4, 9, 10], [(3, ⟨[(18, .one (.raw (.int .i64)))], []⟩)], [], [], [], [], []⟩) (rs := [.tmp 6, .tmp 7]) Try.func83 rfl rfl rfl (by kernel_rfl) (by kernel_rfl) (G_test_met.ok a0a a0b a0c a0d a0e a0ff a0f a1a a1b a1c a2f a2 u0 K ▸ h)


/-- ponder/test.all -/
def G_test_all.sh (a0f : Fl) (a0 : List (List PV)) (a1a : Int) (a1b : ByteArray) (a1c : Int) (a2f : Fl) (a2 : List (List PV)) (u0 : Mem) (R : PV → Mem → Prop) : Prop :=
  LoopI (α := (Fl × List (List PV)) × Int) (fun next s u =>
    CIf (decide ((s.2 : Int) < ((List.length a0 : Nat) : Int)))
    ((0 : Int) ≤ s.2 ∧ ∃ (r16 : List PV), (a0)[Int.toNat s.2]? = some r16 ∧
      ∃ (x17a : Int), ∃ (x17b : ByteArray), ∃ (x17c : Int), ∃ (x17d : ByteArray), ∃ (x17e : Int), ∃ (x17ff : Fl) (x17f : List (List PV)), rowM r16 0 6 = some [(pI x17a), (pS x17b), (pI x17c), (pS x17d), (pI x17e), (.list 3 x17ff x17f)] ∧
      CallP Try.prog 83 [(.agg [(pI x17a), (pS x17b), (pI x17c), (pS x17d), (pI x17e), (.list 3 .sh x17f)]), (.agg [(pI a1a), (pS a1b), (pI a1c)]), (.list 4 s.1.1 s.1.2)] u fun v u_1 =>
      ∃ (x22pf : Fl) (x22p : List (List PV)), ∃ (x22q : Bool), v = (.tup [(.list 4 x22pf x22p), (pB x22q)]) ∧
      CIf (!x22q)
      (R (.tup [(.list 4 .nil []), (pB false)]) u_1)
      (next ((x22pf, x22p), (IntKind.wrap .i64 (s.2 + (1)))) u_1))
    (R (.tup [(.list 4 s.1.1 s.1.2), (pB true)]) u))
  ((a2f, a2), (0)) u0

theorem G_test_all.ok (a0f : Fl) (a0 : List (List PV)) (a1a : Int) (a1b : ByteArray) (a1c : Int) (a2f : Fl) (a2 : List (List PV)) (u0 : Mem) (R : PV → Mem → Prop) : G_test_all.sh a0f a0 a1a a1b a1c a2f a2 u0 R = VF ⟨Try.prog, 30, [4, 9], [(2, ⟨[(2, .one (.list 4)), (14, .one (.raw (.int .i64)))], []⟩)], [], [], [], [], []⟩ ((Try.f84.body).getD .skip) [.tmp 6, .tmp 7] [(.list 6 a0f a0), (.agg [(pI a1a), (pS a1b), (pI a1c)]), (.list 4 a2f a2)] u0 R := by kernel_rfl

theorem G_test_all.c {a0f : Fl} {a0 : List (List PV)} {a1a : Int} {a1b : ByteArray} {a1c : Int} {a2f : Fl} {a2 : List (List PV)} {u0 : Mem} {K : PV → Mem → Prop} (h : G_test_all.sh a0f a0 a1a a1b a1c a2f a2 u0 K) : CallP Try.prog 84 [(.list 6 a0f a0), (.agg [(pI a1a), (pS a1b), (pI a1c)]), (.list 4 a2f a2)] u0 K :=
  VF_sound (E := ⟨Try.prog, 30, [4, 9], [(2, ⟨[(2, .one (.list 4)), (14, .one (.raw (.int .i64)))], []⟩)], [], [], [], [], []⟩) (rs := [.tmp 6, .tmp 7]) Try.func84 rfl rfl rfl (by kernel_rfl) (by kernel_rfl) (G_test_all.ok a0f a0 a1a a1b a1c a2f a2 u0 K ▸ h)


/-- ponder/test.own -/
def G_test_own.sh (a0f : Fl) (a0 : List (List PV)) (u0 : Mem) (R : PV → Mem → Prop) : Prop :=
  appL false 4 48 .nil [] a0 u0 fun f4 u =>
  R (.list 4 f4 ([] ++ a0)) u

theorem G_test_own.ok (a0f : Fl) (a0 : List (List PV)) (u0 : Mem) (R : PV → Mem → Prop) : G_test_own.sh a0f a0 u0 R = VF ⟨Try.prog, 5, [], [], [], [], [], [], []⟩ ((Try.f85.body).getD .skip) [.tmp 2] [(.list 4 a0f a0)] u0 R := by kernel_rfl

theorem G_test_own.c {a0f : Fl} {a0 : List (List PV)} {u0 : Mem} {K : PV → Mem → Prop} (h : G_test_own.sh a0f a0 u0 K) : CallP Try.prog 85 [(.list 4 a0f a0)] u0 K :=
  VF_sound (E := ⟨Try.prog, 5, [], [], [], [], [], [], []⟩) (rs := [.tmp 2]) Try.func85 rfl rfl rfl (by kernel_rfl) (by kernel_rfl) (G_test_own.ok a0f a0 u0 K ▸ h)


/-- ponder/test.own -/
def G_test_own_w.sh (a0f : Fl) (a0 : List (List PV)) (u0 : Mem) (R : PV → Mem → Prop) : Prop :=
  appR 4 48 156 none 0 0 (.list 4 a0f a0) u0 fun s4 s4n s4c u =>
  R (.raw (.slice s4 s4n s4c)) u

theorem G_test_own_w.ok (a0f : Fl) (a0 : List (List PV)) (u0 : Mem) (R : PV → Mem → Prop) : G_test_own_w.sh a0f a0 u0 R = VF ⟨Try.prog, 5, [], [], [], [], [], [], [4]⟩ ((Try.f85.body).getD .skip) [.tmp 2] [(.list 4 a0f a0)] u0 R := by kernel_rfl

theorem G_test_own_w.c {a0f : Fl} {a0 : List (List PV)} {u0 : Mem} {K : PV → Mem → Prop} (h : G_test_own_w.sh a0f a0 u0 K) : CallP Try.prog 85 [(.list 4 a0f a0)] u0 K :=
  VF_sound (E := ⟨Try.prog, 5, [], [], [], [], [], [], [4]⟩) (rs := [.tmp 2]) Try.func85 rfl rfl rfl (by kernel_rfl) (by kernel_rfl) (G_test_own_w.ok a0f a0 u0 K ▸ h)


/-- (*ponder/order.Set[ponder/book.page[ponder/alpha.number, ponder/api.Elem]]).find -/
def G_order_Set_book_page_alpha_number_api_Elem_find.sh (a0 : Option Addr) (a1a : Int) (a1b : Int) (a1c : ByteArray) (a1d : Int) (a1e : Int) (a1f : ByteArray) (a1g : Int) (a1h : Int) (a1i : ByteArray) (a1j : Int) (a1k : Bool) (a1l : Bool) (a1m : Int) (u0 : Mem) (R : PV → Mem → Prop) : Prop :=
  nn a0
  (withPtrP (.raw (.pointer a0)) fun b o =>
    ∃ (x13f : Fl) (x13 : List (List PV)), rdM u0 b o 1 = some [(.list 13 x13f x13)] ∧
    LoopI (α := Int × Int) (fun next s u =>
      CIf (decide ((s.1 : Int) < s.2))
      (((2) : Int) ≠ 0 ∧
        nn a0
        (withPtrP (.raw (.pointer a0)) fun b_1 o_1 =>
          ∃ (x27f : Fl) (x27 : List (List PV)), rdM u b_1 o_1 1 = some [(.list 13 x27f x27)] ∧
          (0 : Int) ≤ (IntKind.wrap .i64 (s.1 + (IntKind.wrap .i64 (Int.tdiv (IntKind.wrap .i64 (s.2 - s.1)) (2))))) ∧ ∃ (r29 : List PV), (x27)[Int.toNat (IntKind.wrap .i64 (s.1 + (IntKind.wrap .i64 (Int.tdiv (IntKind.wrap .i64 (s.2 - s.1)) (2)))))]? = some r29 ∧
          ∃ (x30a : Int), ∃ (x30b : Int), ∃ (x30c : ByteArray), ∃ (x30d : Int), ∃ (x30e : Int), ∃ (x30f : ByteArray), ∃ (x30g : Int), ∃ (x30h : Int), ∃ (x30i : ByteArray), ∃ (x30j : Int), ∃ (x30k : Bool), ∃ (x30l : Bool), ∃ (x30m : Int), rowM r29 0 13 = some [(pI x30a), (pI x30b), (pS x30c), (pI x30d), (pI x30e), (pS x30f), (pI x30g), (pI x30h), (pS x30i), (pI x30j), (pB x30k), (pB x30l), (pI x30m)] ∧
          (∀ v, pv Try.prog (method (Try.prog.types.size + Made.depth) 105 v "Compare") = some (117, v)) ∧
          CallP Try.prog 117 [(.agg [(pI x30a), (pI x30b), (pS x30c), (pI x30d), (pI x30e), (pS x30f), (pI x30g), (pI x30h), (pS x30i), (pI x30j), (pB x30k), (pB x30l), (pI x30m)]), (.agg [(pI a1a), (pI a1b), (pS a1c), (pI a1d), (pI a1e), (pS a1f), (pI a1g), (pI a1h), (pS a1i), (pI a1j), (pB a1k), (pB a1l), (pI a1m)])] u fun v u_1 =>
          ∃ (x33 : Int), v = (pI x33) ∧
          CIf ((x33 : Int) == (0))
          (R (.tup [(pI (IntKind.wrap .i64 (s.1 + (IntKind.wrap .i64 (Int.tdiv (IntKind.wrap .i64 (s.2 - s.1)) (2)))))), (pB true)]) u_1)
          (CIf (decide ((x33 : Int) < (0)))
            (next ((IntKind.wrap .i64 ((IntKind.wrap .i64 (s.1 + (IntKind.wrap .i64 (Int.tdiv (IntKind.wrap .i64 (s.2 - s.1)) (2))))) + (1))), s.2) u_1)
            (next (s.1, (IntKind.wrap .i64 (s.1 + (IntKind.wrap .i64 (Int.tdiv (IntKind.wrap .i64 (s.2 - s.1)) (2)))))) u_1))))
      (R (.tup [(pI s.1), (pB false)]) u))
    ((0), ((List.length x13 : Nat) : Int)) u0)

theorem G_order_Set_book_page_alpha_number_api_Elem_find.ok (a0 : Option Addr) (a1a : Int) (a1b : Int) (a1c : ByteArray) (a1d : Int) (a1e : Int) (a1f : ByteArray) (a1g : Int) (a1h : Int) (a1i : ByteArray) (a1j : Int) (a1k : Bool) (a1l : Bool) (a1m : Int) (u0 : Mem) (R : PV → Mem → Prop) : G_order_Set_book_page_alpha_number_api_Elem_find.sh a0 a1a a1b a1c a1d a1e a1f a1g a1h a1i a1j a1k a1l a1m u0 R = VF ⟨Try.prog, 43, [3], [(2, ⟨[(6, .one (.raw (.int .i64))), (7, .one (.raw (.int .i64)))], []⟩)], [], [], [], [], []⟩ ((Try.f86.body).getD .skip) [.tmp 4, .tmp 5] [(.raw (.pointer a0)), (.agg [(pI a1a), (pI a1b), (pS a1c), (pI a1d), (pI a1e), (pS a1f), (pI a1g), (pI a1h), (pS a1i), (pI a1j), (pB a1k), (pB a1l), (pI a1m)])] u0 R := by kernel_rfl

theorem G_order_Set_book_page_alpha_number_api_Elem_find.c {a0 : Option Addr} {a1a : Int} {a1b : Int} {a1c : ByteArray} {a1d : Int} {a1e : Int} {a1f : ByteArray} {a1g : Int} {a1h : Int} {a1i : ByteArray} {a1j : Int} {a1k : Bool} {a1l : Bool} {a1m : Int} {u0 : Mem} {K : PV → Mem → Prop} (h : G_order_Set_book_page_alpha_number_api_Elem_find.sh a0 a1a a1b a1c a1d a1e a1f a1g a1h a1i a1j a1k a1l a1m u0 K) : CallP Try.prog 86 [(.raw (.pointer a0)), (.agg [(pI a1a), (pI a1b), (pS a1c), (pI a1d), (pI a1e), (pS a1f), (pI a1g), (pI a1h), (pS a1i), (pI a1j), (pB a1k), (pB a1l), (pI a1m)])] u0 K :=
  VF_sound (E := ⟨Try.prog, 43, [3], [(2, ⟨[(6, .one (.raw (.int .i64))), (7, .one (.raw (.int .i64)))], []⟩)], [], [], [], [], []⟩) (rs := [.tmp 4, .tmp 5]) Try.func86 rfl rfl rfl (by kernel_rfl) (by kernel_rfl) (G_order_Set_book_page_alpha_number_api_Elem_find.ok a0 a1a a1b a1c a1d a1e a1f a1g a1h a1i a1j a1k a1l a1m u0 K ▸ h)


/-- (*ponder/order.Set[ponder/book.page[ponder/alpha.number, ponder/api.Elem]]).find -/
def G_order_Set_book_page_alpha_number_api_Elem_find_r.sh (a0 : Option Addr) (a1a : Int) (a1b : Int) (a1c : ByteArray) (a1d : Int) (a1e : Int) (a1f : ByteArray) (a1g : Int) (a1h : Int) (a1i : ByteArray) (a1j : Int) (a1k : Bool) (a1l : Bool) (a1m : Int) (u0 : Mem) (R : PV → Mem → Prop) : Prop :=
  nn a0
  (withPtrP (.raw (.pointer a0)) fun b o =>
    ∃ (x13 : Option Addr) (x13n x13c : Nat), rdM u0 b o 1 = some [(.raw (.slice x13 x13n x13c))] ∧
    LoopI (α := Int × Int) (fun next s u =>
      CIf (decide ((s.1 : Int) < s.2))
      (((2) : Int) ≠ 0 ∧
        nn a0
        (withPtrP (.raw (.pointer a0)) fun b_1 o_1 =>
          ∃ (x27 : Option Addr) (x27n x27c : Nat), rdM u b_1 o_1 1 = some [(.raw (.slice x27 x27n x27c))] ∧
          withSl x27 fun b_2 o_2 =>
          (0 : Int) ≤ (IntKind.wrap .i64 (s.1 + (IntKind.wrap .i64 (Int.tdiv (IntKind.wrap .i64 (s.2 - s.1)) (2))))) ∧ (IntKind.wrap .i64 (s.1 + (IntKind.wrap .i64 (Int.tdiv (IntKind.wrap .i64 (s.2 - s.1)) (2))))) < ((x27n : Nat) : Int) ∧
          ∃ (x30a : Int), ∃ (x30b : Int), ∃ (x30c : ByteArray), ∃ (x30d : Int), ∃ (x30e : Int), ∃ (x30f : ByteArray), ∃ (x30g : Int), ∃ (x30h : Int), ∃ (x30i : ByteArray), ∃ (x30j : Int), ∃ (x30k : Bool), ∃ (x30l : Bool), ∃ (x30m : Int), rdM u b_2 (o_2 + Int.toNat (IntKind.wrap .i64 (s.1 + (IntKind.wrap .i64 (Int.tdiv (IntKind.wrap .i64 (s.2 - s.1)) (2))))) * 13) 13 = some [(pI x30a), (pI x30b), (pS x30c), (pI x30d), (pI x30e), (pS x30f), (pI x30g), (pI x30h), (pS x30i), (pI x30j), (pB x30k), (pB x30l), (pI x30m)] ∧
          (∀ v, pv Try.prog (method (Try.prog.types.size + Made.depth) 105 v "Compare") = some (117, v)) ∧
          CallP Try.prog 117 [(.agg [(pI x30a), (pI x30b), (pS x30c), (pI x30d), (pI x30e), (pS x30f), (pI x30g), (pI x30h), (pS x30i), (pI x30j), (pB x30k), (pB x30l), (pI x30m)]), (.agg [(pI a1a), (pI a1b), (pS a1c), (pI a1d), (pI a1e), (pS a1f), (pI a1g), (pI a1h), (pS a1i), (pI a1j), (pB a1k), (pB a1l), (pI a1m)])] u fun v u_1 =>
          ∃ (x33 : Int), v = (pI x33) ∧
          CIf ((x33 : Int) == (0))
          (R (.tup [(pI (IntKind.wrap .i64 (s.1 + (IntKind.wrap .i64 (Int.tdiv (IntKind.wrap .i64 (s.2 - s.1)) (2)))))), (pB true)]) u_1)
          (CIf (decide ((x33 : Int) < (0)))
            (next ((IntKind.wrap .i64 ((IntKind.wrap .i64 (s.1 + (IntKind.wrap .i64 (Int.tdiv (IntKind.wrap .i64 (s.2 - s.1)) (2))))) + (1))), s.2) u_1)
            (next (s.1, (IntKind.wrap .i64 (s.1 + (IntKind.wrap .i64 (Int.tdiv (IntKind.wrap .i64 (s.2 - s.1)) (2)))))) u_1))))
      (R (.tup [(pI s.1), (pB false)]) u))
    ((0), ((x13n : Nat) : Int)) u0)

theorem G_order_Set_book_page_alpha_number_api_Elem_find_r.ok (a0 : Option Addr) (a1a : Int) (a1b : Int) (a1c : ByteArray) (a1d : Int) (a1e : Int) (a1f : ByteArray) (a1g : Int) (a1h : Int) (a1i : ByteArray) (a1j : Int) (a1k : Bool) (a1l : Bool) (a1m : Int) (u0 : Mem) (R : PV → Mem → Prop) : G_order_Set_book_page_alpha_number_api_Elem_find_r.sh a0 a1a a1b a1c a1d a1e a1f a1g a1h a1i a1j a1k a1l a1m u0 R = VF ⟨Try.prog, 43, [3], [(2, ⟨[(6, .one (.raw (.int .i64))), (7, .one (.raw (.int .i64)))], []⟩)], [], [], [], [], [13, 27]⟩ ((Try.f86.body).getD .skip) [.tmp 4, .tmp 5] [(.raw (.pointer a0)), (.agg [(pI a1a), (pI a1b), (pS a1c), (pI a1d), (pI a1e), (pS a1f), (pI a1g), (pI a1h), (pS a1i), (pI a1j), (pB a1k), (pB a1l), (pI a1m)])] u0 R := by kernel_rfl

theorem G_order_Set_book_page_alpha_number_api_Elem_find_r.c {a0 : Option Addr} {a1a : Int} {a1b : Int} {a1c : ByteArray} {a1d : Int} {a1e : Int} {a1f : ByteArray} {a1g : Int} {a1h : Int} {a1i : ByteArray} {a1j : Int} {a1k : Bool} {a1l : Bool} {a1m : Int} {u0 : Mem} {K : PV → Mem → Prop} (h : G_order_Set_book_page_alpha_number_api_Elem_find_r.sh a0 a1a a1b a1c a1d a1e a1f a1g a1h a1i a1j a1k a1l a1m u0 K) : CallP Try.prog 86 [(.raw (.pointer a0)), (.agg [(pI a1a), (pI a1b), (pS a1c), (pI a1d), (pI a1e), (pS a1f), (pI a1g), (pI a1h), (pS a1i), (pI a1j), (pB a1k), (pB a1l), (pI a1m)])] u0 K :=
  VF_sound (E := ⟨Try.prog, 43, [3], [(2, ⟨[(6, .one (.raw (.int .i64))), (7, .one (.raw (.int .i64)))], []⟩)], [], [], [], [], [13, 27]⟩) (rs := [.tmp 4, .tmp 5]) Try.func86 rfl rfl rfl (by kernel_rfl) (by kernel_rfl) (G_order_Set_book_page_alpha_number_api_Elem_find_r.ok a0 a1a a1b a1c a1d a1e a1f a1g a1h a1i a1j a1k a1l a1m u0 K ▸ h)


/-- (*ponder/order.Set[ponder/book.page[ponder/alpha.number, ponder/api.Elem]]).own -/
def G_order_Set_book_page_alpha_number_api_Elem_own.sh (a0 : Option Addr) (u0 : Mem) (R : PV → Mem → Prop) : Prop :=
  nn a0
  (withPtrP (.raw (.pointer a0)) fun b o =>
    ∃ (x5 : Bool), rdM u0 b (o + 1) 1 = some [(pB x5)] ∧
    CIf x5
    (nn a0
      (withPtrP (.raw (.pointer a0)) fun b_1 o_1 =>
        ∃ (x10f : Fl) (x10 : List (List PV)), rdM u0 b_1 o_1 1 = some [(.list 13 x10f x10)] ∧
        nn a0
        (withPtrP (.raw (.pointer a0)) fun b_2 o_2 =>
          ∃ (x17f : Fl) (x17 : List (List PV)), rdM u0 b_2 o_2 1 = some [(.list 13 x17f x17)] ∧
          (0 : Int) ≤ (0) ∧ (0) ≤ (IntKind.wrap .i64 (((List.length x10 : Nat) : Int) + (1))) ∧ (IntKind.wrap .i64 (((List.length x10 : Nat) : Int) + (1))) < (4611686018427387904 : Int) ∧ Int.toNat (IntKind.wrap .i64 (((List.length x10 : Nat) : Int) + (1))) * 120 ≤ 140737488355328 ∧
          ∀ (b13 : Nat), u0 b13 = none →
          appR 13 120 105 (some ⟨b13, 0, none⟩) (Int.toNat (0)) (Int.toNat (IntKind.wrap .i64 (((List.length x10 : Nat) : Int) + (1)))) (.list 13 x17f x17) (Mem.set u0 b13 (some (.cells 105 (List.flatten (List.replicate (Int.toNat (IntKind.wrap .i64 (((List.length x10 : Nat) : Int) + (1)))) [(pI (0)), (pI (0)), (pS ⟨#[]⟩), (pI (0)), (pI (0)), (pS ⟨#[]⟩), (pI (0)), (pI (0)), (pS ⟨#[]⟩), (pI (0)), (pB false), (pB false), (pI (0))]))))) fun s18 s18n s18c u =>
          nn a0
          (withPtrP (.raw (.pointer a0)) fun b_3 o_3 =>
            stM b_3 o_3 [(.raw (.slice s18 s18n s18c))] u fun u_1 =>
            nn a0
            (withPtrP (.raw (.pointer a0)) fun b_4 o_4 =>
              stM b_4 (o_4 + 1) [(pB false)] u_1 fun u_2 =>
              R (.tup []) u_2)))))
    (R (.tup []) u0))

theorem G_order_Set_book_page_alpha_number_api_Elem_own.ok (a0 : Option Addr) (u0 : Mem) (R : PV → Mem → Prop) : G_order_Set_book_page_alpha_number_api_Elem_own.sh a0 u0 R = VF ⟨Try.prog, 24, [], [], [], [], [], [], []⟩ ((Try.f87.body).getD .skip) [] [(.raw (.pointer a0))] u0 R := by kernel_rfl

theorem G_order_Set_book_page_alpha_number_api_Elem_own.c {a0 : Option Addr} {u0 : Mem} {K : PV → Mem → Prop} (h : G_order_Set_book_page_alpha_number_api_Elem_own.sh a0 u0 K) : CallP Try.prog 87 [(.raw (.pointer a0))] u0 K :=
  VF_sound (E := ⟨Try.prog, 24, [], [], [], [], [], [], []⟩) (rs := []) Try.func87 rfl rfl rfl (by kernel_rfl) (by kernel_rfl) (G_order_Set_book_page_alpha_number_api_Elem_own.ok a0 u0 K ▸ h)


/-- ponder/test.Holds -/
def G_test_Holds.sh (a0 : Int) (a1a : Int) (a1b : ByteArray) (a1c : Int) (a2a : Int) (a2b : ByteArray) (a2c : Int) (u0 : Mem) (R : PV → Mem → Prop) : Prop :=
  CJoin (α := Bool) (fun J =>
    CIf ((a1a : Int) == (2))
    (J ((a2a : Int) == (2)) u0)
    (J false u0))
  (fun s u =>
    CIf ((a0 : Int) == (1))
    (R (pB ((a1a == a2a) && (strEq a1b a2b && ((a1c == a2c) && true)))) u)
    (CIf ((a0 : Int) == (2))
      (R (pB (!((a1a == a2a) && (strEq a1b a2b && ((a1c == a2c) && true))))) u)
      (CIf ((a0 : Int) == (3))
        (CIf s
          (R (pB (decide ((a1c : Int) < a2c))) u)
          (R (pB false) u))
        (CIf ((a0 : Int) == (4))
          (CIf s
            (R (pB (decide ((a1c : Int) ≤ a2c))) u)
            (R (pB false) u))
          (CIf ((a0 : Int) == (5))
            (CIf s
              (R (pB (decide ((a1c : Int) > a2c))) u)
              (R (pB false) u))
            (CIf ((a0 : Int) == (6))
              (CIf s
                (R (pB (decide ((a1c : Int) ≥ a2c))) u)
                (R (pB false) u))
              (CIf ((a0 : Int) == (7))
                (R (pB ((a1a : Int) == a2a)) u)
                (R (pB false) u))))))))

theorem G_test_Holds.ok (a0 : Int) (a1a : Int) (a1b : ByteArray) (a1c : Int) (a2a : Int) (a2b : ByteArray) (a2c : Int) (u0 : Mem) (R : PV → Mem → Prop) : G_test_Holds.sh a0 a1a a1b a1c a2a a2b a2c u0 R = VF ⟨Try.prog, 74, [4, 5], [], [(2, ⟨[(7, .one (.raw .bool))], []⟩)], [], [], [], []⟩ ((Try.f88.body).getD .skip) [.tmp 6] [(pI a0), (.agg [(pI a1a), (pS a1b), (pI a1c)]), (.agg [(pI a2a), (pS a2b), (pI a2c)])] u0 R := by kernel_rfl

theorem G_test_Holds.c {a0 : Int} {a1a : Int} {a1b : ByteArray} {a1c : Int} {a2a : Int} {a2b : ByteArray} {a2c : Int} {u0 : Mem} {K : PV → Mem → Prop} (h : G_test_Holds.sh a0 a1a a1b a1c a2a a2b a2c u0 K) : CallP Try.prog 88 [(pI a0), (.agg [(pI a1a), (pS a1b), (pI a1c)]), (.agg [(pI a2a), (pS a2b), (pI a2c)])] u0 K :=
  VF_sound (E := ⟨Try.prog, 74, [4, 5], [], [(2, ⟨[(7, .one (.raw .bool))], []⟩)], [], [], [], []⟩) (rs := [.tmp 6]) Try.func88 rfl rfl rfl (by kernel_rfl) (by kernel_rfl) (G_test_Holds.ok a0 a1a a1b a1c a2a a2b a2c u0 K ▸ h)


/-- ponder/test.Get -/
def G_test_Get.sh (a0f : Fl) (a0 : List (List PV)) (a1 : ByteArray) (u0 : Mem) (R : PV → Mem → Prop) : Prop :=
  LoopI (α := Int) (fun next s u =>
    CIf (decide ((s : Int) < ((List.length a0 : Nat) : Int)))
    ((0 : Int) ≤ s ∧ ∃ (r12 : List PV), (a0)[Int.toNat s]? = some r12 ∧
      ∃ (x13a : ByteArray), ∃ (x13b : Int), ∃ (x13c : ByteArray), ∃ (x13d : Int), rowM r12 0 4 = some [(pS x13a), (pI x13b), (pS x13c), (pI x13d)] ∧
      CIf (strEq x13a a1)
      (R (.tup [(.agg [(pI x13b), (pS x13c), (pI x13d)]), (pB true)]) u)
      (next (IntKind.wrap .i64 (s + (1))) u))
    (R (.tup [(.agg [(pI (0)), (pS ⟨#[]⟩), (pI (0))]), (pB false)]) u))
  (0) u0

theorem G_test_Get.ok (a0f : Fl) (a0 : List (List PV)) (a1 : ByteArray) (u0 : Mem) (R : PV → Mem → Prop) : G_test_Get.sh a0f a0 a1 u0 R = VF ⟨Try.prog, 22, [4, 7], [(2, ⟨[(10, .one (.raw (.int .i64)))], [(4, 3)]⟩)], [], [], [], [], []⟩ ((Try.f89.body).getD .skip) [.cell 4 49, .tmp 5] [(.list 4 a0f a0), (pS a1)] u0 R := by kernel_rfl

theorem G_test_Get.c {a0f : Fl} {a0 : List (List PV)} {a1 : ByteArray} {u0 : Mem} {K : PV → Mem → Prop} (h : G_test_Get.sh a0f a0 a1 u0 K) : CallP Try.prog 89 [(.list 4 a0f a0), (pS a1)] u0 K :=
  VF_sound (E := ⟨Try.prog, 22, [4, 7], [(2, ⟨[(10, .one (.raw (.int .i64)))], [(4, 3)]⟩)], [], [], [], [], []⟩) (rs := [.cell 4 49, .tmp 5]) Try.func89 rfl rfl rfl (by kernel_rfl) (by kernel_rfl) (G_test_Get.ok a0f a0 a1 u0 K ▸ h)


/-- (ponder/api.Sym).Compare -/
def G_api_Sym_Compare.sh (a0a : Int) (a0b : ByteArray) (a0c : Int) (a1a : Int) (a1b : ByteArray) (a1c : Int) (u0 : Mem) (R : PV → Mem → Prop) : Prop :=
  CallP Try.prog 106 [(pI a0a), (pI a1a)] u0 fun v u =>
  ∃ (x11 : Int), v = (pI x11) ∧
  CIf ((x11 : Int) != (0))
  (R (pI x11) u)
  (CallP Try.prog 107 [(pS a0b), (pS a1b)] u fun v_1 u_1 =>
    ∃ (x19 : Int), v_1 = (pI x19) ∧
    CIf ((x19 : Int) != (0))
    (R (pI x19) u_1)
    (CallP Try.prog 106 [(pI a0c), (pI a1c)] u_1 fun v_2 u_2 =>
      ∃ (x27 : Int), v_2 = (pI x27) ∧
      R (pI x27) u_2))

theorem G_api_Sym_Compare.ok (a0a : Int) (a0b : ByteArray) (a0c : Int) (a1a : Int) (a1b : ByteArray) (a1c : Int) (u0 : Mem) (R : PV → Mem → Prop) : G_api_Sym_Compare.sh a0a a0b a0c a1a a1b a1c u0 R = VF ⟨Try.prog, 28, [2, 3], [], [], [], [], [], []⟩ ((Try.f105.body).getD .skip) [.tmp 4] [(.agg [(pI a0a), (pS a0b), (pI a0c)]), (.agg [(pI a1a), (pS a1b), (pI a1c)])] u0 R := by kernel_rfl

theorem G_api_Sym_Compare.c {a0a : Int} {a0b : ByteArray} {a0c : Int} {a1a : Int} {a1b : ByteArray} {a1c : Int} {u0 : Mem} {K : PV → Mem → Prop} (h : G_api_Sym_Compare.sh a0a a0b a0c a1a a1b a1c u0 K) : CallP Try.prog 105 [(.agg [(pI a0a), (pS a0b), (pI a0c)]), (.agg [(pI a1a), (pS a1b), (pI a1c)])] u0 K :=
  VF_sound (E := ⟨Try.prog, 28, [2, 3], [], [], [], [], [], []⟩) (rs := [.tmp 4]) Try.func105 rfl rfl rfl (by kernel_rfl) (by kernel_rfl) (G_api_Sym_Compare.ok a0a a0b a0c a1a a1b a1c u0 K ▸ h)


/-- cmp.Compare[int] -/
def G_cmp_Compare_int.sh (a0 : Int) (a1 : Int) (u0 : Mem) (R : PV → Mem → Prop) : Prop :=
  CallP Try.prog 108 [(pI a0)] u0 fun v u =>
  ∃ (x8 : Bool), v = (pB x8) ∧
  CallP Try.prog 108 [(pI a1)] u fun v_1 u_1 =>
  ∃ (x10 : Bool), v_1 = (pB x10) ∧
  CIf x8
  (CIf x10
    (R (pI (0)) u_1)
    (R (pI (-1)) u_1))
  (CIf x10
    (R (pI (1)) u_1)
    (CIf (decide ((a0 : Int) < a1))
      (R (pI (-1)) u_1)
      (CIf (decide ((a0 : Int) > a1))
        (R (pI (1)) u_1)
        (R (pI (0)) u_1))))

theorem G_cmp_Compare_int.ok (a0 : Int) (a1 : Int) (u0 : Mem) (R : PV → Mem → Prop) : G_cmp_Compare_int.sh a0 a1 u0 R = VF ⟨Try.prog, 20, [], [], [], [], [], [], []⟩ ((Try.f106.body).getD .skip) [.tmp 4] [(pI a0), (pI a1)] u0 R := by kernel_rfl

theorem G_cmp_Compare_int.c {a0 : Int} {a1 : Int} {u0 : Mem} {K : PV → Mem → Prop} (h : G_cmp_Compare_int.sh a0 a1 u0 K) : CallP Try.prog 106 [(pI a0), (pI a1)] u0 K :=
  VF_sound (E := ⟨Try.prog, 20, [], [], [], [], [], [], []⟩) (rs := [.tmp 4]) Try.func106 rfl rfl rfl (by kernel_rfl) (by kernel_rfl) (G_cmp_Compare_int.ok a0 a1 u0 K ▸ h)


/-- cmp.Compare[string] -/
def G_cmp_Compare_string.sh (a0 : ByteArray) (a1 : ByteArray) (u0 : Mem) (R : PV → Mem → Prop) : Prop :=
  CallP Try.prog 109 [(pS a0)] u0 fun v u =>
  ∃ (x8 : Bool), v = (pB x8) ∧
  CallP Try.prog 109 [(pS a1)] u fun v_1 u_1 =>
  ∃ (x10 : Bool), v_1 = (pB x10) ∧
  CIf x8
  (CIf x10
    (R (pI (0)) u_1)
    (R (pI (-1)) u_1))
  (CIf x10
    (R (pI (1)) u_1)
    (CIf (Op.bytesLess (ByteArray.toList a0) (ByteArray.toList a1))
      (R (pI (-1)) u_1)
      (CIf (!(Op.bytesLess (ByteArray.toList a0) (ByteArray.toList a1) || strEq a0 a1))
        (R (pI (1)) u_1)
        (R (pI (0)) u_1))))

theorem G_cmp_Compare_string.ok (a0 : ByteArray) (a1 : ByteArray) (u0 : Mem) (R : PV → Mem → Prop) : G_cmp_Compare_string.sh a0 a1 u0 R = VF ⟨Try.prog, 20, [], [], [], [], [], [], []⟩ ((Try.f107.body).getD .skip) [.tmp 4] [(pS a0), (pS a1)] u0 R := by kernel_rfl

theorem G_cmp_Compare_string.c {a0 : ByteArray} {a1 : ByteArray} {u0 : Mem} {K : PV → Mem → Prop} (h : G_cmp_Compare_string.sh a0 a1 u0 K) : CallP Try.prog 107 [(pS a0), (pS a1)] u0 K :=
  VF_sound (E := ⟨Try.prog, 20, [], [], [], [], [], [], []⟩) (rs := [.tmp 4]) Try.func107 rfl rfl rfl (by kernel_rfl) (by kernel_rfl) (G_cmp_Compare_string.ok a0 a1 u0 K ▸ h)


/-- cmp.isNaN[int] -/
def G_cmp_isNaN_int.sh (a0 : Int) (u0 : Mem) (R : PV → Mem → Prop) : Prop :=
  R (pB ((a0 : Int) != a0)) u0

theorem G_cmp_isNaN_int.ok (a0 : Int) (u0 : Mem) (R : PV → Mem → Prop) : G_cmp_isNaN_int.sh a0 u0 R = VF ⟨Try.prog, 6, [], [], [], [], [], [], []⟩ ((Try.f108.body).getD .skip) [.tmp 2] [(pI a0)] u0 R := by kernel_rfl

theorem G_cmp_isNaN_int.c {a0 : Int} {u0 : Mem} {K : PV → Mem → Prop} (h : G_cmp_isNaN_int.sh a0 u0 K) : CallP Try.prog 108 [(pI a0)] u0 K :=
  VF_sound (E := ⟨Try.prog, 6, [], [], [], [], [], [], []⟩) (rs := [.tmp 2]) Try.func108 rfl rfl rfl (by kernel_rfl) (by kernel_rfl) (G_cmp_isNaN_int.ok a0 u0 K ▸ h)


/-- cmp.isNaN[string] -/
def G_cmp_isNaN_string.sh (a0 : ByteArray) (u0 : Mem) (R : PV → Mem → Prop) : Prop :=
  R (pB (!strEq a0 a0)) u0

theorem G_cmp_isNaN_string.ok (a0 : ByteArray) (u0 : Mem) (R : PV → Mem → Prop) : G_cmp_isNaN_string.sh a0 u0 R = VF ⟨Try.prog, 6, [], [], [], [], [], [], []⟩ ((Try.f109.body).getD .skip) [.tmp 2] [(pS a0)] u0 R := by kernel_rfl

theorem G_cmp_isNaN_string.c {a0 : ByteArray} {u0 : Mem} {K : PV → Mem → Prop} (h : G_cmp_isNaN_string.sh a0 u0 K) : CallP Try.prog 109 [(pS a0)] u0 K :=
  VF_sound (E := ⟨Try.prog, 6, [], [], [], [], [], [], []⟩) (rs := [.tmp 2]) Try.func109 rfl rfl rfl (by kernel_rfl) (by kernel_rfl) (G_cmp_isNaN_string.ok a0 u0 K ▸ h)


/-- (ponder/api.Elem).Compare -/
def G_api_Elem_Compare.sh (a0a : Int) (a0b : ByteArray) (a0c : Int) (a0d : Int) (a0e : ByteArray) (a0f : Int) (a0g : Int) (a0h : ByteArray) (a0i : Int) (a0j : Bool) (a0k : Bool) (a0l : Int) (a1a : Int) (a1b : ByteArray) (a1c : Int) (a1d : Int) (a1e : ByteArray) (a1f : Int) (a1g : Int) (a1h : ByteArray) (a1i : Int) (a1j : Bool) (a1k : Bool) (a1l : Int) (u0 : Mem) (R : PV → Mem → Prop) : Prop :=
  CallP Try.prog 105 [(.agg [(pI a0a), (pS a0b), (pI a0c)]), (.agg [(pI a1a), (pS a1b), (pI a1c)])] u0 fun v u =>
  ∃ (x12 : Int), v = (pI x12) ∧
  CIf ((x12 : Int) != (0))
  (R (pI x12) u)
  (CallP Try.prog 105 [(.agg [(pI a0d), (pS a0e), (pI a0f)]), (.agg [(pI a1d), (pS a1e), (pI a1f)])] u fun v_1 u_1 =>
    ∃ (x20 : Int), v_1 = (pI x20) ∧
    CIf ((x20 : Int) != (0))
    (R (pI x20) u_1)
    (CallP Try.prog 105 [(.agg [(pI a0g), (pS a0h), (pI a0i)]), (.agg [(pI a1g), (pS a1h), (pI a1i)])] u_1 fun v_2 u_2 =>
      ∃ (x28 : Int), v_2 = (pI x28) ∧
      CIf ((x28 : Int) != (0))
      (R (pI x28) u_2)
      (CIf (a0j == a1j)
        (R (pI (0)) u_2)
        (CIf a1j
          (R (pI (-1)) u_2)
          (R (pI (1)) u_2)))))

theorem G_api_Elem_Compare.ok (a0a : Int) (a0b : ByteArray) (a0c : Int) (a0d : Int) (a0e : ByteArray) (a0f : Int) (a0g : Int) (a0h : ByteArray) (a0i : Int) (a0j : Bool) (a0k : Bool) (a0l : Int) (a1a : Int) (a1b : ByteArray) (a1c : Int) (a1d : Int) (a1e : ByteArray) (a1f : Int) (a1g : Int) (a1h : ByteArray) (a1i : Int) (a1j : Bool) (a1k : Bool) (a1l : Int) (u0 : Mem) (R : PV → Mem → Prop) : G_api_Elem_Compare.sh a0a a0b a0c a0d a0e a0f a0g a0h a0i a0j a0k a0l a1a a1b a1c a1d a1e a1f a1g a1h a1i a1j a1k a1l u0 R = VF ⟨Try.prog, 41, [2, 3], [], [], [], [], [], []⟩ ((Try.f110.body).getD .skip) [.tmp 4] [(.agg [(pI a0a), (pS a0b), (pI a0c), (pI a0d), (pS a0e), (pI a0f), (pI a0g), (pS a0h), (pI a0i), (pB a0j), (pB a0k), (pI a0l)]), (.agg [(pI a1a), (pS a1b), (pI a1c), (pI a1d), (pS a1e), (pI a1f), (pI a1g), (pS a1h), (pI a1i), (pB a1j), (pB a1k), (pI a1l)])] u0 R := by kernel_rfl

theorem G_api_Elem_Compare.c {a0a : Int} {a0b : ByteArray} {a0c : Int} {a0d : Int} {a0e : ByteArray} {a0f : Int} {a0g : Int} {a0h : ByteArray} {a0i : Int} {a0j : Bool} {a0k : Bool} {a0l : Int} {a1a : Int} {a1b : ByteArray} {a1c : Int} {a1d : Int} {a1e : ByteArray} {a1f : Int} {a1g : Int} {a1h : ByteArray} {a1i : Int} {a1j : Bool} {a1k : Bool} {a1l : Int} {u0 : Mem} {K : PV → Mem → Prop} (h : G_api_Elem_Compare.sh a0a a0b a0c a0d a0e a0f a0g a0h a0i a0j a0k a0l a1a a1b a1c a1d a1e a1f a1g a1h a1i a1j a1k a1l u0 K) : CallP Try.prog 110 [(.agg [(pI a0a), (pS a0b), (pI a0c), (pI a0d), (pS a0e), (pI a0f), (pI a0g), (pS a0h), (pI a0i), (pB a0j), (pB a0k), (pI a0l)]), (.agg [(pI a1a), (pS a1b), (pI a1c), (pI a1d), (pS a1e), (pI a1f), (pI a1g), (pS a1h), (pI a1i), (pB a1j), (pB a1k), (pI a1l)])] u0 K :=
  VF_sound (E := ⟨Try.prog, 41, [2, 3], [], [], [], [], [], []⟩) (rs := [.tmp 4]) Try.func110 rfl rfl rfl (by kernel_rfl) (by kernel_rfl) (G_api_Elem_Compare.ok a0a a0b a0c a0d a0e a0f a0g a0h a0i a0j a0k a0l a1a a1b a1c a1d a1e a1f a1g a1h a1i a1j a1k a1l u0 K ▸ h)


/-- (ponder/alpha.number).Compare -/
def G_alpha_number_Compare.sh (a0 : Int) (a1 : Int) (u0 : Mem) (R : PV → Mem → Prop) : Prop :=
  CIf (decide ((a0 : Int) < a1))
  (R (pI (-1)) u0)
  (CIf (decide ((a0 : Int) > a1))
    (R (pI (1)) u0)
    (R (pI (0)) u0))

theorem G_alpha_number_Compare.ok (a0 : Int) (a1 : Int) (u0 : Mem) (R : PV → Mem → Prop) : G_alpha_number_Compare.sh a0 a1 u0 R = VF ⟨Try.prog, 13, [], [], [], [], [], [], []⟩ ((Try.f112.body).getD .skip) [.tmp 4] [(pI a0), (pI a1)] u0 R := by kernel_rfl

theorem G_alpha_number_Compare.c {a0 : Int} {a1 : Int} {u0 : Mem} {K : PV → Mem → Prop} (h : G_alpha_number_Compare.sh a0 a1 u0 K) : CallP Try.prog 112 [(pI a0), (pI a1)] u0 K :=
  VF_sound (E := ⟨Try.prog, 13, [], [], [], [], [], [], []⟩) (rs := [.tmp 4]) Try.func112 rfl rfl rfl (by kernel_rfl) (by kernel_rfl) (G_alpha_number_Compare.ok a0 a1 u0 K ▸ h)


/-- (ponder/alpha.tagged).Compare -/
def G_alpha_tagged_Compare.sh (a0a : Int) (a0b : ByteArray) (a0c : Int) (a0d : Int) (a0e : ByteArray) (a0f : Int) (a0g : Int) (a0h : ByteArray) (a0i : Int) (a0j : Bool) (a0k : Bool) (a0l : Int) (a1a : Int) (a1b : ByteArray) (a1c : Int) (a1d : Int) (a1e : ByteArray) (a1f : Int) (a1g : Int) (a1h : ByteArray) (a1i : Int) (a1j : Bool) (a1k : Bool) (a1l : Int) (u0 : Mem) (R : PV → Mem → Prop) : Prop :=
  CallP Try.prog 112 [(pI a0l), (pI a1l)] u0 fun v u =>
  ∃ (x9 : Int), v = (pI x9) ∧
  R (pI x9) u

theorem G_alpha_tagged_Compare.ok (a0a : Int) (a0b : ByteArray) (a0c : Int) (a0d : Int) (a0e : ByteArray) (a0f : Int) (a0g : Int) (a0h : ByteArray) (a0i : Int) (a0j : Bool) (a0k : Bool) (a0l : Int) (a1a : Int) (a1b : ByteArray) (a1c : Int) (a1d : Int) (a1e : ByteArray) (a1f : Int) (a1g : Int) (a1h : ByteArray) (a1i : Int) (a1j : Bool) (a1k : Bool) (a1l : Int) (u0 : Mem) (R : PV → Mem → Prop) : G_alpha_tagged_Compare.sh a0a a0b a0c a0d a0e a0f a0g a0h a0i a0j a0k a0l a1a a1b a1c a1d a1e a1f a1g a1h a1i a1j a1k a1l u0 R = VF ⟨Try.prog, 10, [2, 3], [], [], [], [], [], []⟩ ((Try.f115.body).getD .skip) [.tmp 4] [(.agg [(pI a0a), (pS a0b), (pI a0c), (pI a0d), (pS a0e), (pI a0f), (pI a0g), (pS a0h), (pI a0i), (pB a0j), (pB a0k), (pI a0l)]), (.agg [(pI a1a), (pS a1b), (pI a1c), (pI a1d), (pS a1e), (pI a1f), (pI a1g), (pS a1h), (pI a1i), (pB a1j), (pB a1k), (pI a1l)])] u0 R := by kernel_rfl

theorem G_alpha_tagged_Compare.c {a0a : Int} {a0b : ByteArray} {a0c : Int} {a0d : Int} {a0e : ByteArray} {a0f : Int} {a0g : Int} {a0h : ByteArray} {a0i : Int} {a0j : Bool} {a0k : Bool} {a0l : Int} {a1a : Int} {a1b : ByteArray} {a1c : Int} {a1d : Int} {a1e : ByteArray} {a1f : Int} {a1g : Int} {a1h : ByteArray} {a1i : Int} {a1j : Bool} {a1k : Bool} {a1l : Int} {u0 : Mem} {K : PV → Mem → Prop} (h : G_alpha_tagged_Compare.sh a0a a0b a0c a0d a0e a0f a0g a0h a0i a0j a0k a0l a1a a1b a1c a1d a1e a1f a1g a1h a1i a1j a1k a1l u0 K) : CallP Try.prog 115 [(.agg [(pI a0a), (pS a0b), (pI a0c), (pI a0d), (pS a0e), (pI a0f), (pI a0g), (pS a0h), (pI a0i), (pB a0j), (pB a0k), (pI a0l)]), (.agg [(pI a1a), (pS a1b), (pI a1c), (pI a1d), (pS a1e), (pI a1f), (pI a1g), (pS a1h), (pI a1i), (pB a1j), (pB a1k), (pI a1l)])] u0 K :=
  VF_sound (E := ⟨Try.prog, 10, [2, 3], [], [], [], [], [], []⟩) (rs := [.tmp 4]) Try.func115 rfl rfl rfl (by kernel_rfl) (by kernel_rfl) (G_alpha_tagged_Compare.ok a0a a0b a0c a0d a0e a0f a0g a0h a0i a0j a0k a0l a1a a1b a1c a1d a1e a1f a1g a1h a1i a1j a1k a1l u0 K ▸ h)


/-- (ponder/book.page[ponder/alpha.number, ponder/api.Elem]).Compare -/
def G_book_page_alpha_number_api_Elem_Compare.sh (a0a : Int) (a0b : Int) (a0c : ByteArray) (a0d : Int) (a0e : Int) (a0f : ByteArray) (a0g : Int) (a0h : Int) (a0i : ByteArray) (a0j : Int) (a0k : Bool) (a0l : Bool) (a0m : Int) (a1a : Int) (a1b : Int) (a1c : ByteArray) (a1d : Int) (a1e : Int) (a1f : ByteArray) (a1g : Int) (a1h : Int) (a1i : ByteArray) (a1j : Int) (a1k : Bool) (a1l : Bool) (a1m : Int) (u0 : Mem) (R : PV → Mem → Prop) : Prop :=
  (∀ v, pv Try.prog (method (Try.prog.types.size + Made.depth) 72 v "Compare") = some (112, v)) ∧
  CallP Try.prog 112 [(pI a0a), (pI a1a)] u0 fun v u =>
  ∃ (x10 : Int), v = (pI x10) ∧
  R (pI x10) u

theorem G_book_page_alpha_number_api_Elem_Compare.ok (a0a : Int) (a0b : Int) (a0c : ByteArray) (a0d : Int) (a0e : Int) (a0f : ByteArray) (a0g : Int) (a0h : Int) (a0i : ByteArray) (a0j : Int) (a0k : Bool) (a0l : Bool) (a0m : Int) (a1a : Int) (a1b : Int) (a1c : ByteArray) (a1d : Int) (a1e : Int) (a1f : ByteArray) (a1g : Int) (a1h : Int) (a1i : ByteArray) (a1j : Int) (a1k : Bool) (a1l : Bool) (a1m : Int) (u0 : Mem) (R : PV → Mem → Prop) : G_book_page_alpha_number_api_Elem_Compare.sh a0a a0b a0c a0d a0e a0f a0g a0h a0i a0j a0k a0l a0m a1a a1b a1c a1d a1e a1f a1g a1h a1i a1j a1k a1l a1m u0 R = VF ⟨Try.prog, 11, [2, 3], [], [], [], [], [], []⟩ ((Try.f117.body).getD .skip) [.tmp 4] [(.agg [(pI a0a), (pI a0b), (pS a0c), (pI a0d), (pI a0e), (pS a0f), (pI a0g), (pI a0h), (pS a0i), (pI a0j), (pB a0k), (pB a0l), (pI a0m)]), (.agg [(pI a1a), (pI a1b), (pS a1c), (pI a1d), (pI a1e), (pS a1f), (pI a1g), (pI a1h), (pS a1i), (pI a1j), (pB a1k), (pB a1l), (pI a1m)])] u0 R := by kernel_rfl

theorem G_book_page_alpha_number_api_Elem_Compare.c {a0a : Int} {a0b : Int} {a0c : ByteArray} {a0d : Int} {a0e : Int} {a0f : ByteArray} {a0g : Int} {a0h : Int} {a0i : ByteArray} {a0j : Int} {a0k : Bool} {a0l : Bool} {a0m : Int} {a1a : Int} {a1b : Int} {a1c : ByteArray} {a1d : Int} {a1e : Int} {a1f : ByteArray} {a1g : Int} {a1h : Int} {a1i : ByteArray} {a1j : Int} {a1k : Bool} {a1l : Bool} {a1m : Int} {u0 : Mem} {K : PV → Mem → Prop} (h : G_book_page_alpha_number_api_Elem_Compare.sh a0a a0b a0c a0d a0e a0f a0g a0h a0i a0j a0k a0l a0m a1a a1b a1c a1d a1e a1f a1g a1h a1i a1j a1k a1l a1m u0 K) : CallP Try.prog 117 [(.agg [(pI a0a), (pI a0b), (pS a0c), (pI a0d), (pI a0e), (pS a0f), (pI a0g), (pI a0h), (pS a0i), (pI a0j), (pB a0k), (pB a0l), (pI a0m)]), (.agg [(pI a1a), (pI a1b), (pS a1c), (pI a1d), (pI a1e), (pS a1f), (pI a1g), (pI a1h), (pS a1i), (pI a1j), (pB a1k), (pB a1l), (pI a1m)])] u0 K :=
  VF_sound (E := ⟨Try.prog, 11, [2, 3], [], [], [], [], [], []⟩) (rs := [.tmp 4]) Try.func117 rfl rfl rfl (by kernel_rfl) (by kernel_rfl) (G_book_page_alpha_number_api_Elem_Compare.ok a0a a0b a0c a0d a0e a0f a0g a0h a0i a0j a0k a0l a0m a1a a1b a1c a1d a1e a1f a1g a1h a1i a1j a1k a1l a1m u0 K ▸ h)


/-- (ponder/book.page[ponder/alpha.number, ponder/alpha.memory]).Compare -/
def G_book_page_alpha_number_alpha_memory_Compare.sh (a0a : Int) (a0b : Int) (a0c : Bool) (a0d : ByteArray) (a0ef : Fl) (a0e : List (List PV)) (a0ff : Fl) (a0f : List (List PV)) (a0g : Bool) (a0hf : Fl) (a0h : List (List PV)) (a0i : Int) (a0j : Option Addr) (a1a : Int) (a1b : Int) (a1c : Bool) (a1d : ByteArray) (a1ef : Fl) (a1e : List (List PV)) (a1ff : Fl) (a1f : List (List PV)) (a1g : Bool) (a1hf : Fl) (a1h : List (List PV)) (a1i : Int) (a1j : Option Addr) (u0 : Mem) (R : PV → Mem → Prop) : Prop :=
  (∀ v, pv Try.prog (method (Try.prog.types.size + Made.depth) 72 v "Compare") = some (112, v)) ∧
  CallP Try.prog 112 [(pI a0a), (pI a1a)] u0 fun v u =>
  ∃ (x10 : Int), v = (pI x10) ∧
  R (pI x10) u

theorem G_book_page_alpha_number_alpha_memory_Compare.ok (a0a : Int) (a0b : Int) (a0c : Bool) (a0d : ByteArray) (a0ef : Fl) (a0e : List (List PV)) (a0ff : Fl) (a0f : List (List PV)) (a0g : Bool) (a0hf : Fl) (a0h : List (List PV)) (a0i : Int) (a0j : Option Addr) (a1a : Int) (a1b : Int) (a1c : Bool) (a1d : ByteArray) (a1ef : Fl) (a1e : List (List PV)) (a1ff : Fl) (a1f : List (List PV)) (a1g : Bool) (a1hf : Fl) (a1h : List (List PV)) (a1i : Int) (a1j : Option Addr) (u0 : Mem) (R : PV → Mem → Prop) : G_book_page_alpha_number_alpha_memory_Compare.sh a0a a0b a0c a0d a0ef a0e a0ff a0f a0g a0hf a0h a0i a0j a1a a1b a1c a1d a1ef a1e a1ff a1f a1g a1hf a1h a1i a1j u0 R = VF ⟨Try.prog, 11, [2, 3], [], [], [], [], [], []⟩ ((Try.f118.body).getD .skip) [.tmp 4] [(.agg [(pI a0a), (pI a0b), (pB a0c), (pS a0d), (.list 6 a0ef a0e), (.list 6 a0ff a0f), (pB a0g), (.list 7 a0hf a0h), (pI a0i), (.raw (.pointer a0j))]), (.agg [(pI a1a), (pI a1b), (pB a1c), (pS a1d), (.list 6 a1ef a1e), (.list 6 a1ff a1f), (pB a1g), (.list 7 a1hf a1h), (pI a1i), (.raw (.pointer a1j))])] u0 R := by kernel_rfl

theorem G_book_page_alpha_number_alpha_memory_Compare.c {a0a : Int} {a0b : Int} {a0c : Bool} {a0d : ByteArray} {a0ef : Fl} {a0e : List (List PV)} {a0ff : Fl} {a0f : List (List PV)} {a0g : Bool} {a0hf : Fl} {a0h : List (List PV)} {a0i : Int} {a0j : Option Addr} {a1a : Int} {a1b : Int} {a1c : Bool} {a1d : ByteArray} {a1ef : Fl} {a1e : List (List PV)} {a1ff : Fl} {a1f : List (List PV)} {a1g : Bool} {a1hf : Fl} {a1h : List (List PV)} {a1i : Int} {a1j : Option Addr} {u0 : Mem} {K : PV → Mem → Prop} (h : G_book_page_alpha_number_alpha_memory_Compare.sh a0a a0b a0c a0d a0ef a0e a0ff a0f a0g a0hf a0h a0i a0j a1a a1b a1c a1d a1ef a1e a1ff a1f a1g a1hf a1h a1i a1j u0 K) : CallP Try.prog 118 [(.agg [(pI a0a), (pI a0b), (pB a0c), (pS a0d), (.list 6 a0ef a0e), (.list 6 a0ff a0f), (pB a0g), (.list 7 a0hf a0h), (pI a0i), (.raw (.pointer a0j))]), (.agg [(pI a1a), (pI a1b), (pB a1c), (pS a1d), (.list 6 a1ef a1e), (.list 6 a1ff a1f), (pB a1g), (.list 7 a1hf a1h), (pI a1i), (.raw (.pointer a1j))])] u0 K :=
  VF_sound (E := ⟨Try.prog, 11, [2, 3], [], [], [], [], [], []⟩) (rs := [.tmp 4]) Try.func118 rfl rfl rfl (by kernel_rfl) (by kernel_rfl) (G_book_page_alpha_number_alpha_memory_Compare.ok a0a a0b a0c a0d a0ef a0e a0ff a0f a0g a0hf a0h a0i a0j a1a a1b a1c a1d a1ef a1e a1ff a1f a1g a1hf a1h a1i a1j u0 K ▸ h)


end Go.Proofs.Ytdiimonfmdbclaa

/- All formulas. -/
