import Derived.Test.YtfjemjnbemdkgaaQ07
import Derived.Test.YtfjemjnbemdkgaaChecked
import Derived.KernelRfl
import Derived.ChangeArms
import Derived.WideShapes
import Derived.DataReads
/- What functions of the program ask of plain values: printed, and held against the code by the kernel. -/
namespace Go.Proofs.Ytfjemjnbemdkgaa
open Go.Eng
set_option maxRecDepth 100000
set_option linter.unusedVariables false

/-- (*ponder/shape.known).inner -/
def G_shape_known_inner.sh (a0 : Option Addr) (u0 : Mem) (R : PV → Mem → Prop) : Prop :=
  nn a0
  (withPtrP (.raw (.pointer a0)) fun b o =>
    ∃ (x6 : Option Addr), rdM u0 b o 1 = some [(.raw (.pointer x6))] ∧
    CallP Try.prog 100 [(.raw (.pointer x6))] u0 fun v u =>
    ∃ (x7 : Option Addr), v = (.raw (.pointer x7)) ∧
    ∀ (b9 : Nat), u b9 = none →
    R (pP b9 0) (Mem.set u b9 (some (.cells 108 [(.raw (.pointer x7)), (.list 1 .nil [])]))))

theorem G_shape_known_inner.ok (a0 : Option Addr) (u0 : Mem) (R : PV → Mem → Prop) : G_shape_known_inner.sh a0 u0 R = VF ⟨Try.prog, 10, [], [], [], [], [], [], []⟩ ((Try.f91.body).getD .skip) [.tmp 2] [(.raw (.pointer a0))] u0 R := by kernel_rfl

theorem G_shape_known_inner.c {a0 : Option Addr} {u0 : Mem} {K : PV → Mem → Prop} (h : G_shape_known_inner.sh a0 u0 K) : CallP Try.prog 91 [(.raw (.pointer a0))] u0 K :=
  VF_sound (E := ⟨Try.prog, 10, [], [], [], [], [], [], []⟩) (rs := [.tmp 2]) Try.func91 rfl rfl rfl (by kernel_rfl) (by kernel_rfl) (G_shape_known_inner.ok a0 u0 K ▸ h)


/-- (*ponder/shape.known).one -/
def G_shape_known_one.sh (a0 : Option Addr) (a1a : Int) (a1b : Bool) (a1c : ByteArray) (a1df : Fl) (a1d : List (List PV)) (a1ef : Fl) (a1e : List (List PV)) (a1f : Bool) (a1gf : Fl) (a1g : List (List PV)) (u0 : Mem) (R : PV → Mem → Prop) : Prop :=
  CJoin (α := Unit) (fun J =>
    CIf a1b
    (CallP Try.prog 101 [(.raw (.pointer a0)), (pS a1c)] u0 fun v u_1 =>
       v = (.tup []) ∧
      J () u_1)
    (J () u0))
  (fun s u =>
    CallP Try.prog 93 [(.raw (.pointer a0)), (pS a1c)] u fun v_1 u_2 =>
    ∃ (x14 : Bool), v_1 = (pB x14) ∧
    CIf x14
    (CallP Try.prog 102 [(.raw (.pointer a0)), (.list 6 a1df a1d)] u_2 fun v_2 u_3 =>
      ∃ (x19 : Bool), v_2 = (pB x19) ∧
      CIf x19
      (CallP Try.prog 102 [(.raw (.pointer a0)), (.list 6 a1ef a1e)] u_3 fun v_3 u_4 =>
        ∃ (x25 : Bool), v_3 = (pB x25) ∧
        R (pB x25) u_4)
      (R (pB false) u_3))
    (R (pB false) u_2))

theorem G_shape_known_one.ok (a0 : Option Addr) (a1a : Int) (a1b : Bool) (a1c : ByteArray) (a1df : Fl) (a1d : List (List PV)) (a1ef : Fl) (a1e : List (List PV)) (a1f : Bool) (a1gf : Fl) (a1g : List (List PV)) (u0 : Mem) (R : PV → Mem → Prop) : G_shape_known_one.sh a0 a1a a1b a1c a1df a1d a1ef a1e a1f a1gf a1g u0 R = VF ⟨Try.prog, 27, [3], [], [(3, ⟨[], []⟩)], [], [], [], []⟩ ((Try.f92.body).getD .skip) [.tmp 4] [(.raw (.pointer a0)), (.agg [(pI a1a), (pB a1b), (pS a1c), (.list 6 a1df a1d), (.list 6 a1ef a1e), (pB a1f), (.list 7 a1gf a1g)])] u0 R := by kernel_rfl

theorem G_shape_known_one.c {a0 : Option Addr} {a1a : Int} {a1b : Bool} {a1c : ByteArray} {a1df : Fl} {a1d : List (List PV)} {a1ef : Fl} {a1e : List (List PV)} {a1f : Bool} {a1gf : Fl} {a1g : List (List PV)} {u0 : Mem} {K : PV → Mem → Prop} (h : G_shape_known_one.sh a0 a1a a1b a1c a1df a1d a1ef a1e a1f a1gf a1g u0 K) : CallP Try.prog 92 [(.raw (.pointer a0)), (.agg [(pI a1a), (pB a1b), (pS a1c), (.list 6 a1df a1d), (.list 6 a1ef a1e), (pB a1f), (.list 7 a1gf a1g)])] u0 K :=
  VF_sound (E := ⟨Try.prog, 27, [3], [], [(3, ⟨[], []⟩)], [], [], [], []⟩) (rs := [.tmp 4]) Try.func92 rfl rfl rfl (by kernel_rfl) (by kernel_rfl) (G_shape_known_one.ok a0 a1a a1b a1c a1df a1d a1ef a1e a1f a1gf a1g u0 K ▸ h)


/-- (*ponder/shape.known).has -/
def G_shape_known_has.sh (a0 : Option Addr) (a1 : ByteArray) (u0 : Mem) (R : PV → Mem → Prop) : Prop :=
  nn a0
  (withPtrP (.raw (.pointer a0)) fun b o =>
    ∃ (x11 : Option Addr), rdM u0 b o 1 = some [(.raw (.pointer x11))] ∧
    CallP Try.prog 103 [(.raw (.pointer x11)), (pS a1)] u0 fun v u =>
    ∃ (x13p : Int), ∃ (x13q : Bool), v = (.tup [(pI x13p), (pB x13q)]) ∧
    R (pB x13q) u)

theorem G_shape_known_has.ok (a0 : Option Addr) (a1 : ByteArray) (u0 : Mem) (R : PV → Mem → Prop) : G_shape_known_has.sh a0 a1 u0 R = VF ⟨Try.prog, 17, [], [], [], [], [], [], []⟩ ((Try.f93.body).getD .skip) [.tmp 4] [(.raw (.pointer a0)), (pS a1)] u0 R := by kernel_rfl

theorem G_shape_known_has.c {a0 : Option Addr} {a1 : ByteArray} {u0 : Mem} {K : PV → Mem → Prop} (h : G_shape_known_has.sh a0 a1 u0 K) : CallP Try.prog 93 [(.raw (.pointer a0)), (pS a1)] u0 K :=
  VF_sound (E := ⟨Try.prog, 17, [], [], [], [], [], [], []⟩) (rs := [.tmp 4]) Try.func93 rfl rfl rfl (by kernel_rfl) (by kernel_rfl) (G_shape_known_has.ok a0 a1 u0 K ▸ h)


/-- ponder/sym.great -/
def G_sym_great.sh (a0 : Int) (u0 : Mem) (R : PV → Mem → Prop) : Prop :=
  CIf (decide ((a0 : Int) ≥ (65)))
  (R (pB (decide ((a0 : Int) ≤ (90)))) u0)
  (R (pB false) u0)

theorem G_sym_great.ok (a0 : Int) (u0 : Mem) (R : PV → Mem → Prop) : G_sym_great.sh a0 u0 R = VF ⟨Try.prog, 9, [], [], [], [], [], [], []⟩ ((Try.f94.body).getD .skip) [.tmp 2] [(.raw (.int .u8 a0))] u0 R := by kernel_rfl

theorem G_sym_great.c {a0 : Int} {u0 : Mem} {K : PV → Mem → Prop} (h : G_sym_great.sh a0 u0 K) : CallP Try.prog 94 [(.raw (.int .u8 a0))] u0 K :=
  VF_sound (E := ⟨Try.prog, 9, [], [], [], [], [], [], []⟩) (rs := [.tmp 2]) Try.func94 rfl rfl rfl (by kernel_rfl) (by kernel_rfl) (G_sym_great.ok a0 u0 K ▸ h)


/-- ponder/ponderref06.test -/
def G_ponderref06_test.sh (a0a : Int) (a0b : ByteArray) (a0c : Int) (a0d : ByteArray) (a0e : Int) (a0ff : Fl) (a0f : List (List PV)) (u0 : Mem) (R : PV → Mem → Prop) : Prop :=
  CIf ((a0a : Int) == (8))
  (CIf (!strEq a0b ⟨#[]⟩)
    (R (pB false) u0)
    (CIf (!((a0c == (0)) && (strEq a0d ⟨#[]⟩ && ((a0e == (0)) && true))))
      (R (pB false) u0)
      (CIf (decide ((((List.length a0f : Nat) : Int) : Int) < (1)))
        (R (pB false) u0)
        (CIf (decide ((((List.length a0f : Nat) : Int) : Int) > (8)))
          (R (pB false) u0)
          (LoopI (α := Int) (fun next s u =>
              CIf (decide ((s : Int) < ((List.length a0f : Nat) : Int)))
              ((0 : Int) ≤ s ∧ ∃ (r38 : List PV), (a0f)[Int.toNat s]? = some r38 ∧
                ∃ (x39a : Int), ∃ (x39b : ByteArray), ∃ (x39c : Int), rowM r38 0 3 = some [(pI x39a), (pS x39b), (pI x39c)] ∧
                CallP Try.prog 88 [(.agg [(pI x39a), (pS x39b), (pI x39c)])] u fun v u_1 =>
                ∃ (x40 : Bool), v = (pB x40) ∧
                CIf (!x40)
                (R (pB false) u_1)
                (next (IntKind.wrap .i64 (s + (1))) u_1))
              (R (pB true) u))
            (0) u0)))))
  (CIf (decide ((a0a : Int) ≥ (1)))
    (CIf (decide ((a0a : Int) ≤ (7)))
      (CIf ((((List.length a0f : Nat) : Int) : Int) == (0))
        (CallP Try.prog 73 [(.agg [(pS a0b), (pI a0c), (pS a0d), (pI a0e)])] u0 fun v_1 u_2 =>
          ∃ (x62 : Bool), v_1 = (pB x62) ∧
          R (pB x62) u_2)
        (R (pB false) u0))
      (R (pB false) u0))
    (R (pB false) u0))

theorem G_ponderref06_test.ok (a0a : Int) (a0b : ByteArray) (a0c : Int) (a0d : ByteArray) (a0e : Int) (a0ff : Fl) (a0f : List (List PV)) (u0 : Mem) (R : PV → Mem → Prop) : G_ponderref06_test.sh a0a a0b a0c a0d a0e a0ff a0f u0 R = VF ⟨Try.prog, 64, [1], [(5, ⟨[(3, .one (.raw (.int .i64)))], []⟩)], [], [], [], [], []⟩ ((Try.f95.body).getD .skip) [.tmp 2] [(.agg [(pI a0a), (pS a0b), (pI a0c), (pS a0d), (pI a0e), (.list 3 a0ff a0f)])] u0 R := by kernel_rfl

theorem G_ponderref06_test.c {a0a : Int} {a0b : ByteArray} {a0c : Int} {a0d : ByteArray} {a0e : Int} {a0ff : Fl} {a0f : List (List PV)} {u0 : Mem} {K : PV → Mem → Prop} (h : G_ponderref06_test.sh a0a a0b a0c a0d a0e a0ff a0f u0 K) : CallP Try.prog 95 [(.agg [(pI a0a), (pS a0b), (pI a0c), (pS a0d), (pI a0e), (.list 3 a0ff a0f)])] u0 K :=
  VF_sound (E := ⟨Try.prog, 64, [1], [(5, ⟨[(3, .one (.raw (.int .i64)))], []⟩)], [], [], [], [], []⟩) (rs := [.tmp 2]) Try.func95 rfl rfl rfl (by kernel_rfl) (by kernel_rfl) (G_ponderref06_test.ok a0a a0b a0c a0d a0e a0ff a0f u0 K ▸ h)


/-- ponder/ponderref04.Valid -/
def G_ponderref04_Valid.sh (a0a : Int) (a0b : ByteArray) (a0c : Int) (u0 : Mem) (R : PV → Mem → Prop) : Prop :=
  CIf ((a0a : Int) == (1))
  (CIf ((((ByteArray.size a0b : Nat) : Int) : Int) == (1))
    ((0 : Int) ≤ (0) ∧ ∃ c14 : UInt8, a0b[Int.toNat (0)]? = some c14 ∧
      CIf (decide ((((UInt8.toNat c14 : Nat) : Int) : Int) ≥ (65)))
      ((0 : Int) ≤ (0) ∧ ∃ c20 : UInt8, a0b[Int.toNat (0)]? = some c20 ∧
        CIf (decide ((((UInt8.toNat c20 : Nat) : Int) : Int) ≤ (90)))
        (CIf (decide ((a0c : Int) ≥ (1)))
          (R (pB (decide ((a0c : Int) ≤ (1048576)))) u0)
          (R (pB false) u0))
        (R (pB false) u0))
      (R (pB false) u0))
    (R (pB false) u0))
  (CIf ((a0a : Int) == (2))
    (CIf (strEq a0b ⟨#[]⟩)
      (CIf (decide ((a0c : Int) ≥ (-2147483647)))
        (R (pB (decide ((a0c : Int) ≤ (2147483647)))) u0)
        (R (pB false) u0))
      (R (pB false) u0))
    (CIf ((a0a : Int) == (3))
      (CIf ((a0c : Int) == (0))
        (CallP Try.prog 44 [(pS a0b)] u0 fun v u =>
          ∃ (x56 : Bool), v = (pB x56) ∧
          R (pB x56) u)
        (R (pB false) u0))
      (R (pB false) u0)))

theorem G_ponderref04_Valid.ok (a0a : Int) (a0b : ByteArray) (a0c : Int) (u0 : Mem) (R : PV → Mem → Prop) : G_ponderref04_Valid.sh a0a a0b a0c u0 R = VF ⟨Try.prog, 58, [1], [], [], [], [], [], []⟩ ((Try.f96.body).getD .skip) [.tmp 2] [(.agg [(pI a0a), (pS a0b), (pI a0c)])] u0 R := by kernel_rfl

theorem G_ponderref04_Valid.c {a0a : Int} {a0b : ByteArray} {a0c : Int} {u0 : Mem} {K : PV → Mem → Prop} (h : G_ponderref04_Valid.sh a0a a0b a0c u0 K) : CallP Try.prog 96 [(.agg [(pI a0a), (pS a0b), (pI a0c)])] u0 K :=
  VF_sound (E := ⟨Try.prog, 58, [1], [], [], [], [], [], []⟩) (rs := [.tmp 2]) Try.func96 rfl rfl rfl (by kernel_rfl) (by kernel_rfl) (G_ponderref04_Valid.ok a0a a0b a0c u0 K ▸ h)


/-- ponder/ponderkeep.Copy[ponder/api.Sym] -/
def G_ponderkeep_Copy_api_Sym.sh (a0f : Fl) (a0 : List (List PV)) (u0 : Mem) (R : PV → Mem → Prop) : Prop :=
  appL false 3 32 .nil [] a0 u0 fun f4 u =>
  R (.list 3 f4 ([] ++ a0)) u

theorem G_ponderkeep_Copy_api_Sym.ok (a0f : Fl) (a0 : List (List PV)) (u0 : Mem) (R : PV → Mem → Prop) : G_ponderkeep_Copy_api_Sym.sh a0f a0 u0 R = VF ⟨Try.prog, 5, [], [], [], [], [], [], []⟩ ((Try.f97.body).getD .skip) [.tmp 2] [(.list 3 a0f a0)] u0 R := by kernel_rfl

theorem G_ponderkeep_Copy_api_Sym.c {a0f : Fl} {a0 : List (List PV)} {u0 : Mem} {K : PV → Mem → Prop} (h : G_ponderkeep_Copy_api_Sym.sh a0f a0 u0 K) : CallP Try.prog 97 [(.list 3 a0f a0)] u0 K :=
  VF_sound (E := ⟨Try.prog, 5, [], [], [], [], [], [], []⟩) (rs := [.tmp 2]) Try.func97 rfl rfl rfl (by kernel_rfl) (by kernel_rfl) (G_ponderkeep_Copy_api_Sym.ok a0f a0 u0 K ▸ h)


/-- ponder/ponderkeep.Copy[ponder/api.Sym] -/
def G_ponderkeep_Copy_api_Sym_s.sh (a0f : Fl) (a0 : List (List PV)) (u0 : Mem) (R : PV → Mem → Prop) : Prop :=
  appR 3 32 39 none 0 0 (.list 3 a0f a0) u0 fun s4 s4n s4c u =>
  R (.raw (.slice s4 s4n s4c)) u

theorem G_ponderkeep_Copy_api_Sym_s.ok (a0f : Fl) (a0 : List (List PV)) (u0 : Mem) (R : PV → Mem → Prop) : G_ponderkeep_Copy_api_Sym_s.sh a0f a0 u0 R = VF ⟨Try.prog, 5, [], [], [], [], [], [], [2, 4]⟩ ((Try.f97.body).getD .skip) [.tmp 2] [(.list 3 a0f a0)] u0 R := by kernel_rfl

theorem G_ponderkeep_Copy_api_Sym_s.c {a0f : Fl} {a0 : List (List PV)} {u0 : Mem} {K : PV → Mem → Prop} (h : G_ponderkeep_Copy_api_Sym_s.sh a0f a0 u0 K) : CallP Try.prog 97 [(.list 3 a0f a0)] u0 K :=
  VF_sound (E := ⟨Try.prog, 5, [], [], [], [], [], [], [2, 4]⟩) (rs := [.tmp 2]) Try.func97 rfl rfl rfl (by kernel_rfl) (by kernel_rfl) (G_ponderkeep_Copy_api_Sym_s.ok a0f a0 u0 K ▸ h)


/-- (*ponder/order.Set[ponder/shape.name]).find -/
def G_order_Set_shape_name_find.sh (a0 : Option Addr) (a1 : ByteArray) (u0 : Mem) (R : PV → Mem → Prop) : Prop :=
  nn a0
  (withPtrP (.raw (.pointer a0)) fun b o =>
    ∃ (x13f : Fl) (x13 : List (List PV)), rdM u0 b o 1 = some [(.list 1 x13f x13)] ∧
    LoopI (α := Int × Int) (fun next s u =>
      CIf (decide ((s.1 : Int) < s.2))
      (((2) : Int) ≠ 0 ∧
        nn a0
        (withPtrP (.raw (.pointer a0)) fun b_1 o_1 =>
          ∃ (x27f : Fl) (x27 : List (List PV)), rdM u b_1 o_1 1 = some [(.list 1 x27f x27)] ∧
          (0 : Int) ≤ (IntKind.wrap .i64 (s.1 + (IntKind.wrap .i64 (Int.tdiv (IntKind.wrap .i64 (s.2 - s.1)) (2))))) ∧ ∃ (r29 : List PV), (x27)[Int.toNat (IntKind.wrap .i64 (s.1 + (IntKind.wrap .i64 (Int.tdiv (IntKind.wrap .i64 (s.2 - s.1)) (2)))))]? = some r29 ∧
          ∃ (x30 : ByteArray), rowM r29 0 1 = some [(pS x30)] ∧
          (∀ v, pv Try.prog (method (Try.prog.types.size + Made.depth) 106 v "Compare") = some (124, v)) ∧
          CallP Try.prog 124 [(pS x30), (pS a1)] u fun v u_1 =>
          ∃ (x33 : Int), v = (pI x33) ∧
          CIf ((x33 : Int) == (0))
          (R (.tup [(pI (IntKind.wrap .i64 (s.1 + (IntKind.wrap .i64 (Int.tdiv (IntKind.wrap .i64 (s.2 - s.1)) (2)))))), (pB true)]) u_1)
          (CIf (decide ((x33 : Int) < (0)))
            (next ((IntKind.wrap .i64 ((IntKind.wrap .i64 (s.1 + (IntKind.wrap .i64 (Int.tdiv (IntKind.wrap .i64 (s.2 - s.1)) (2))))) + (1))), s.2) u_1)
            (next (s.1, (IntKind.wrap .i64 (s.1 + (IntKind.wrap .i64 (Int.tdiv (IntKind.wrap .i64 (s.2 - s.1)) (2)))))) u_1))))
      (R (.tup [(pI s.1), (pB false)]) u))
    ((0), ((List.length x13 : Nat) : Int)) u0)

theorem G_order_Set_shape_name_find.ok (a0 : Option Addr) (a1 : ByteArray) (u0 : Mem) (R : PV → Mem → Prop) : G_order_Set_shape_name_find.sh a0 a1 u0 R = VF ⟨Try.prog, 43, [], [(2, ⟨[(6, .one (.raw (.int .i64))), (7, .one (.raw (.int .i64)))], []⟩)], [], [], [], [], []⟩ ((Try.f98.body).getD .skip) [.tmp 4, .tmp 5] [(.raw (.pointer a0)), (pS a1)] u0 R := by kernel_rfl

theorem G_order_Set_shape_name_find.c {a0 : Option Addr} {a1 : ByteArray} {u0 : Mem} {K : PV → Mem → Prop} (h : G_order_Set_shape_name_find.sh a0 a1 u0 K) : CallP Try.prog 98 [(.raw (.pointer a0)), (pS a1)] u0 K :=
  VF_sound (E := ⟨Try.prog, 43, [], [(2, ⟨[(6, .one (.raw (.int .i64))), (7, .one (.raw (.int .i64)))], []⟩)], [], [], [], [], []⟩) (rs := [.tmp 4, .tmp 5]) Try.func98 rfl rfl rfl (by kernel_rfl) (by kernel_rfl) (G_order_Set_shape_name_find.ok a0 a1 u0 K ▸ h)


/-- (*ponder/order.Set[ponder/shape.name]).find -/
def G_order_Set_shape_name_find_r.sh (a0 : Option Addr) (a1 : ByteArray) (u0 : Mem) (R : PV → Mem → Prop) : Prop :=
  nn a0
  (withPtrP (.raw (.pointer a0)) fun b o =>
    ∃ (x13 : Option Addr) (x13n x13c : Nat), rdM u0 b o 1 = some [(.raw (.slice x13 x13n x13c))] ∧
    LoopI (α := Int × Int) (fun next s u =>
      CIf (decide ((s.1 : Int) < s.2))
      (((2) : Int) ≠ 0 ∧
        nn a0
        (withPtrP (.raw (.pointer a0)) fun b_1 o_1 =>
          ∃ (x27 : Option Addr) (x27n x27c : Nat), rdM u b_1 o_1 1 = some [(.raw (.slice x27 x27n x27c))] ∧
          withSl x27 fun b_2 o_2 =>
          (0 : Int) ≤ (IntKind.wrap .i64 (s.1 + (IntKind.wrap .i64 (Int.tdiv (IntKind.wrap .i64 (s.2 - s.1)) (2))))) ∧ (IntKind.wrap .i64 (s.1 + (IntKind.wrap .i64 (Int.tdiv (IntKind.wrap .i64 (s.2 - s.1)) (2))))) < ((x27n : Nat) : Int) ∧
          ∃ (x30 : ByteArray), rdM u b_2 (o_2 + Int.toNat (IntKind.wrap .i64 (s.1 + (IntKind.wrap .i64 (Int.tdiv (IntKind.wrap .i64 (s.2 - s.1)) (2))))) * 1) 1 = some [(pS x30)] ∧
          (∀ v, pv Try.prog (method (Try.prog.types.size + Made.depth) 106 v "Compare") = some (124, v)) ∧
          CallP Try.prog 124 [(pS x30), (pS a1)] u fun v u_1 =>
          ∃ (x33 : Int), v = (pI x33) ∧
          CIf ((x33 : Int) == (0))
          (R (.tup [(pI (IntKind.wrap .i64 (s.1 + (IntKind.wrap .i64 (Int.tdiv (IntKind.wrap .i64 (s.2 - s.1)) (2)))))), (pB true)]) u_1)
          (CIf (decide ((x33 : Int) < (0)))
            (next ((IntKind.wrap .i64 ((IntKind.wrap .i64 (s.1 + (IntKind.wrap .i64 (Int.tdiv (IntKind.wrap .i64 (s.2 - s.1)) (2))))) + (1))), s.2) u_1)
            (next (s.1, (IntKind.wrap .i64 (s.1 + (IntKind.wrap .i64 (Int.tdiv (IntKind.wrap .i64 (s.2 - s.1)) (2)))))) u_1))))
      (R (.tup [(pI s.1), (pB false)]) u))
    ((0), ((x13n : Nat) : Int)) u0)

theorem G_order_Set_shape_name_find_r.ok (a0 : Option Addr) (a1 : ByteArray) (u0 : Mem) (R : PV → Mem → Prop) : G_order_Set_shape_name_find_r.sh a0 a1 u0 R = VF ⟨Try.prog, 43, [], [(2, ⟨[(6, .one (.raw (.int .i64))), (7, .one (.raw (.int .i64)))], []⟩)], [], [], [], [], [13, 27]⟩ ((Try.f98.body).getD .skip) [.tmp 4, .tmp 5] [(.raw (.pointer a0)), (pS a1)] u0 R := by kernel_rfl

theorem G_order_Set_shape_name_find_r.c {a0 : Option Addr} {a1 : ByteArray} {u0 : Mem} {K : PV → Mem → Prop} (h : G_order_Set_shape_name_find_r.sh a0 a1 u0 K) : CallP Try.prog 98 [(.raw (.pointer a0)), (pS a1)] u0 K :=
  VF_sound (E := ⟨Try.prog, 43, [], [(2, ⟨[(6, .one (.raw (.int .i64))), (7, .one (.raw (.int .i64)))], []⟩)], [], [], [], [], [13, 27]⟩) (rs := [.tmp 4, .tmp 5]) Try.func98 rfl rfl rfl (by kernel_rfl) (by kernel_rfl) (G_order_Set_shape_name_find_r.ok a0 a1 u0 K ▸ h)


/-- (*ponder/order.Set[ponder/shape.name]).own -/
def G_order_Set_shape_name_own.sh (a0 : Option Addr) (u0 : Mem) (R : PV → Mem → Prop) : Prop :=
  nn a0
  (withPtrP (.raw (.pointer a0)) fun b o =>
    ∃ (x5 : Bool), rdM u0 b (o + 1) 1 = some [(pB x5)] ∧
    CIf x5
    (nn a0
      (withPtrP (.raw (.pointer a0)) fun b_1 o_1 =>
        ∃ (x10f : Fl) (x10 : List (List PV)), rdM u0 b_1 o_1 1 = some [(.list 1 x10f x10)] ∧
        nn a0
        (withPtrP (.raw (.pointer a0)) fun b_2 o_2 =>
          ∃ (x17f : Fl) (x17 : List (List PV)), rdM u0 b_2 o_2 1 = some [(.list 1 x17f x17)] ∧
          (0 : Int) ≤ (0) ∧ (0) ≤ (IntKind.wrap .i64 (((List.length x10 : Nat) : Int) + (1))) ∧ (IntKind.wrap .i64 (((List.length x10 : Nat) : Int) + (1))) < (4611686018427387904 : Int) ∧ Int.toNat (IntKind.wrap .i64 (((List.length x10 : Nat) : Int) + (1))) * 16 ≤ 140737488355328 ∧
          ∀ (b13 : Nat), u0 b13 = none →
          appR 1 16 106 (some ⟨b13, 0, none⟩) (Int.toNat (0)) (Int.toNat (IntKind.wrap .i64 (((List.length x10 : Nat) : Int) + (1)))) (.list 1 x17f x17) (Mem.set u0 b13 (some (.cells 106 (List.flatten (List.replicate (Int.toNat (IntKind.wrap .i64 (((List.length x10 : Nat) : Int) + (1)))) [(pS ⟨#[]⟩)]))))) fun s18 s18n s18c u =>
          nn a0
          (withPtrP (.raw (.pointer a0)) fun b_3 o_3 =>
            stM b_3 o_3 [(.raw (.slice s18 s18n s18c))] u fun u_1 =>
            nn a0
            (withPtrP (.raw (.pointer a0)) fun b_4 o_4 =>
              stM b_4 (o_4 + 1) [(pB false)] u_1 fun u_2 =>
              R (.tup []) u_2)))))
    (R (.tup []) u0))

theorem G_order_Set_shape_name_own.ok (a0 : Option Addr) (u0 : Mem) (R : PV → Mem → Prop) : G_order_Set_shape_name_own.sh a0 u0 R = VF ⟨Try.prog, 24, [], [], [], [], [], [], []⟩ ((Try.f99.body).getD .skip) [] [(.raw (.pointer a0))] u0 R := by kernel_rfl

theorem G_order_Set_shape_name_own.c {a0 : Option Addr} {u0 : Mem} {K : PV → Mem → Prop} (h : G_order_Set_shape_name_own.sh a0 u0 K) : CallP Try.prog 99 [(.raw (.pointer a0))] u0 K :=
  VF_sound (E := ⟨Try.prog, 24, [], [], [], [], [], [], []⟩) (rs := []) Try.func99 rfl rfl rfl (by kernel_rfl) (by kernel_rfl) (G_order_Set_shape_name_own.ok a0 u0 K ▸ h)


/-- (*ponder/order.Set[ponder/shape.name]).Clone -/
def G_order_Set_shape_name_Clone.sh (a0 : Option Addr) (u0 : Mem) (R : PV → Mem → Prop) : Prop :=
  CIf (Option.isNone a0)
  (∀ (b6 : Nat), u0 b6 = none →
    R (pP b6 0) (Mem.set u0 b6 (some (.cells 119 [(.list 1 .nil []), (pB false)]))))
  (nn a0
    (withPtrP (.raw (.pointer a0)) fun b o =>
      stM b (o + 1) [(pB true)] u0 fun u =>
      nn a0
      (withPtrP (.raw (.pointer a0)) fun b_1 o_1 =>
        ∃ (x13f : Fl) (x13 : List (List PV)), rdM u b_1 o_1 1 = some [(.list 1 x13f x13)] ∧
        ∀ (b15 : Nat), u b15 = none →
        R (pP b15 0) (Mem.set u b15 (some (.cells 119 [(.list 1 x13f x13), (pB true)]))))))

theorem G_order_Set_shape_name_Clone.ok (a0 : Option Addr) (u0 : Mem) (R : PV → Mem → Prop) : G_order_Set_shape_name_Clone.sh a0 u0 R = VF ⟨Try.prog, 16, [], [], [], [], [], [], []⟩ ((Try.f100.body).getD .skip) [.tmp 2] [(.raw (.pointer a0))] u0 R := by kernel_rfl

theorem G_order_Set_shape_name_Clone.c {a0 : Option Addr} {u0 : Mem} {K : PV → Mem → Prop} (h : G_order_Set_shape_name_Clone.sh a0 u0 K) : CallP Try.prog 100 [(.raw (.pointer a0))] u0 K :=
  VF_sound (E := ⟨Try.prog, 16, [], [], [], [], [], [], []⟩) (rs := [.tmp 2]) Try.func100 rfl rfl rfl (by kernel_rfl) (by kernel_rfl) (G_order_Set_shape_name_Clone.ok a0 u0 K ▸ h)


/-- (*ponder/shape.known).met -/
def G_shape_known_met.sh (a0 : Option Addr) (a1 : ByteArray) (u0 : Mem) (R : PV → Mem → Prop) : Prop :=
  nn a0
  (withPtrP (.raw (.pointer a0)) fun b o =>
    ∃ (x7 : Option Addr), rdM u0 b o 1 = some [(.raw (.pointer x7))] ∧
    CallP Try.prog 90 [(.raw (.pointer x7)), (pS a1)] u0 fun v u =>
    ∃ (x9 : Bool), v = (pB x9) ∧
    CIf x9
    (nn a0
      (withPtrP (.raw (.pointer a0)) fun b_1 o_1 =>
        ∃ (x14 : Option Addr) (x14n x14c : Nat), rdM u b_1 (o_1 + 1) 1 = some [(.raw (.slice x14 x14n x14c))] ∧
        appR 1 16 9 x14 x14n x14c (.list 1 .nr [[(pS a1)]]) u fun s17 s17n s17c u_1 =>
        nn a0
        (withPtrP (.raw (.pointer a0)) fun b_2 o_2 =>
          stM b_2 (o_2 + 1) [(.raw (.slice s17 s17n s17c))] u_1 fun u_2 =>
          R (.tup []) u_2)))
    (R (.tup []) u))

theorem G_shape_known_met.ok (a0 : Option Addr) (a1 : ByteArray) (u0 : Mem) (R : PV → Mem → Prop) : G_shape_known_met.sh a0 a1 u0 R = VF ⟨Try.prog, 20, [], [], [], [], [], [], [14, 17]⟩ ((Try.f101.body).getD .skip) [] [(.raw (.pointer a0)), (pS a1)] u0 R := by kernel_rfl

theorem G_shape_known_met.c {a0 : Option Addr} {a1 : ByteArray} {u0 : Mem} {K : PV → Mem → Prop} (h : G_shape_known_met.sh a0 a1 u0 K) : CallP Try.prog 101 [(.raw (.pointer a0)), (pS a1)] u0 K :=
  VF_sound (E := ⟨Try.prog, 20, [], [], [], [], [], [], [14, 17]⟩) (rs := []) Try.func101 rfl rfl rfl (by kernel_rfl) (by kernel_rfl) (G_shape_known_met.ok a0 a1 u0 K ▸ h)


/-- (*ponder/shape.known).field -/
def G_shape_known_field.sh (a0 : Option Addr) (a1f : Fl) (a1 : List (List PV)) (u0 : Mem) (R : PV → Mem → Prop) : Prop :=
  LoopI (α := Int) (fun next s u =>
    CIf (decide ((s : Int) < ((List.length a1 : Nat) : Int)))
    ((0 : Int) ≤ s ∧ ∃ (r11 : List PV), (a1)[Int.toNat s]? = some r11 ∧
      ∃ (x12a : Int), ∃ (x12b : ByteArray), ∃ (x12c : Int), ∃ (x12d : ByteArray), ∃ (x12e : Int), ∃ (x12ff : Fl) (x12f : List (List PV)), rowM r11 0 6 = some [(pI x12a), (pS x12b), (pI x12c), (pS x12d), (pI x12e), (.list 3 x12ff x12f)] ∧
      CIf ((x12a : Int) == (8))
      (next (IntKind.wrap .i64 (s + (1))) u)
      (CIf (strEq x12b ⟨#[]⟩)
        (next (IntKind.wrap .i64 (s + (1))) u)
        (CIf ((x12a : Int) == (1))
          (CallP Try.prog 101 [(.raw (.pointer a0)), (pS x12b)] u fun v u_1 =>
             v = (.tup []) ∧
            next (IntKind.wrap .i64 (s + (1))) u_1)
          (CallP Try.prog 93 [(.raw (.pointer a0)), (pS x12b)] u fun v_1 u_2 =>
            ∃ (x34 : Bool), v_1 = (pB x34) ∧
            CIf (!x34)
            (R (pB false) u_2)
            (next (IntKind.wrap .i64 (s + (1))) u_2)))))
    (R (pB true) u))
  (0) u0

theorem G_shape_known_field.ok (a0 : Option Addr) (a1f : Fl) (a1 : List (List PV)) (u0 : Mem) (R : PV → Mem → Prop) : G_shape_known_field.sh a0 a1f a1 u0 R = VF ⟨Try.prog, 37, [6], [(2, ⟨[(9, .one (.raw (.int .i64)))], []⟩)], [], [], [], [], []⟩ ((Try.f102.body).getD .skip) [.tmp 4] [(.raw (.pointer a0)), (.list 6 a1f a1)] u0 R := by kernel_rfl

theorem G_shape_known_field.c {a0 : Option Addr} {a1f : Fl} {a1 : List (List PV)} {u0 : Mem} {K : PV → Mem → Prop} (h : G_shape_known_field.sh a0 a1f a1 u0 K) : CallP Try.prog 102 [(.raw (.pointer a0)), (.list 6 a1f a1)] u0 K :=
  VF_sound (E := ⟨Try.prog, 37, [6], [(2, ⟨[(9, .one (.raw (.int .i64)))], []⟩)], [], [], [], [], []⟩) (rs := [.tmp 4]) Try.func102 rfl rfl rfl (by kernel_rfl) (by kernel_rfl) (G_shape_known_field.ok a0 a1f a1 u0 K ▸ h)


/-- (*ponder/order.Set[ponder/shape.name]).Place -/
def G_order_Set_shape_name_Place.sh (a0 : Option Addr) (a1 : ByteArray) (u0 : Mem) (R : PV → Mem → Prop) : Prop :=
  CIf (Option.isNone a0)
  (R (.tup [(pI (0)), (pB false)]) u0)
  (CallP Try.prog 98 [(.raw (.pointer a0)), (pS a1)] u0 fun v u =>
    ∃ (x10p : Int), ∃ (x10q : Bool), v = (.tup [(pI x10p), (pB x10q)]) ∧
    R (.tup [(pI x10p), (pB x10q)]) u)

theorem G_order_Set_shape_name_Place.ok (a0 : Option Addr) (a1 : ByteArray) (u0 : Mem) (R : PV → Mem → Prop) : G_order_Set_shape_name_Place.sh a0 a1 u0 R = VF ⟨Try.prog, 13, [], [], [], [], [], [], []⟩ ((Try.f103.body).getD .skip) [.tmp 4, .tmp 5] [(.raw (.pointer a0)), (pS a1)] u0 R := by kernel_rfl

theorem G_order_Set_shape_name_Place.c {a0 : Option Addr} {a1 : ByteArray} {u0 : Mem} {K : PV → Mem → Prop} (h : G_order_Set_shape_name_Place.sh a0 a1 u0 K) : CallP Try.prog 103 [(.raw (.pointer a0)), (pS a1)] u0 K :=
  VF_sound (E := ⟨Try.prog, 13, [], [], [], [], [], [], []⟩) (rs := [.tmp 4, .tmp 5]) Try.func103 rfl rfl rfl (by kernel_rfl) (by kernel_rfl) (G_order_Set_shape_name_Place.ok a0 a1 u0 K ▸ h)


/-- (ponder/api.Sym).Compare -/
def G_api_Sym_Compare.sh (a0a : Int) (a0b : ByteArray) (a0c : Int) (a1a : Int) (a1b : ByteArray) (a1c : Int) (u0 : Mem) (R : PV → Mem → Prop) : Prop :=
  CallP Try.prog 120 [(pI a0a), (pI a1a)] u0 fun v u =>
  ∃ (x11 : Int), v = (pI x11) ∧
  CIf ((x11 : Int) != (0))
  (R (pI x11) u)
  (CallP Try.prog 121 [(pS a0b), (pS a1b)] u fun v_1 u_1 =>
    ∃ (x19 : Int), v_1 = (pI x19) ∧
    CIf ((x19 : Int) != (0))
    (R (pI x19) u_1)
    (CallP Try.prog 120 [(pI a0c), (pI a1c)] u_1 fun v_2 u_2 =>
      ∃ (x27 : Int), v_2 = (pI x27) ∧
      R (pI x27) u_2))

theorem G_api_Sym_Compare.ok (a0a : Int) (a0b : ByteArray) (a0c : Int) (a1a : Int) (a1b : ByteArray) (a1c : Int) (u0 : Mem) (R : PV → Mem → Prop) : G_api_Sym_Compare.sh a0a a0b a0c a1a a1b a1c u0 R = VF ⟨Try.prog, 28, [2, 3], [], [], [], [], [], []⟩ ((Try.f119.body).getD .skip) [.tmp 4] [(.agg [(pI a0a), (pS a0b), (pI a0c)]), (.agg [(pI a1a), (pS a1b), (pI a1c)])] u0 R := by kernel_rfl

theorem G_api_Sym_Compare.c {a0a : Int} {a0b : ByteArray} {a0c : Int} {a1a : Int} {a1b : ByteArray} {a1c : Int} {u0 : Mem} {K : PV → Mem → Prop} (h : G_api_Sym_Compare.sh a0a a0b a0c a1a a1b a1c u0 K) : CallP Try.prog 119 [(.agg [(pI a0a), (pS a0b), (pI a0c)]), (.agg [(pI a1a), (pS a1b), (pI a1c)])] u0 K :=
  VF_sound (E := ⟨Try.prog, 28, [2, 3], [], [], [], [], [], []⟩) (rs := [.tmp 4]) Try.func119 rfl rfl rfl (by kernel_rfl) (by kernel_rfl) (G_api_Sym_Compare.ok a0a a0b a0c a1a a1b a1c u0 K ▸ h)


/-- cmp.Compare[int] -/
def G_cmp_Compare_int.sh (a0 : Int) (a1 : Int) (u0 : Mem) (R : PV → Mem → Prop) : Prop :=
  CallP Try.prog 122 [(pI a0)] u0 fun v u =>
  ∃ (x8 : Bool), v = (pB x8) ∧
  CallP Try.prog 122 [(pI a1)] u fun v_1 u_1 =>
  ∃ (x10 : Bool), v_1 = (pB x10) ∧
  CIf x8
  (CIf x10
    (R (pI (0)) u_1)
    (R (pI (-1)) u_1))
  (CIf x10
    (R (pI (1)) u_1)
    (CIf (decide ((a0 : Int) < a1))
      (R (pI (-1)) u_1)
      (CIf (decide ((a0 : Int) > a1))
        (R (pI (1)) u_1)
        (R (pI (0)) u_1))))

theorem G_cmp_Compare_int.ok (a0 : Int) (a1 : Int) (u0 : Mem) (R : PV → Mem → Prop) : G_cmp_Compare_int.sh a0 a1 u0 R = VF ⟨Try.prog, 20, [], [], [], [], [], [], []⟩ ((Try.f120.body).getD .skip) [.tmp 4] [(pI a0), (pI a1)] u0 R := by kernel_rfl

theorem G_cmp_Compare_int.c {a0 : Int} {a1 : Int} {u0 : Mem} {K : PV → Mem → Prop} (h : G_cmp_Compare_int.sh a0 a1 u0 K) : CallP Try.prog 120 [(pI a0), (pI a1)] u0 K :=
  VF_sound (E := ⟨Try.prog, 20, [], [], [], [], [], [], []⟩) (rs := [.tmp 4]) Try.func120 rfl rfl rfl (by kernel_rfl) (by kernel_rfl) (G_cmp_Compare_int.ok a0 a1 u0 K ▸ h)


/-- cmp.Compare[string] -/
def G_cmp_Compare_string.sh (a0 : ByteArray) (a1 : ByteArray) (u0 : Mem) (R : PV → Mem → Prop) : Prop :=
  CallP Try.prog 123 [(pS a0)] u0 fun v u =>
  ∃ (x8 : Bool), v = (pB x8) ∧
  CallP Try.prog 123 [(pS a1)] u fun v_1 u_1 =>
  ∃ (x10 : Bool), v_1 = (pB x10) ∧
  CIf x8
  (CIf x10
    (R (pI (0)) u_1)
    (R (pI (-1)) u_1))
  (CIf x10
    (R (pI (1)) u_1)
    (CIf (Op.bytesLess (ByteArray.toList a0) (ByteArray.toList a1))
      (R (pI (-1)) u_1)
      (CIf (!(Op.bytesLess (ByteArray.toList a0) (ByteArray.toList a1) || strEq a0 a1))
        (R (pI (1)) u_1)
        (R (pI (0)) u_1))))

theorem G_cmp_Compare_string.ok (a0 : ByteArray) (a1 : ByteArray) (u0 : Mem) (R : PV → Mem → Prop) : G_cmp_Compare_string.sh a0 a1 u0 R = VF ⟨Try.prog, 20, [], [], [], [], [], [], []⟩ ((Try.f121.body).getD .skip) [.tmp 4] [(pS a0), (pS a1)] u0 R := by kernel_rfl

theorem G_cmp_Compare_string.c {a0 : ByteArray} {a1 : ByteArray} {u0 : Mem} {K : PV → Mem → Prop} (h : G_cmp_Compare_string.sh a0 a1 u0 K) : CallP Try.prog 121 [(pS a0), (pS a1)] u0 K :=
  VF_sound (E := ⟨Try.prog, 20, [], [], [], [], [], [], []⟩) (rs := [.tmp 4]) Try.func121 rfl rfl rfl (by kernel_rfl) (by kernel_rfl) (G_cmp_Compare_string.ok a0 a1 u0 K ▸ h)


/-- cmp.isNaN[int] -/
def G_cmp_isNaN_int.sh (a0 : Int) (u0 : Mem) (R : PV → Mem → Prop) : Prop :=
  R (pB ((a0 : Int) != a0)) u0

theorem G_cmp_isNaN_int.ok (a0 : Int) (u0 : Mem) (R : PV → Mem → Prop) : G_cmp_isNaN_int.sh a0 u0 R = VF ⟨Try.prog, 6, [], [], [], [], [], [], []⟩ ((Try.f122.body).getD .skip) [.tmp 2] [(pI a0)] u0 R := by kernel_rfl

theorem G_cmp_isNaN_int.c {a0 : Int} {u0 : Mem} {K : PV → Mem → Prop} (h : G_cmp_isNaN_int.sh a0 u0 K) : CallP Try.prog 122 [(pI a0)] u0 K :=
  VF_sound (E := ⟨Try.prog, 6, [], [], [], [], [], [], []⟩) (rs := [.tmp 2]) Try.func122 rfl rfl rfl (by kernel_rfl) (by kernel_rfl) (G_cmp_isNaN_int.ok a0 u0 K ▸ h)


/-- cmp.isNaN[string] -/
def G_cmp_isNaN_string.sh (a0 : ByteArray) (u0 : Mem) (R : PV → Mem → Prop) : Prop :=
  R (pB (!strEq a0 a0)) u0

theorem G_cmp_isNaN_string.ok (a0 : ByteArray) (u0 : Mem) (R : PV → Mem → Prop) : G_cmp_isNaN_string.sh a0 u0 R = VF ⟨Try.prog, 6, [], [], [], [], [], [], []⟩ ((Try.f123.body).getD .skip) [.tmp 2] [(pS a0)] u0 R := by kernel_rfl

theorem G_cmp_isNaN_string.c {a0 : ByteArray} {u0 : Mem} {K : PV → Mem → Prop} (h : G_cmp_isNaN_string.sh a0 u0 K) : CallP Try.prog 123 [(pS a0)] u0 K :=
  VF_sound (E := ⟨Try.prog, 6, [], [], [], [], [], [], []⟩) (rs := [.tmp 2]) Try.func123 rfl rfl rfl (by kernel_rfl) (by kernel_rfl) (G_cmp_isNaN_string.ok a0 u0 K ▸ h)


/-- (ponder/shape.name).Compare -/
def G_shape_name_Compare.sh (a0 : ByteArray) (a1 : ByteArray) (u0 : Mem) (R : PV → Mem → Prop) : Prop :=
  CIf (Op.bytesLess (ByteArray.toList a0) (ByteArray.toList a1))
  (R (pI (-1)) u0)
  (CIf (!(Op.bytesLess (ByteArray.toList a0) (ByteArray.toList a1) || strEq a0 a1))
    (R (pI (1)) u0)
    (R (pI (0)) u0))

theorem G_shape_name_Compare.ok (a0 : ByteArray) (a1 : ByteArray) (u0 : Mem) (R : PV → Mem → Prop) : G_shape_name_Compare.sh a0 a1 u0 R = VF ⟨Try.prog, 13, [], [], [], [], [], [], []⟩ ((Try.f124.body).getD .skip) [.tmp 4] [(pS a0), (pS a1)] u0 R := by kernel_rfl

theorem G_shape_name_Compare.c {a0 : ByteArray} {a1 : ByteArray} {u0 : Mem} {K : PV → Mem → Prop} (h : G_shape_name_Compare.sh a0 a1 u0 K) : CallP Try.prog 124 [(pS a0), (pS a1)] u0 K :=
  VF_sound (E := ⟨Try.prog, 13, [], [], [], [], [], [], []⟩) (rs := [.tmp 4]) Try.func124 rfl rfl rfl (by kernel_rfl) (by kernel_rfl) (G_shape_name_Compare.ok a0 a1 u0 K ▸ h)


end Go.Proofs.Ytfjemjnbemdkgaa

/- All formulas. -/

/-
  Plain values, for their users: calls, frames, append, sequences.
-/
namespace Go.Eng
open Go.RowKit
set_option linter.unusedVariables false
set_option linter.unusedSimpArgs false
set_option linter.unnecessarySimpa false

theorem CIf.t {c : Bool} {A B : Prop} (hc : c = true) (h : A) : CIf c A B := by subst hc; exact h
theorem CIf.f {c : Bool} {A B : Prop} (hc : c = false) (h : B) : CIf c A B := by subst hc; exact h
theorem CIf.mk {c : Bool} {A B : Prop} (h1 : c = true → A) (h2 : c = false → B) : CIf c A B := CIf_iff.2 ⟨h1, h2⟩

theorem CJoin.of {α β : Type} {A : (α → β → Prop) → Prop} {B : α → β → Prop} (h : ∀ J : α → β → Prop, (∀ s u, B s u → J s u) → A J) : CJoin A B := ⟨B, h B fun _ _ h => h, fun _ _ h => h⟩

/-- A loop that counts up to n. -/
theorem LoopI.up {γ : Type} {body : (Int → γ → Prop) → Int → γ → Prop} {u : γ} (n : Nat) (hn : n < 9223372036854775808) (I : Nat → γ → Prop) (h0 : I 0 u)
    (h : ∀ (k : Nat) (u : γ) (next : Int → γ → Prop), k ≤ n → I k u → (k < n → ∀ u', I (k + 1) u' → next (IntKind.wrap .i64 ((k : Int) + 1)) u') → body next (k : Int) u) : LoopI body 0 u := by
  refine ⟨fun m s u => ∃ k : Nat, s = (k : Int) ∧ k ≤ n ∧ I k u ∧ m = n - k, ⟨n, 0, rfl, Nat.zero_le _, h0, rfl⟩, ?_⟩
  rintro _ _ u ⟨k, rfl, hk, hI, rfl⟩
  refine h k u _ hk hI fun hlt u' hI' => ?_
  rw [wrap_id (by omega) (by omega)]
  exact ⟨n - (k + 1), by omega, k + 1, by omega, by omega, hI', rfl⟩

/-- The same, beside something else that changes. -/
theorem LoopI.up2 {β γ : Type} {body : (β × Int → γ → Prop) → β × Int → γ → Prop} {x : β} {u : γ} (n : Nat) (hn : n < 9223372036854775808) (I : Nat → β → γ → Prop) (h0 : I 0 x u)
    (h : ∀ (k : Nat) (x : β) (u : γ) (next : β × Int → γ → Prop), k ≤ n → I k x u → (k < n → ∀ x' u', I (k + 1) x' u' → next (x', IntKind.wrap .i64 ((k : Int) + 1)) u') → body next (x, (k : Int)) u) : LoopI body (x, 0) u := by
  refine ⟨fun m s u => ∃ k : Nat, s.2 = (k : Int) ∧ k ≤ n ∧ I k s.1 u ∧ m = n - k, ⟨n, 0, rfl, Nat.zero_le _, h0, rfl⟩, ?_⟩
  rintro _ ⟨x, _⟩ u ⟨k, rfl, hk, hI, rfl⟩
  refine h k x u _ hk hI fun hlt x' u' hI' => ?_
  rw [wrap_id (by omega) (by omega)]
  exact ⟨n - (k + 1), by omega, k + 1, by simp, by omega, hI', rfl⟩

section
variable {P : Program} {g : FuncId} {args : List PV} {μ ν : Mem} {K K' : PV → Mem → Prop}

theorem CallP.mono (h : CallP P g args μ K) (hk : ∀ v μ', K v μ' → K' v μ') : CallP P g args μ K' := fun Z u vs hg hw ha => by
  obtain ⟨hc, h⟩ := h Z u vs hg hw ha
  refine ⟨hc, h.mono' fun v lo w' _ _ hp => ?_⟩
  obtain ⟨Z', μ', p, e, g', hr, hK⟩ := hp
  exact ⟨Z', μ', p, e, g', hr, hk p μ' hK⟩

/-- The value is forgotten in part, something is let go. -/
theorem CallP.weak (h : CallP P g args μ K) (hk : ∀ v μ', K v μ' → ∃ v' μ'', (∀ Z r, Rep Z v r → Rep Z v' r) ∧ μ''.sub μ' ∧ K' v' μ'') : CallP P g args μ K' := fun Z u vs hg hw ha => by
  obtain ⟨hc, h⟩ := h Z u vs hg hw ha
  refine ⟨hc, h.mono' fun v lo w' _ _ hp => ?_⟩
  obtain ⟨Z', μ', p, e, g', hr, hK⟩ := hp
  obtain ⟨v', μ'', h1, h2, h3⟩ := hk p μ' hK
  exact ⟨Z', μ'', v', e.sub h2, g'.sub h2, h1 Z' _ hr, h3⟩

theorem CallP.wk (h : CallP P g args μ fun p μ' => K (Eng.wk p) μ') : CallP P g args μ K := h.weak fun v μ' hk => ⟨Eng.wk v, μ', fun Z r h => h.wk, fun _ _ h => h, hk⟩

theorem Mem.or_left {μ ν : Mem} {b : Nat} {o : Ob} (h : μ b = some o) : (μ.or ν) b = some o := by simp [Mem.or, h]
theorem Mem.or_right {μ ν : Mem} {b : Nat} (h : μ b = none) : (μ.or ν) b = ν b := by simp [Mem.or, h]
@[simp] theorem Mem.or_M0 (μ : Mem) : μ.or M0 = μ := by
  funext b; unfold Mem.or; cases μ b <;> rfl
@[simp] theorem Mem.M0_or (μ : Mem) : M0.or μ = μ := by funext b; rfl
theorem Mem.or_ne {μ ν : Mem} {b : Nat} (h : (μ.or ν) b ≠ Option.none) : μ b ≠ Option.none ∨ ν b ≠ Option.none := by
  cases hb : μ b with
  | some o => exact .inl (by simp)
  | none => rw [Mem.or_right hb] at h; exact .inr h
@[simp] theorem M0_at (b : Nat) : M0 b = Option.none := rfl
theorem Mem.sep_M0 (μ : Mem) : M0.sep μ := fun b => .inl rfl

/-- What a call does not look at stays. -/
theorem CallP.frame (h : CallP P g args μ K) (hs : μ.sep ν) : CallP P g args (μ.or ν) fun v μ' => ∃ μ1, μ1.sep ν ∧ μ' = μ1.or ν ∧ K v μ1 := fun Z u vs hg hw ha => by
  have hμ : ∀ b o, μ b = some o → (o.rw = true → u.pub b) ∧ ObOk Z u b o := fun b o e => hg.mem b o (Mem.or_left e)
  have hν : ∀ b o, ν b = some o → μ b = none ∧ (o.rw = true → u.pub b) ∧ ObOk Z u b o := fun b o e => by
    have hn : μ b = none := (hs b).resolve_right (by rw [e]; simp)
    exact ⟨hn, hg.mem b o (by rw [Mem.or_right hn]; exact e)⟩
  have hg1 : Good Z ⟨u.toWorld, fun b => ∃ o, μ b = some o ∧ o.rw = true⟩ μ := ⟨hg.zok, fun b o e => ⟨fun hr => ⟨o, e, hr⟩, (hμ b o e).2⟩⟩
  obtain ⟨hc, F, hF, hcall⟩ := h Z ⟨u.toWorld, fun b => ∃ o, μ b = some o ∧ o.rw = true⟩ vs hg1 (fun b ⟨o, ho, _⟩ => hg1.ltM (by rw [ho]; simp)) ha
  refine ⟨hc, F, fun b hb => ?_, hcall.mono fun v lo w' hm hlo hp => ?_⟩
  · obtain ⟨o, ho, hr⟩ := hF b hb
    exact (hμ b o ho).1 hr
  · obtain ⟨Z', μ1, p, e, g', hr, hK⟩ := hp
    have hnb : ∀ b o, ν b = some o → w'.heap[b]? = u.heap[b]? ∧ Z' b = Z b ∧ μ1 b = none := fun b o hb => by
      obtain ⟨h1, _, h2⟩ := hν b o hb
      have hlt := h2.lt
      refine ⟨hm.keep b hlt fun hf => (by obtain ⟨o', ho', _⟩ := hF b hf; rw [h1] at ho'; cases ho'), ?_, ?_⟩
      · cases hz : Z b with
        | some C => exact e.zs b C hz h1
        | none =>
          cases hz' : Z' b with
          | none => rfl
          | some C =>
            rcases e.zn b (by rw [hz']; simp) with h3 | h3 | h3
            · exact absurd hz h3
            · exact absurd h1 h3
            · have : u.heap.size ≤ b := h3; omega
      · cases hx : μ1 b with
        | none => rfl
        | some o' =>
          rcases e.mn b (by rw [hx]; simp) with h3 | h3
          · exact absurd h1 h3
          · have : u.heap.size ≤ b := h3; omega
    refine ⟨Z', μ1.or ν, p, ⟨e.le, fun b C hb hn => ?_, fun b hb => ?_, fun b hb => ?_, e.lt⟩, ⟨g'.zok, fun b o ho => ?_⟩, hr, μ1, fun b => ?_, rfl, hK⟩
    · refine e.zs b C hb ?_
      cases hx : μ b with
      | none => rfl
      | some o => rw [Mem.or_left hx] at hn; cases hn
    · rcases e.zn b hb with h3 | h3 | h3
      · exact .inl h3
      · refine .inr (.inl ?_)
        cases hx : μ b with
        | none => exact absurd hx h3
        | some o => rw [Mem.or_left hx]; simp
      · exact .inr (.inr h3)
    · rcases Mem.or_ne hb with h3 | h3
      · rcases e.mn b h3 with h4 | h4
        · left
          cases hx : μ b with
          | none => exact absurd hx h4
          | some o => rw [Mem.or_left hx]; simp
        · exact .inr h4
      · cases hx : ν b with
        | none => exact absurd hx h3
        | some o => exact .inl (by rw [Mem.or_right (hν b o hx).1, hx]; simp)
    · cases hx : μ1 b with
      | some o' =>
        rw [Mem.or_left hx] at ho; cases ho
        obtain ⟨p1, p2⟩ := g'.mem b _ hx
        refine ⟨fun hrw => ?_, p2⟩
        rcases p1 hrw with ⟨o2, hy, hr2⟩ | p1
        · exact .inl ((hμ b o2 hy).1 hr2)
        · exact .inr p1
      | none =>
        rw [Mem.or_right hx] at ho
        obtain ⟨h1, h2, h3⟩ := hν b o ho
        obtain ⟨h4, h5, h6⟩ := hnb b o ho
        exact ⟨fun hrw => .inl (h2 hrw), h3.go e.le h5 h4⟩
    · cases hx : ν b with
      | none => exact .inr rfl
      | some o => exact .inl (hnb b o hx).2.2

/-- A function that looks at values alone. -/
def PureK (P : Program) (g : FuncId) (args : List PV) (K : PV → Prop) : Prop := CallP P g args M0 fun p _ => K p

/-- .. and answers r. -/
def Pure (P : Program) (g : FuncId) (args : List PV) (r : PV) : Prop := PureK P g args fun p => p = r

theorem PureK.call {Kp : PV → Prop} (h : PureK P g args Kp) (hk : ∀ p, Kp p → K p μ) : CallP P g args μ K := by
  have h1 := CallP.frame (ν := μ) h (Mem.sep_M0 μ)
  rw [Mem.M0_or] at h1
  refine h1.weak fun v μ' ⟨μ1, hs, e, hK⟩ => ⟨v, μ, fun _ _ h => h, fun b o hb => ?_, hk v hK⟩
  rw [e, Mem.or_right ((hs b).resolve_right (by rw [hb]; simp))]; exact hb

theorem Pure.call {r : PV} (h : Pure P g args r) (hk : K r μ) : CallP P g args μ K := PureK.call h fun p e => by subst e; exact hk

theorem PureK.q {Kp : PV → Prop} (h : PureK P g args Kp) (hk : ∀ p, Kp p → K p M0) : CallQ P g args μ K := fun Z u vs hg hw ha => by
  obtain ⟨hc, hcall⟩ := h Z ⟨u.toWorld, fun _ => False⟩ vs ⟨hg.zok, fun b o e => by cases e⟩ (fun _ h => h.elim) ha
  refine ⟨hc, hcall.mono' fun v lo w' _ _ hp => ?_⟩
  obtain ⟨Z', μ', p, e, g', hr, hK⟩ := hp
  exact ⟨Z', M0, p, e.sub (fun b o h => by cases h), g'.sub (fun b o h => by cases h), hr, hk p hK⟩

theorem Pure.q {r : PV} (h : Pure P g args r) (hk : K r M0) : CallQ P g args μ K := PureK.q h fun p e => by subst e; exact hk

theorem PureK.mono {Kp Kp' : PV → Prop} (h : PureK P g args Kp) (hk : ∀ p, Kp p → Kp' p) : PureK P g args Kp' := CallP.mono h fun v _ => hk v

/-- From a formula to a pure contract: places are forgotten. -/
theorem PureK.of {Kp : PV → Prop} (h : CallP P g args M0 fun p _ => Kp (Eng.wk p)) : PureK P g args Kp := CallP.wk h

end

/-! ### append -/
/-- A list under construction may be gone on with. -/
def TipIn (fl : Fl) (n size : Nat) (μ : Mem) : Prop :=
  match fl with
  | .sh => False
  | .nr => True
  | .nil => True
  | .tip b c => μ b = some (.tip (n * size) (c * size))

def Fl.at (fl : Fl) (b : Nat) : Prop := match fl with | .tip b' _ => b = b' | _ => False

theorem appL.go {q : Bool} {size bytes : Nat} {fl : Fl} {rows new : List (List PV)} {μ : Mem} {K : Fl → Mem → Prop} (h : TipIn fl rows.length size μ) (hb : (rows.length + new.length) * bytes ≤ 140737488355328) (h62 : rows.length + new.length < 4611686018427387904)
    (hK : ∀ fl' μ', TipIn fl' (rows.length + new.length) size μ' → (∀ b o, μ b = some o → ¬ fl.at b → μ' b = some o ∧ ¬ fl'.at b) → K fl' μ') (hq : q = true → ∀ b c, fl ≠ .tip b c := by first | (intro h; cases h; done) | (intro _ b c h; cases h)) : appL q size bytes fl rows new μ K := by
  refine ⟨hb, h62, ?_⟩
  cases new with
  | nil => exact hK fl μ (by simpa using h) (fun b o h1 h2 => ⟨h1, h2⟩)
  | cons r rs =>
    show appF q size fl rows.length (r :: rs).length μ K
    have nw : ∀ b c, μ b = none → K (.tip b c) (μ.set b (some (.tip ((rows.length + (r :: rs).length) * size) (c * size)))) := fun b c hm => by
      refine hK _ _ (Mem.set_same _ _ _) fun b' o h1 h2 => ?_
      have hne : b' ≠ b := by rintro rfl; rw [hm] at h1; cases h1
      exact ⟨by rw [Mem.set_ne _ _ hne]; exact h1, hne⟩
    cases fl with
    | sh => exact h
    | nr => exact fun b c hm _ => nw b c hm
    | nil => exact fun b c hm _ => nw b c hm
    | tip b c =>
      cases q with
      | true => exact absurd rfl (hq rfl b c)
      | false =>
        refine ⟨h, fun b' c' hor _ => hK _ _ (Mem.set_same _ _ _) fun b2 o h1 h2 => ?_⟩
        have h2 : b2 ≠ b := h2
        have hne : b2 ≠ b' := by
          rintro rfl
          rcases hor with e | e
          · exact h2 e
          · rw [e] at h1; cases h1
        exact ⟨by rw [Mem.set_ne _ _ hne, Mem.set_ne _ _ h2]; exact h1, hne⟩

/-- The same, where nothing else matters. -/
theorem appL.go1 {q : Bool} {size bytes : Nat} {fl : Fl} {rows new : List (List PV)} {μ : Mem} {K : Fl → Mem → Prop} (h : TipIn fl rows.length size μ) (hb : (rows.length + new.length) * bytes ≤ 140737488355328) (h62 : rows.length + new.length < 4611686018427387904)
    (hK : ∀ fl' μ', TipIn fl' (rows.length + new.length) size μ' → K fl' μ') (hq : q = true → ∀ b c, fl ≠ .tip b c := by first | (intro h; cases h; done) | (intro _ b c h; cases h)) : appL q size bytes fl rows new μ K := appL.go h hb h62 (fun fl' μ' h1 _ => hK fl' μ' h1) hq

/-! ### sequences -/
/-- What is handed to a loop's body: values, and how the memory grows by it. -/
abbrev Item := List PV → Mem → Mem → Prop

/-- Calling f with a function y calls y with these, one behind the other, till it says no. 'St': what f does to the memory ahead. -/
def SeqG (P : Program) (f : PV) (items : List Item) (St : Mem → Mem → Prop) : Prop :=
  (∃ g a b, f = .fn (.func g) a b) ∧ ∀ (fy : Fn) (ya yb : List PV) (I : Nat → Mem → Prop) (S : Mem → Prop) (μ : Mem), fnOk fy True → (∀ μ', St μ μ' → I 0 μ') →
    (∀ (k : Nat) (h : k < items.length) (vs : List PV) (μ μ1 : Mem), I k μ → items[k] vs μ μ1 → CallVP P (.fn fy ya yb) vs μ1 fun v μ' => (v = pB true ∧ I (k + 1) μ') ∨ (v = pB false ∧ S μ')) →
    CallVP P f [.fn fy ya yb] μ fun _ μ' => I items.length μ' ∨ S μ'

def flatItem (vs : List PV) : Item := fun vs' μ μ' => vs' = vs ∧ μ' = μ

/-- Values alone; nothing is touched ahead. -/
abbrev SeqP (P : Program) (f : PV) (items : List (List PV)) : Prop := SeqG P f (items.map flatItem) Eq

theorem CallVP.mono {P : Program} {f : PV} {args : List PV} {μ : Mem} {K K' : PV → Mem → Prop} (h : CallVP P f args μ K) (hk : ∀ v μ', K v μ' → K' v μ') : CallVP P f args μ K' := by
  unfold CallVP at h ⊢
  split at h
  · exact h.mono hk
  · intro Z u fv vs hg hw hf ha
    refine CallV.mono (h Z u fv vs hg hw hf ha) fun v lo w' _ _ hp => ?_
    obtain ⟨Z', μ', p, e, g', hr, hK⟩ := hp
    exact ⟨Z', μ', p, e, g', hr, hk p μ' hK⟩

theorem Mem.set_set (μ : Mem) (b : Nat) (o o' : Option Ob) : (μ.set b o).set b o' = μ.set b o' := by
  funext c; by_cases h : c = b
  · subst h; simp
  · rw [Mem.set_ne _ _ h, Mem.set_ne _ _ h, Mem.set_ne _ _ h]

/-- A record of the machine's beside does not matter. -/
def StabM (A : Mem → Mem → Prop) : Prop := ∀ (l : Nat) (o : Ob) (μ μ' : Mem), μ l = none → A (μ.set l (some o)) μ' → ∃ μ1, μ1 l = none ∧ μ' = μ1.set l (some o) ∧ A μ μ1

theorem StabM.eq : StabM Eq := fun l o μ μ' hl e => ⟨μ, hl, e.symm, rfl⟩
theorem flatItem.stab (vs vs' : List PV) : StabM (flatItem vs vs') := fun l o μ μ' hl e => ⟨μ, hl, e.2, e.1, rfl⟩

theorem RangeP.seq {P : Program} {f : PV} {items : List Item} {St : Mem → Mem → Prop} {body : List PV → (Option Code → Mem → Prop) → Mem → Prop} {K : Option Code → Mem → Prop} {μ : Mem} (hs : SeqG P f items St)
    (hSt : StabM St) (hIt : ∀ A ∈ items, ∀ vs, StabM (A vs)) (I : Nat → Mem → Prop) (S : Code → Mem → Prop) (h0 : ∀ μ', St μ μ' → I 0 μ')
    (hstep : ∀ (k : Nat) (h : k < items.length) (vs : List PV) (μ μ1 : Mem) (R : Option Code → Mem → Prop), I k μ → items[k] vs μ μ1 → (∀ μ', I (k + 1) μ' → R none μ') → (∀ c μ', S c μ' → R (some c) μ') → body vs R μ1)
    (hend : ∀ μ, I items.length μ → K none μ) (hS : ∀ c μ, S c μ → K (some c) μ) : RangeP P f body K μ := by
  obtain ⟨hf, hs⟩ := hs
  refine ⟨hf, fun l rec hl hy => ?_⟩
  refine (hs (.yield l) [] [] (fun k μ2 => ∃ μ3, μ3 l = none ∧ μ2 = μ3.set l (some (rec none)) ∧ I k μ3) (fun μ2 => ∃ c μ3, μ3 l = none ∧ μ2 = μ3.set l (some (rec (some c))) ∧ S c μ3) _ trivial (fun μ' hst => ?_) ?_).mono ?_
  · obtain ⟨μ1, h1, h2, h3⟩ := hSt l _ μ μ' hl hst
    exact ⟨μ1, h1, h2, h0 μ1 h3⟩
  · rintro k hk vs _ μ1' ⟨μ3, h1, rfl, hI⟩ hA
    obtain ⟨μ1, h2, rfl, hA2⟩ := hIt _ (List.getElem_mem hk) vs l _ μ3 μ1' h1 hA
    refine (hy vs μ1 (fun p μ' => match p with | none => I (k + 1) μ' | some c => S c μ') h2 (hstep k hk vs μ3 μ1 _ hI hA2 (fun μ' h => h) (fun c μ' h => h))).mono ?_
    rintro v μ2 ⟨p, μ4, rfl, h3, rfl, hR⟩
    cases p with
    | none => exact .inl ⟨rfl, μ4, h3, rfl, hR⟩
    | some c => exact .inr ⟨rfl, c, μ4, h3, rfl, hR⟩
  · rintro v μ2 (⟨μ3, h1, rfl, hI⟩ | ⟨c, μ3, h1, rfl, hS'⟩)
    · exact ⟨none, μ3, h1, rfl, hend μ3 hI⟩
    · exact ⟨some c, μ3, h1, rfl, hS c μ3 hS'⟩

/-- The same, of values alone. -/
theorem RangeP.pure {P : Program} {f : PV} {items : List (List PV)} {body : List PV → (Option Code → Mem → Prop) → Mem → Prop} {K : Option Code → Mem → Prop} {μ : Mem} (hs : SeqP P f items)
    (I : Nat → Mem → Prop) (S : Code → Mem → Prop) (h0 : I 0 μ)
    (hstep : ∀ (k : Nat) (h : k < items.length) (μ : Mem) (R : Option Code → Mem → Prop), I k μ → (∀ μ', I (k + 1) μ' → R none μ') → (∀ c μ', S c μ' → R (some c) μ') → body items[k] R μ)
    (hend : ∀ μ, I items.length μ → K none μ) (hS : ∀ c μ, S c μ → K (some c) μ) : RangeP P f body K μ := by
  refine RangeP.seq hs StabM.eq (fun A hA vs => ?_) I S (fun μ' e => e ▸ h0) (fun k hk vs μ μ1 R hI hA h1 h2 => ?_) (fun μ hI => hend μ (by simpa using hI)) hS
  · obtain ⟨vs', _, rfl⟩ := List.mem_map.1 hA
    exact flatItem.stab vs' vs
  · have hk' : k < items.length := by simpa using hk
    simp only [List.getElem_map] at hA
    obtain ⟨rfl, rfl⟩ := hA
    exact hstep k hk' μ1 R hI h1 h2

theorem SeqG.mk {P : Program} {g : FuncId} {a b : List PV} {items : List Item} {St : Mem → Mem → Prop}
    (h : ∀ (fy : Fn) (ya yb : List PV) (I : Nat → Mem → Prop) (S : Mem → Prop) (μ : Mem), fnOk fy True → (∀ μ', St μ μ' → I 0 μ') →
      (∀ (k : Nat) (h : k < items.length) (vs : List PV) (μ μ1 : Mem), I k μ → items[k] vs μ μ1 → CallVP P (.fn fy ya yb) vs μ1 fun v μ' => (v = pB true ∧ I (k + 1) μ') ∨ (v = pB false ∧ S μ')) →
      CallP P g (a ++ [.fn fy ya yb] ++ b) μ fun _ μ' => I items.length μ' ∨ S μ') : SeqG P (.fn (.func g) a b) items St :=
  ⟨⟨g, a, b, rfl⟩, fun fy ya yb I S μ hy h0 hstep => h fy ya yb I S μ hy h0 hstep⟩

theorem SeqP.mk {P : Program} {g : FuncId} {a b : List PV} {items : List (List PV)}
    (h : ∀ (fy : Fn) (ya yb : List PV) (I : Nat → Mem → Prop) (S : Mem → Prop) (μ : Mem), fnOk fy True → I 0 μ →
      (∀ (k : Nat) (h : k < items.length) (μ : Mem), I k μ → CallVP P (.fn fy ya yb) items[k] μ fun v μ' => (v = pB true ∧ I (k + 1) μ') ∨ (v = pB false ∧ S μ')) →
      CallP P g (a ++ [.fn fy ya yb] ++ b) μ fun _ μ' => I items.length μ' ∨ S μ') : SeqP P (.fn (.func g) a b) items :=
  SeqG.mk fun fy ya yb I S μ hy h0 hstep => by
    have := h fy ya yb I S μ hy (h0 μ rfl) (fun k hk μ hI => hstep k (by simpa using hk) _ μ μ hI (by simp [flatItem]))
    simpa using this

/-! ### borrowing -/
/-- Depends on no memory. -/
def PV.flat1 : PV → Bool
  | .raw _ => true
  | _ => false
def PV.flat2 : PV → Bool
  | .raw _ => true
  | .agg cs => cs.all PV.flat1
  | _ => false
def PV.flat : PV → Bool
  | .raw _ => true
  | .agg cs => cs.all PV.flat1
  | .tup vs => vs.all PV.flat2
  | _ => false

theorem Rep.flat1 {Z Z' : Fz} {p : PV} {v : Value} (hf : p.flat1 = true) (h : Rep Z p v) : Rep Z' p v := by
  cases p <;> simp [PV.flat1] at hf
  obtain ⟨rfl, h1, h2⟩ := h.ofRaw
  exact .raw _ h1 h2
theorem Rep.flat2 {Z Z' : Fz} {p : PV} {v : Value} (hf : p.flat2 = true) (h : Rep Z p v) : Rep Z' p v := by
  cases p <;> simp only [PV.flat2] at hf <;> try (cases hf; done)
  · exact h.flat1 (by rfl)
  · obtain ⟨vs, rfl, hc⟩ := h.ofAgg
    exact RepC.toAgg ⟨hc.1, fun i p v a b => ⟨(hc.2 i p v a b).1, (hc.2 i p v a b).2.flat1 (List.all_eq_true.1 hf p (List.mem_of_getElem? a))⟩⟩
theorem Rep.flat {Z Z' : Fz} {p : PV} {v : Value} (hf : p.flat = true) (h : Rep Z p v) : Rep Z' p v := by
  cases p <;> simp only [PV.flat] at hf <;> try (cases hf; done)
  · exact h.flat1 (by rfl)
  · exact h.flat2 hf
  · obtain ⟨vs, rfl, hc⟩ := h.ofTup
    exact Reps.toTup ⟨hc.1, fun i p v a b => ⟨(hc.2 i p v a b).1, (hc.2 i p v a b).2.flat2 (List.all_eq_true.1 hf p (List.mem_of_getElem? a))⟩⟩

/-- A slice of one's own cells, as it reads now. -/
structure SlM (μ : Mem) (a : Option Addr) (n c sz : Nat) (rows : List (List PV)) : Prop where
  len : rows.length = n
  cap : n ≤ c
  spot : c = 0 ∨ noSpot a
  each : ∀ r ∈ rows, r.length = sz
  cell : allCell rows.flatten = true
  read : n ≠ 0 → ∃ b o, a = some ⟨b, o, none⟩ ∧ rdM μ b o (n * sz) = some rows.flatten

/-- How an argument may be read for the time of a call. -/
inductive Bor (μ : Mem) : PV → PV → Prop where
  | same (p : PV) : Bor μ p p
  | list {a : Option Addr} {n c sz : Nat} {rows : List (List PV)} (h : SlM μ a n c sz rows) : Bor μ (.raw (.slice a n c)) (.list sz .sh rows)
  | agg {cs ds : List PV} (hl : cs.length = ds.length) (h : ∀ (i : Nat) c d, cs[i]? = some c → ds[i]? = some d → c = d ∨ ∃ a n k sz rows, c = .raw (.slice a n k) ∧ d = .list sz .sh rows ∧ SlM μ a n k sz rows) : Bor μ (.agg cs) (.agg ds)

/-- Cells that are read as such. -/
def cellsOf : Option Ob → Option (List PV)
  | some (.cells _ cs) => some cs
  | some (.ro _ cs) => some cs
  | _ => none

/-- All of one's own cells, frozen. -/
def Zbor (Z : Fz) (u : UW) (μ : Mem) : Fz := fun b => match cellsOf (μ b) with | some _ => (match u.heap[b]? with | some (.cells A _ _) => some A.toList | _ => none) | none => Z b

theorem cellsOf_ok {Z : Fz} {u : UW} {μ : Mem} (hg : Good Z u μ) {b : Nat} {cs : List PV} (hm : cellsOf (μ b) = some cs) : Z b = none ∧ ∃ (A : Array Value) (T : TypeId), u.heap[b]? = some (.cells A T (0, 0)) ∧ RepM Z cs A.toList := by
  unfold cellsOf at hm
  split at hm
  · rename_i T cs' e; cases hm
    obtain ⟨_, hz, A, hA, hc⟩ := hg.mem b _ e
    exact ⟨hz, A, T, hA, hc⟩
  · rename_i T cs' e; cases hm
    obtain ⟨_, hz, A, hA, hc⟩ := hg.mem b _ e
    exact ⟨hz, A, T, hA, hc⟩
  · cases hm

theorem Zbor_le {Z : Fz} {u : UW} {μ : Mem} (hg : Good Z u μ) : Z.le (Zbor Z u μ) := fun b C hC => by
  refine ⟨C, ?_, List.prefix_refl _⟩
  unfold Zbor
  split
  · rename_i cs hm
    have hz := (cellsOf_ok hg hm).1
    rw [hz] at hC; cases hC
  · exact hC

theorem Zbor_at {Z : Fz} {u : UW} {μ : Mem} (hg : Good Z u μ) {b : Nat} {cs : List PV} (hm : cellsOf (μ b) = some cs) : ∃ A : Array Value, Zbor Z u μ b = some A.toList ∧ RepM Z cs A.toList := by
  obtain ⟨hz, A, T, hA, hc⟩ := cellsOf_ok hg hm
  refine ⟨A, ?_, hc⟩
  unfold Zbor
  rw [hm]
  simp only [hA]

theorem rdM_of {μ : Mem} {b o n : Nat} {r : List PV} (h : rdM μ b o n = some r) : ∃ cs, cellsOf (μ b) = some cs ∧ o + n ≤ cs.length ∧ r = (cs.drop o).take n := by
  unfold rdM at h
  split at h
  · rename_i e; split at h
    · rename_i hl; cases h; exact ⟨_, by rw [e]; rfl, hl, rfl⟩
    · cases h
  · rename_i e; split at h
    · rename_i hl; cases h; exact ⟨_, by rw [e]; rfl, hl, rfl⟩
    · cases h
  · cases h

theorem SlM.rep {Z : Fz} {u : UW} {μ : Mem} (hg : Good Z u μ) {a : Option Addr} {n c sz : Nat} {rows : List (List PV)} (h : SlM μ a n c sz rows) : Rep (Zbor Z u μ) (.list sz .sh rows) (.slice a n c) := by
  by_cases hn : n = 0
  · have : rows = [] := List.eq_nil_of_length_eq_zero (by rw [h.len, hn])
    subst this
    exact .list sz .sh [] a n c 0 0 [] (fun _ _ => undef) (by simp [hn]) h.cap h.spot (by simp) (fun h => absurd hn h) (fun i j hi => by omega) (by simp) (by simp) trivial
  · obtain ⟨b, o, rfl, hr⟩ := h.read hn
    obtain ⟨cs, hm, hl, hr⟩ := rdM_of hr
    obtain ⟨A, hz, hrm⟩ := Zbor_at hg hm
    have hAs : A.toList.length = cs.length := hrm.1
    have hv : RepC (Zbor Z u μ) rows.flatten ((A.toList.drop o).take (n * sz)) := by
      rw [hr]
      exact (((hrm.mono (Zbor_le hg)).drop o).take _).c (by rw [← hr]; exact h.cell)
    have hcap := h.cap
    have := rep_list (Z := Zbor Z u μ) (sz := sz) (fl := .sh) (rows := rows) (b := b) (o := o) (c := c) (C := A.toList) h.each hv hz (fun k hk => by
      rw [List.getElem?_take, if_pos (by simp at hk; omega), List.getElem?_drop]) (by rw [h.len]; exact hcap) trivial
    rw [h.len] at this
    exact this

theorem Bor.rep {Z : Fz} {u : UW} {μ : Mem} (hg : Good Z u μ) {p q : PV} {v : Value} (hb : Bor μ p q) (hr : Rep Z p v) : Rep (Zbor Z u μ) q v ∧ (p.ok = true → q.ok = true) := by
  cases hb with
  | same => exact ⟨hr.mono (Zbor_le hg), id⟩
  | list h =>
    rw [hr.ofRaw.1]
    exact ⟨h.rep hg, fun _ => rfl⟩
  | agg hl h =>
    obtain ⟨vs, rfl, hc⟩ := hr.ofAgg
    refine ⟨RepC.toAgg ⟨hc.1.trans hl, fun i d v hd hv => ?_⟩, fun _ => rfl⟩
    have hlt : i < _ := (List.getElem?_eq_some_iff.1 hd).1
    rename_i cs ds
    have hi : cs[i]? = some cs[i] := List.getElem?_eq_getElem (by omega)
    have hcv := hc.2 i _ v hi hv
    rcases h i _ d hi hd with e | ⟨a, n, k, sz, rows, e1, e2, hs⟩
    · rw [← e]; exact ⟨hcv.1, hcv.2.mono (Zbor_le hg)⟩
    · rw [e2]
      refine ⟨rfl, ?_⟩
      have := hcv.2
      rw [e1] at this
      rw [this.ofRaw.1]
      exact hs.rep hg

/-- A call of what looks at values alone, that may look at one's own cells meanwhile. -/
theorem CallP.borrow {P : Program} {g : FuncId} {args args' : List PV} {μ : Mem} {K : PV → Mem → Prop} {Kp : PV → Prop} (h : PureK P g args' Kp) (hl : args.length = args'.length) (hb : ∀ (i : Nat) p q, args[i]? = some p → args'[i]? = some q → Bor μ p q) (hf : ∀ p, Kp p → p.flat = true) (hk : ∀ p, Kp p → K p μ) : CallP P g args μ K := fun Z u vs hg hw ha => by
  have hgb : Good (Zbor Z u μ) ⟨u.toWorld, fun _ => False⟩ M0 := by
    refine ⟨fun b C hC => ?_, fun b o h => by cases h⟩
    unfold Zbor at hC
    split at hC
    · split at hC
      · rename_i A T f hA; cases hC; exact ⟨A, T, f, hA, List.prefix_refl _⟩
      · cases hC
    · exact hg.zok b C hC
  have ha' : Reps (Zbor Z u μ) args' vs := ⟨ha.1.trans hl, fun i q v hq hv => by
    have hlt : i < args'.length := (List.getElem?_eq_some_iff.1 hq).1
    have hp : args[i]? = some args[i] := List.getElem?_eq_getElem (by omega)
    have := ha.2 i _ v hp hv
    obtain ⟨h1, h2⟩ := (hb i _ q hp hq).rep hg this.2
    exact ⟨h2 this.1, h1⟩⟩
  obtain ⟨hc, F, hF, hcall⟩ := h (Zbor Z u μ) ⟨u.toWorld, fun _ => False⟩ vs hgb (fun _ h => h.elim) ha'
  refine ⟨hc, F, fun b hb => (hF b hb).elim, hcall.mono fun v lo w' hm hlo hp => ?_⟩
  obtain ⟨Z', μ', p, e, g', hr, hK⟩ := hp
  have keep : ∀ b, b < u.heap.size → w'.heap[b]? = u.heap[b]? := fun b hb => hm.keep b hb fun hf => hF b hf
  refine ⟨Z, μ, p, hg.ext, hg.go (Fz.le.refl Z) (fun b C hC => .inl ⟨hC, keep b (hg.ltZ (by rw [hC]; simp))⟩) (fun b o ho => .inl ⟨ho, keep b (hg.ltM (by rw [ho]; simp)), fun hp => .inl hp, rfl⟩), hr.flat (hf p hK), hk p hK⟩

/-- A value as it is read in another way, while one's own cells are frozen: the same; a list that anyone may hold; nil as a slice; a slice as a list; and so within. -/
inductive BorV (μ : Mem) : PV → PV → Prop where
  | same (c : PV) : BorV μ c c
  | wk (c : PV) : BorV μ c (wk1 c)
  | nil (sz : Nat) (rows : List (List PV)) : BorV μ (.list sz .nil rows) (.raw (.slice none 0 0))
  | lst0 (a : Option Addr) (k sz : Nat) (spot : k = 0 ∨ noSpot a) : BorV μ (.raw (.slice a 0 k)) (.list sz .sh [])
  | lst (b o k sz : Nat) (rows : List (List PV)) (cs : List PV) (cap : rows.length ≤ k) (each : ∀ r ∈ rows, r.length = sz) (cell : allCell rows.flatten = true) (read : rdM μ b o (rows.length * sz) = some cs) (h : ∀ (i : Nat) c d, cs[i]? = some c → rows.flatten[i]? = some d → BorV μ c d) : BorV μ (.raw (.slice (some ⟨b, o, none⟩) rows.length k)) (.list sz .sh rows)
  | agg {cs ds : List PV} (hl : cs.length = ds.length) (cell : allCell ds = true) (h : ∀ (i : Nat) c d, cs[i]? = some c → ds[i]? = some d → BorV μ c d) : BorV μ (.agg cs) (.agg ds)
  | tup {cs ds : List PV} (hl : cs.length = ds.length) (ok : ∀ d ∈ ds, d.ok = true) (h : ∀ (i : Nat) c d, cs[i]? = some c → ds[i]? = some d → BorV μ c d) : BorV μ (.tup cs) (.tup ds)

theorem BorV.rep {Z : Fz} {u : UW} {μ : Mem} (hg : Good Z u μ) {c d : PV} (hb : BorV μ c d) : ∀ {v : Value}, Rep Z c v → Rep (Zbor Z u μ) d v := by
  induction hb with
  | same => exact fun hr => hr.mono (Zbor_le hg)
  | wk => exact fun hr => hr.wk1.mono (Zbor_le hg)
  | nil sz rows =>
    intro v hr
    cases hr with
    | list _ _ _ _ _ _ b o C g hn hc hs hr ha hgg hk hp hf =>
      obtain ⟨rfl, rfl, rfl⟩ := hf
      exact .raw _ rfl rfl
  | lst0 a k sz spot =>
    intro v hr
    rw [hr.ofRaw.1]
    exact .list sz .sh [] a 0 k 0 0 [] (fun _ _ => undef) rfl (Nat.zero_le _) spot (by simp) (fun h => absurd rfl h) (fun i j hi => by omega) (by simp) (by simp) trivial
  | lst b o k sz rows cs cap each cell read h ih =>
    intro v hr
    rw [hr.ofRaw.1]
    obtain ⟨cs0, hm, hl, rfl⟩ := rdM_of read
    obtain ⟨A, hz, hrm⟩ := Zbor_at hg hm
    have hAs : A.toList.length = cs0.length := hrm.1
    have hfl : rows.flatten.length = rows.length * sz := flatLen each
    have hv : RepC (Zbor Z u μ) rows.flatten ((A.toList.drop o).take (rows.length * sz)) := by
      refine ⟨by rw [List.length_take, List.length_drop, hfl]; omega, fun i d v hd hv => ?_⟩
      have hcd : d.cell = true := by
        have := List.all_eq_true.1 cell d (List.mem_of_getElem? hd); exact this
      have hi : i < rows.length * sz := by rw [← hfl]; exact (List.getElem?_eq_some_iff.1 hd).1
      have hc : ((cs0.drop o).take (rows.length * sz))[i]? = some (cs0[o + i]'(by omega)) := by
        rw [List.getElem?_take, if_pos hi, List.getElem?_drop, List.getElem?_eq_getElem (by omega)]
      rw [List.getElem?_take, if_pos hi, List.getElem?_drop] at hv
      exact ⟨hcd, ih i _ d hc hd (hrm.2 (o + i) _ v (List.getElem?_eq_getElem (by omega)) hv)⟩
    exact rep_list (Z := Zbor Z u μ) (sz := sz) (fl := .sh) (rows := rows) (b := b) (o := o) (c := k) (C := A.toList) each hv hz (fun j hj => by
      rw [List.getElem?_take, if_pos (by simp at hj; omega), List.getElem?_drop]) cap trivial
  | agg hl cell h ih =>
    intro v hr
    obtain ⟨vs, rfl, hc⟩ := hr.ofAgg
    refine RepC.toAgg ⟨hc.1.trans hl, fun i d v hd hv => ?_⟩
    rename_i cs ds
    have hlt : i < cs.length := by rw [hl]; exact (List.getElem?_eq_some_iff.1 hd).1
    have hi : cs[i]? = some cs[i] := List.getElem?_eq_getElem hlt
    exact ⟨List.all_eq_true.1 cell d (List.mem_of_getElem? hd), ih i _ d hi hd (hc.2 i _ v hi hv).2⟩
  | tup hl ok h ih =>
    intro v hr
    obtain ⟨vs, rfl, hc⟩ := hr.ofTup
    refine Reps.toTup ⟨hc.1.trans hl, fun i d v hd hv => ?_⟩
    rename_i cs ds
    have hlt : i < cs.length := by rw [hl]; exact (List.getElem?_eq_some_iff.1 hd).1
    have hi : cs[i]? = some cs[i] := List.getElem?_eq_getElem hlt
    exact ⟨ok d (List.mem_of_getElem? hd), ih i _ d hi hd (hc.2 i _ v hi hv).2⟩

theorem BorV.list {μ : Mem} {a : Option Addr} {n k sz : Nat} {rows : List (List PV)} (h : SlM μ a n k sz rows) : BorV μ (.raw (.slice a n k)) (.list sz .sh rows) := by
  by_cases hn : n = 0
  · have : rows = [] := List.eq_nil_of_length_eq_zero (by rw [h.len, hn])
    subst this hn
    exact .lst0 a k sz h.spot
  · obtain ⟨b, o, rfl, hr⟩ := h.read hn
    obtain rfl := h.len
    exact .lst b o k sz rows _ h.cap h.each h.cell hr fun i c d hc hd => by rw [hc] at hd; cases hd; exact .same _

def BorL (μ : Mem) (cs ds : List PV) : Prop := cs.length = ds.length ∧ ∀ (i : Nat) c d, cs[i]? = some c → ds[i]? = some d → BorV μ c d

theorem BorL.refl (μ : Mem) (cs : List PV) : BorL μ cs cs := ⟨rfl, fun i c d h1 h2 => by rw [h1] at h2; cases h2; exact .same _⟩
theorem BorL.nil (μ : Mem) : BorL μ [] [] := BorL.refl μ []
theorem BorL.cons {μ : Mem} {c d : PV} {cs ds : List PV} (h : BorV μ c d) (k : BorL μ cs ds) : BorL μ (c :: cs) (d :: ds) := ⟨by simp [k.1], fun i x y h1 h2 => by
  cases i with
  | zero => simp at h1 h2; subst h1 h2; exact h
  | succ i => exact k.2 i x y h1 h2⟩

theorem BorL.rep {Z : Fz} {u : UW} {μ : Mem} (hg : Good Z u μ) {cs ds : List PV} {vs : List Value} (hb : BorL μ cs ds) (hr : RepM Z cs vs) : RepM (Zbor Z u μ) ds vs := by
  refine ⟨hr.1.trans hb.1, fun i d v hd hv => ?_⟩
  have hlt : i < cs.length := by rw [hb.1]; exact (List.getElem?_eq_some_iff.1 hd).1
  have hi : cs[i]? = some cs[i] := List.getElem?_eq_getElem hlt
  exact (hb.2 i _ d hi hd).rep hg (hr.2 i _ v hi hv)

theorem Zbor_none {Z : Fz} {u : UW} {μ : Mem} {b : Nat} (h : μ b = none) : Zbor Z u μ b = Z b := by
  unfold Zbor; rw [h]; rfl

theorem Zbor_zok {Z : Fz} {u : UW} {μ μ1 : Mem} (hg : Good Z u μ) : ∀ b C, Zbor Z u μ1 b = some C → ∃ A T f, u.heap[b]? = some (.cells A T f) ∧ C <+: A.toList := fun b C hC => by
  unfold Zbor at hC
  split at hC
  · split at hC
    · rename_i A T f hA; cases hC; exact ⟨A, T, f, hA, List.prefix_refl _⟩
    · cases hC
  · exact hg.zok b C hC

/-- A call of what only looks: some blocks are read as they are, their slices as lists. -/
theorem CallP.query {P : Program} {g : FuncId} {args : List PV} {μ ν μ1 : Mem} {K : PV → Mem → Prop} {Kq : PV → Prop} (h : CallP P g args ν fun p _ => Kq p) (h1 : ∀ b o, μ1 b = some o → μ b = some o)
    (hν : ∀ b o, ν b = some o → μ1 b = none ∧ ∃ T cs ds, o = .ro T ds ∧ μ b = some (.cells T cs) ∧ BorL μ1 cs ds) (hf : ∀ p, Kq p → p.flat = true) (hk : ∀ p, Kq p → K p μ) : CallP P g args μ K := fun Z u vs hg hw ha => by
  have hg1 : Good Z u μ1 := hg.sub h1
  have hle := Zbor_le hg1
  have hgb : Good (Zbor Z u μ1) ⟨u.toWorld, fun _ => False⟩ ν := by
    refine ⟨Zbor_zok hg, fun b o ho => ?_⟩
    obtain ⟨hn, T, cs, ds, rfl, hm, hb⟩ := hν b o ho
    obtain ⟨_, hz, A, hA, hc⟩ := hg.mem b _ hm
    exact ⟨fun hr => (by cases hr), (Zbor_none hn).trans hz, A, hA, hb.rep hg1 hc⟩
  obtain ⟨hc, F, hF, hcall⟩ := h (Zbor Z u μ1) ⟨u.toWorld, fun _ => False⟩ vs hgb (fun _ h => h.elim) (Reps.mono hle ha)
  refine ⟨hc, F, fun b hb => (hF b hb).elim, hcall.mono fun v lo w' hm hlo hp => ?_⟩
  obtain ⟨Z', μ', p, e, g', hr, hK⟩ := hp
  have keep : ∀ b, b < u.heap.size → w'.heap[b]? = u.heap[b]? := fun b hb => hm.keep b hb fun hf => hF b hf
  refine ⟨Z, μ, p, hg.ext, hg.go (Fz.le.refl Z) (fun b C hC => .inl ⟨hC, keep b (hg.ltZ (by rw [hC]; simp))⟩) (fun b o ho => .inl ⟨ho, keep b (hg.ltM (by rw [ho]; simp)), fun hp => .inl hp, rfl⟩), hr.flat (hf p hK), hk p hK⟩

/-! ### the memory, seen in another way -/
def GU (μ μ' : Mem) : Prop := ∀ (Z : Fz) (u : UW), Good Z u μ → ∃ Z', Ext Z μ u.heap.size Z' μ' ∧ Good Z' u μ'

theorem GU.refl (μ : Mem) : GU μ μ := fun Z u hg => ⟨Z, hg.ext, hg⟩
theorem GU.trans {μ μ' μ'' : Mem} (h : GU μ μ') (k : GU μ' μ'') : GU μ μ'' := fun Z u hg => by
  obtain ⟨Z', e, g⟩ := h Z u hg
  obtain ⟨Z'', e', g'⟩ := k Z' u g
  exact ⟨Z'', e.trans e' (Nat.le_refl _), g'⟩

theorem CallP.pre {P : Program} {g : FuncId} {args : List PV} {μ μ' : Mem} {K : PV → Mem → Prop} (hG : GU μ μ') (h : CallP P g args μ' K) : CallP P g args μ K := fun Z u vs hg hw ha => by
  obtain ⟨Z', e, g'⟩ := hG Z u hg
  obtain ⟨hc, F, hF, h⟩ := h Z' u vs g' hw (Reps.mono e.le ha)
  refine ⟨hc, F, hF, h.mono fun v lo w' _ hs hp => ?_⟩
  obtain ⟨Z'', μ'', p, e', g'', hr, hK⟩ := hp
  exact ⟨Z'', μ'', p, e.trans e' (Nat.le_refl _), g'', hr, hK⟩

theorem CallP.post {P : Program} {g : FuncId} {args : List PV} {μ : Mem} {K : PV → Mem → Prop} (h : CallP P g args μ fun v μ' => ∃ μ'', GU μ' μ'' ∧ K v μ'') : CallP P g args μ K := fun Z u vs hg hw ha => by
  obtain ⟨hc, F, hF, h⟩ := h Z u vs hg hw ha
  refine ⟨hc, F, hF, h.mono fun v lo w' hm hs hp => ?_⟩
  obtain ⟨Z', μ', p, e, g', hr, μ'', hG, hK⟩ := hp
  obtain ⟨Z'', e', g''⟩ := hG Z' _ g'
  exact ⟨Z'', μ'', p, e.trans e' hm.size, g'', hr.mono e'.le, hK⟩

/-- Blocks of one's own are frozen, and cells are seen in another way. -/
theorem GU.bor {μ μ1 μ' : Mem} (h1 : ∀ b o, μ1 b = some o → μ b = some o) (h : ∀ b o, μ' b = some o → μ1 b = none ∧ (μ b = some o ∨ ∃ T cs ds, o = .cells T ds ∧ μ b = some (.cells T cs) ∧ BorL μ1 cs ds)) : GU μ μ' := fun Z u hg => by
  have hg1 : Good Z u μ1 := hg.sub h1
  have hle := Zbor_le hg1
  have hmu : ∀ b, μ b = none → μ1 b = none := fun b hb => by
    cases hx : μ1 b with
    | none => rfl
    | some o => rw [h1 b o hx] at hb; cases hb
  refine ⟨Zbor Z u μ1, ⟨hle, fun b C hC hn => ?_, fun b hb => ?_, fun b hb => ?_, fun _ h' => hg.ltZ h'⟩, Zbor_zok hg, fun b o ho => ?_⟩
  · rw [Zbor_none (hmu b hn)]; exact hC
  · cases hx : μ1 b with
    | none => rw [Zbor_none hx] at hb; exact .inl hb
    | some o => exact .inr (.inl (by rw [h1 b o hx]; simp))
  · cases hx : μ' b with
    | none => exact absurd hx hb
    | some o =>
      rcases (h b o hx).2 with e | ⟨T, cs, ds, _, e, _⟩
      · exact .inl (by rw [e]; simp)
      · exact .inl (by rw [e]; simp)
  · obtain ⟨hn, e | ⟨T, cs, ds, rfl, e, hb⟩⟩ := h b o ho
    · obtain ⟨g1, g2⟩ := hg.mem b o e
      exact ⟨g1, g2.go hle (Zbor_none hn) rfl⟩
    · obtain ⟨g1, hz, A, hA, hc⟩ := hg.mem b _ e
      exact ⟨fun _ => g1 rfl, (Zbor_none hn).trans hz, A, hA, hb.rep hg1 hc⟩

/-- What is one's own is frozen for good, all of it: the answer as it is read then. -/
theorem CallP.sealq {P : Program} {g : FuncId} {args : List PV} {μ : Mem} {K : PV → Prop} (h : CallP P g args μ fun v μ' => ∃ v', BorV μ' v v' ∧ K v') : CallP P g args μ fun v _ => K v := fun Z u vs hg hw ha => by
  obtain ⟨hc, F, hF, h⟩ := h Z u vs hg hw ha
  refine ⟨hc, F, hF, h.mono fun v lo w' hm hs hp => ?_⟩
  obtain ⟨Z', μ', p, e, g', hr, v', hb, hK⟩ := hp
  have hG : GU μ' M0 := GU.bor (μ1 := μ') (fun _ _ h => h) fun b o h => by cases h
  have hle := Zbor_le g'
  refine ⟨Zbor Z' (u.ret lo w') μ', M0, v', ⟨e.le.trans hle, fun b C hC hn => ?_, fun b hb' => ?_, fun b hb' => absurd rfl hb', e.lt⟩, ⟨Zbor_zok g', fun b o h => by cases h⟩, hb.rep g' hr, hK⟩
  · have h1 := e.zs b C hC hn
    obtain ⟨C', h2, _⟩ := hle b C h1
    have : μ' b = none := by
      cases hx : μ' b with
      | none => rfl
      | some o =>
        rcases e.mn b (by rw [hx]; simp) with h3 | h3
        · exact absurd hn h3
        · have := e.lt b (by rw [hC]; simp); omega
    rw [Zbor_none this]; exact h1
  · cases hx : μ' b with
    | none => rw [Zbor_none hx] at hb'; exact e.zn b hb'
    | some o => exact .inr (e.mn b (by rw [hx]; simp))

theorem Zbor_M0 (Z : Fz) (u : UW) : Zbor Z u M0 = Z := by funext b; exact Zbor_none rfl

/-- An answer, seen in another way. -/
theorem CallP.conv {P : Program} {g : FuncId} {args : List PV} {μ : Mem} {K : PV → Mem → Prop} (h : CallP P g args μ fun v μ' => ∃ v', BorV M0 v v' ∧ K v' μ') : CallP P g args μ K := fun Z u vs hg hw ha => by
  obtain ⟨hc, F, hF, h⟩ := h Z u vs hg hw ha
  refine ⟨hc, F, hF, h.mono fun v lo w' hm hs hp => ?_⟩
  obtain ⟨Z', μ', p, e, g', hr, v', hb, hK⟩ := hp
  have := hb.rep (g'.sub (μ' := M0) fun b o h => by cases h) hr
  rw [Zbor_M0] at this
  exact ⟨Z', μ', v', e, g', this, hK⟩

/-- A call of what looks at values alone: each argument as it is read meanwhile. -/
theorem CallP.view {P : Program} {g : FuncId} {args args' : List PV} {μ : Mem} {K : PV → Mem → Prop} {Kp : PV → Prop} (h : PureK P g args' Kp) (hl : args.length = args'.length) (hb : ∀ (i : Nat) p q, args[i]? = some p → args'[i]? = some q → BorV μ p q ∧ q.ok = true) (hf : ∀ p, Kp p → p.flat = true) (hk : ∀ p, Kp p → K p μ) : CallP P g args μ K := fun Z u vs hg hw ha => by
  have hgb : Good (Zbor Z u μ) ⟨u.toWorld, fun _ => False⟩ M0 := ⟨Zbor_zok hg, fun b o h => by cases h⟩
  have ha' : Reps (Zbor Z u μ) args' vs := ⟨ha.1.trans hl, fun i q v hq hv => by
    have hlt : i < args.length := by rw [hl]; exact (List.getElem?_eq_some_iff.1 hq).1
    have hp : args[i]? = some args[i] := List.getElem?_eq_getElem hlt
    obtain ⟨h1, h2⟩ := hb i _ q hp hq
    exact ⟨h2, h1.rep hg (ha.2 i _ v hp hv).2⟩⟩
  obtain ⟨hc, F, hF, hcall⟩ := h (Zbor Z u μ) ⟨u.toWorld, fun _ => False⟩ vs hgb (fun _ h => h.elim) ha'
  refine ⟨hc, F, fun b hb => (hF b hb).elim, hcall.mono fun v lo w' hm hlo hp => ?_⟩
  obtain ⟨Z', μ', p, e, g', hr, hK⟩ := hp
  have keep : ∀ b, b < u.heap.size → w'.heap[b]? = u.heap[b]? := fun b hb => hm.keep b hb fun hf => hF b hf
  refine ⟨Z, μ, p, hg.ext, hg.go (Fz.le.refl Z) (fun b C hC => .inl ⟨hC, keep b (hg.ltZ (by rw [hC]; simp))⟩) (fun b o ho => .inl ⟨ho, keep b (hg.ltM (by rw [ho]; simp)), fun hp => .inl hp, rfl⟩), hr.flat (hf p hK), hk p hK⟩

/-- Frozen for good. -/
theorem CallP.freeze {P : Program} {g : FuncId} {args : List PV} {μ : Mem} {K K' : PV → Mem → Prop} (h : CallP P g args μ K) (hk : ∀ v μ', K v μ' → ∃ (v' : PV) (μ'' : Mem) (bs : List Nat), (∀ Z u r, Good Z u μ' → Rep Z v r → Rep (Zbor Z u fun b => if b ∈ bs then μ' b else none) v' r) ∧ (∀ b o, μ'' b = some o → μ' b = some o ∧ b ∉ bs) ∧ K' v' μ'') : CallP P g args μ K' := fun Z u vs hg hw ha => by
  obtain ⟨hc, h⟩ := h Z u vs hg hw ha
  refine ⟨hc, h.mono' fun v lo w' _ _ hp => ?_⟩
  obtain ⟨Z', μ', p, e, g', hr, hK⟩ := hp
  obtain ⟨v', μ'', bs, h1, h2, h3⟩ := hk p μ' hK
  have gs : Good Z' (u.ret lo w') (fun b => if b ∈ bs then μ' b else none) := g'.sub fun b o hb => by
    by_cases hm : b ∈ bs
    · rw [if_pos hm] at hb; exact hb
    · rw [if_neg hm] at hb; cases hb
  have hzb : ∀ b, b ∉ bs → Zbor Z' (u.ret lo w') (fun b => if b ∈ bs then μ' b else none) b = Z' b := fun b hb => by
    unfold Zbor; simp [hb, cellsOf]
  refine ⟨Zbor Z' (u.ret lo w') (fun b => if b ∈ bs then μ' b else none), μ'', v', ⟨e.le.trans (Zbor_le gs), fun b C hC hn => ?_, fun b hb => ?_, fun b hb => ?_, e.lt⟩, g'.go (Zbor_le gs) (fun b C hC => ?_) (fun b o ho => ?_), h1 Z' _ _ g' hr, h3⟩
  · have h4 := e.zs b C hC hn
    obtain ⟨C', h5, _⟩ := Zbor_le gs b C h4
    unfold Zbor at h5 ⊢
    split
    · rename_i cs hm
      have hz := (cellsOf_ok gs hm).1
      rw [h4] at hz; cases hz
    · exact h4
  · by_cases hm : b ∈ bs
    · cases hx : μ' b with
      | none => unfold Zbor at hb; simp [hm, hx, cellsOf] at hb; exact e.zn b hb
      | some o => exact .inr (e.mn b (by rw [hx]; simp))
    · rw [hzb b hm] at hb; exact e.zn b hb
  · cases hx : μ'' b with
    | none => exact absurd hx hb
    | some o => exact e.mn b (by rw [(h2 b o hx).1]; simp)
  · by_cases hm : b ∈ bs
    · unfold Zbor at hC
      split at hC
      · split at hC
        · rename_i A T f hA; cases hC; exact .inr ⟨A, T, f, hA, List.prefix_refl _⟩
        · cases hC
      · exact .inl ⟨hC, rfl⟩
    · rw [hzb b hm] at hC; exact .inl ⟨hC, rfl⟩
  · obtain ⟨h4, h5⟩ := h2 b o ho
    exact .inl ⟨h4, rfl, id, hzb b h5⟩

/-! ### rows -/
theorem atRow {T : Type} {pv : T → List PV} {l : List T} {k : Nat} (hk : k < l.length) : (l.map pv)[Int.toNat (k : Int)]? = some (pv l[k]) := by
  rw [Int.toNat_natCast, List.getElem?_map, List.getElem?_eq_getElem hk]; rfl

/-! ### the world at the start -/
def Zall (w : World) : Fz := fun b => match w.heap[b]? with | some (.cells A _ _) => some A.toList | _ => none

theorem Zall_at {w : World} {b : Nat} {A : Array Value} {T : TypeId} {f : Nat × Nat} (h : w.heap[b]? = some (.cells A T f)) : Zall w b = some A.toList := by simp [Zall, h]

theorem Zall_good (w : World) : Good (Zall w) ⟨w, fun _ => False⟩ M0 := by
  refine ⟨fun b C hC => ?_, fun b o h => by cases h⟩
  unfold Zall at hC
  split at hC
  · rename_i A T f h
    cases hC
    exact ⟨A, T, f, h, List.prefix_refl _⟩
  · cases hC

/-- The last step: the machine's call itself. -/
theorem PureK.calls {P : Program} {g : FuncId} {args : List PV} {K : PV → Prop} {w : World} {vs : List Value} (h : PureK P g args K) (ha : Reps (Zall w) args vs) : Calls P g vs.toArray w fun e w' => (∃ v p Z, e = .returned v ∧ Rep Z p v ∧ K p) ∧ Below w.heap.size w w' := by
  obtain ⟨_, F, hF, hcall⟩ := h (Zall w) ⟨w, fun _ => False⟩ vs (Zall_good w) (fun _ h => h.elim) ha
  refine (hcall w (Sees.refl w)).mono fun e w' ⟨v, w2, he, ho, Z', μ', p, _, _, hr, hK⟩ => ⟨⟨v, p, Z', he, hr, hK⟩, ?_⟩
  exact ⟨ho.mod.os, ho.mod.tape, ho.mod.output, ho.mod.size, fun b hb => ho.mod.keep b hb fun hf => hF b hf⟩

end Go.Eng

/-
  Sets that rise, in memory of their own: how they lie there.
-/
namespace Go.Eng
open Go.RowKit
set_option linter.unusedVariables false
set_option linter.unusedSimpArgs false
set_option linter.unnecessarySimpa false

/-- Nothing turned but in F, which lies in F' now. -/
structure Mv (μ μ' : Mem) (F F' : List Nat) : Prop where
  keep : ∀ x, μ x ≠ none → x ∉ F → μ' x = μ x
  grow : ∀ x ∈ F', x ∈ F ∨ μ x = none

theorem Mv.refl (μ : Mem) (F : List Nat) : Mv μ μ F F := ⟨fun _ _ _ => rfl, fun _ h => .inl h⟩
theorem Mv.trans {μ μ' μ'' : Mem} {F F' F'' : List Nat} (h : Mv μ μ' F F') (k : Mv μ' μ'' F' F'') : Mv μ μ'' F F'' := by
  have hk : ∀ x, μ x ≠ none → x ∉ F → μ'' x = μ x := fun x hx hn => by
    have e := h.keep x hx hn
    have hn' : x ∉ F' := fun h' => by
      rcases h.grow x h' with h1 | h1
      · exact hn h1
      · exact hx h1
    rw [k.keep x (by rw [e]; exact hx) hn', e]
  refine ⟨hk, fun x hx => ?_⟩
  rcases k.grow x hx with h1 | h1
  · exact h.grow x h1
  · by_cases hf : x ∈ F
    · exact .inl hf
    · right
      cases hm : μ x with
      | none => rfl
      | some o => rw [h.keep x (by rw [hm]; simp) hf, hm] at h1; cases h1
/-- Where more may turn. -/
theorem Mv.wide {μ μ' : Mem} {F F' G : List Nat} (h : Mv μ μ' F F') (hG : ∀ x ∈ F, x ∈ G) : Mv μ μ' G (F' ++ G) := ⟨fun x hx hn => h.keep x hx fun hf => hn (hG x hf), fun x hx => by
  rcases List.mem_append.1 hx with h1 | h1
  · exact (h.grow x h1).imp (hG x) id
  · exact .inl h1⟩
theorem Mv.sub {μ μ' : Mem} {F F' G : List Nat} (h : Mv μ μ' F F') (hG : ∀ x ∈ G, x ∈ F') : Mv μ μ' F G := ⟨h.keep, fun x hx => h.grow x (hG x hx)⟩
theorem Mv.set {μ : Mem} {b : Nat} {o : Option Ob} {F : List Nat} (h : b ∈ F ∨ μ b = none) : Mv μ (μ.set b o) F (b :: F) := ⟨fun x hx hn => by
  have : x ≠ b := by
    rintro rfl
    rcases h with h | h
    · exact hn h
    · exact hx h
  exact Mem.set_ne _ _ this, fun x hx => by
  rcases List.mem_cons.1 hx with rfl | h1
  · exact h
  · exact .inl h1⟩

/-! ### rows within cells -/
theorem flat_take {sz : Nat} : ∀ {R : List (List PV)} {s : Nat}, (∀ r ∈ R, r.length = sz) → s ≤ R.length → (R.flatten).take (s * sz) = (R.take s).flatten
  | R, 0, _, _ => by simp
  | [], s + 1, _, h => by simp at h
  | r :: R, s + 1, hR, h => by
    have hr : r.length = sz := hR r (by simp)
    rw [List.flatten_cons, List.take_succ_cons, List.flatten_cons, Nat.succ_mul, Nat.add_comm, ← hr, List.take_length_add_append, hr, flat_take (fun x hx => hR x (by simp [hx])) (by simpa using h)]
theorem flat_drop {sz : Nat} : ∀ {R : List (List PV)} {s : Nat}, (∀ r ∈ R, r.length = sz) → s ≤ R.length → (R.flatten).drop (s * sz) = (R.drop s).flatten
  | R, 0, _, _ => by simp
  | [], s + 1, _, h => by simp at h
  | r :: R, s + 1, hR, h => by
    have hr : r.length = sz := hR r (by simp)
    rw [List.flatten_cons, List.drop_succ_cons, Nat.succ_mul, Nat.add_comm, ← hr, List.drop_length_add_append, hr, flat_drop (fun x hx => hR x (by simp [hx])) (by simpa using h)]

theorem rdRow {μ : Mem} {b sz s : Nat} {e : TypeId} {R : List (List PV)} {rest r : List PV} (hR : ∀ r ∈ R, r.length = sz) (hm : μ b = some (.cells e (R.flatten ++ rest))) (hs : R[s]? = some r) : rdM μ b (s * sz) sz = some r := by
  have hlt : s < R.length := (List.getElem?_eq_some_iff.1 hs).1
  have hr : r.length = sz := hR r (List.mem_of_getElem? hs)
  have hfl : R.flatten.length = R.length * sz := flatLen hR
  have hle : s * sz + sz ≤ R.flatten.length := by rw [hfl, ← Nat.succ_mul]; exact Nat.mul_le_mul_right _ hlt
  simp only [rdM, hm]
  rw [if_pos (by rw [List.length_append]; omega), List.drop_append_of_le_length (by omega), flat_drop hR (Nat.le_of_lt hlt), List.drop_eq_getElem_cons hlt, List.flatten_cons, List.append_assoc]
  have : R[s] = r := by have := List.getElem?_eq_getElem hlt; rw [hs] at this; exact (Option.some.inj this).symm
  rw [this, ← hr, List.take_left']
  rfl

theorem wrRow {sz s : Nat} {R : List (List PV)} {rest r : List PV} (hR : ∀ r ∈ R, r.length = sz) (hs : s < R.length) (hr : r.length = sz) : wrL (R.flatten ++ rest) (s * sz) r = (R.set s r).flatten ++ rest := by
  have hfl : R.flatten.length = R.length * sz := flatLen hR
  have hle : s * sz + sz ≤ R.flatten.length := by rw [hfl, ← Nat.succ_mul]; exact Nat.mul_le_mul_right _ hs
  unfold wrL
  rw [List.take_append_of_le_length (by omega), flat_take hR (Nat.le_of_lt hs), hr, List.drop_append_of_le_length hle, show s * sz + sz = (s + 1) * sz by rw [Nat.succ_mul], flat_drop hR hs, List.set_eq_take_append_cons_drop, if_pos hs]
  simp [List.flatten_append]

/-! ### sets -/
/-- A slice of the set's own. -/
def RawIn (Ts e : TypeId) (sz : Nat) (μ : Mem) (b : Nat) (rows : List (List PV)) (F : List Nat) : Prop :=
  (F = [b] ∧ rows = [] ∧ μ b = some (.cells Ts [.raw (.slice none 0 0), pB false])) ∨
  (∃ b' c rest, F = [b, b'] ∧ b' ≠ b ∧ μ b = some (.cells Ts [.raw (.slice (some ⟨b', 0, none⟩) rows.length c), pB false]) ∧ μ b' = some (.cells e (rows.flatten ++ rest)) ∧ rows.length * sz + rest.length = c * sz ∧ rows.length ≤ c)

structure SetIn (Ts e : TypeId) (sz : Nat) (μ : Mem) (b : Nat) (rows : List (List PV)) (F : List Nat) : Prop where
  each : ∀ r ∈ rows, r.length = sz
  cell : allCell rows.flatten = true
  lies : (F = [b] ∧ μ b = some (.cells Ts [.list sz .sh rows, pB true])) ∨ (F = [b] ∧ rows = [] ∧ μ b = some (.cells Ts [.list sz .nil [], pB false])) ∨ RawIn Ts e sz μ b rows F

theorem RawIn.at_ {Ts e : TypeId} {sz : Nat} {μ : Mem} {b : Nat} {rows : List (List PV)} {F : List Nat} (h : RawIn Ts e sz μ b rows F) : b ∈ F ∧ ∀ x ∈ F, μ x ≠ none := by
  rcases h with ⟨rfl, _, h⟩ | ⟨b', c, rest, rfl, _, h, h', _⟩
  · simp [h]
  · refine ⟨by simp, fun x hx => ?_⟩
    simp only [List.mem_cons, List.not_mem_nil, or_false] at hx
    rcases hx with rfl | rfl
    · rw [h]; simp
    · rw [h']; simp

theorem SetIn.at_ {Ts e : TypeId} {sz : Nat} {μ : Mem} {b : Nat} {rows : List (List PV)} {F : List Nat} (h : SetIn Ts e sz μ b rows F) : b ∈ F ∧ ∀ x ∈ F, μ x ≠ none := by
  rcases h.lies with ⟨rfl, h1⟩ | ⟨rfl, _, h1⟩ | h1
  · simp [h1]
  · simp [h1]
  · exact h1.at_

theorem SetIn.same {Ts e : TypeId} {sz : Nat} {μ μ' : Mem} {b : Nat} {rows : List (List PV)} {F : List Nat} (h : SetIn Ts e sz μ b rows F) (hk : ∀ x ∈ F, μ' x = μ x) : SetIn Ts e sz μ' b rows F := by
  have hb := hk b h.at_.1
  refine ⟨h.each, h.cell, ?_⟩
  rcases h.lies with ⟨rfl, h1⟩ | ⟨rfl, h0, h1⟩ | ⟨rfl, h0, h1⟩ | ⟨b', c, rest, rfl, h0, h1, h2, h3⟩
  · exact .inl ⟨rfl, by rw [hb]; exact h1⟩
  · exact .inr (.inl ⟨rfl, h0, by rw [hb]; exact h1⟩)
  · exact .inr (.inr (.inl ⟨rfl, h0, by rw [hb]; exact h1⟩))
  · exact .inr (.inr (.inr ⟨b', c, rest, rfl, h0, by rw [hb]; exact h1, by rw [hk b' (by simp)]; exact h2, h3⟩))

theorem RawIn.slM {Ts e : TypeId} {sz : Nat} {μ : Mem} {b : Nat} {rows : List (List PV)} {F : List Nat} (h : RawIn Ts e sz μ b rows F) (hr : ∀ r ∈ rows, r.length = sz) (hc : allCell rows.flatten = true) :
    ∃ a c μ1, μ b = some (.cells Ts [.raw (.slice a rows.length c), pB false]) ∧ (∀ x o, μ1 x = some o → μ x = some o ∧ x ∈ F ∧ x ≠ b) ∧ (∀ x ∈ F, x ≠ b → μ1 x = μ x) ∧ SlM μ1 a rows.length c sz rows := by
  rcases h with ⟨rfl, rfl, h⟩ | ⟨b', c, rest, rfl, h0, h1, h2, h3, h4⟩
  · exact ⟨none, 0, M0, h, fun x o hx => (by cases hx), fun x hx hn => absurd (by simpa using hx) hn, rfl, Nat.le_refl _, .inl rfl, hr, hc, fun h => absurd rfl h⟩
  · refine ⟨_, c, M0.set b' (μ b'), h1, fun x o hx => ?_, fun x hx hn => ?_, rfl, h4, .inr fun x hx => by cases hx; rfl, hr, hc, fun _ => ⟨b', 0, rfl, ?_⟩⟩
    · by_cases e : x = b'
      · subst e; rw [Mem.set_same] at hx; exact ⟨hx, by simp, h0⟩
      · rw [Mem.set_ne _ _ e] at hx; cases hx
    · simp only [List.mem_cons, List.not_mem_nil, or_false] at hx
      rw [hx.resolve_left hn, Mem.set_same]
    · have hfl : rows.flatten.length = rows.length * sz := flatLen hr
      simp only [rdM, Mem.set_same, h2]
      rw [if_pos (by simp [hfl]), List.drop_zero, ← hfl, List.take_left']
      rfl

/-- What only looks at a set. -/
theorem SetIn.query {P : Program} {g : FuncId} {args : List PV} {Ts e : TypeId} {sz : Nat} {μ : Mem} {b : Nat} {rows : List (List PV)} {F : List Nat} {K : PV → Mem → Prop} {Kq : PV → Prop} (h : SetIn Ts e sz μ b rows F)
    (hc : ∀ s, CallP P g args (M0.set b (some (.ro Ts [.list sz .sh rows, pB s]))) fun p _ => Kq p) (hf : ∀ p, Kq p → p.flat = true) (hk : ∀ p, Kq p → K p μ) : CallP P g args μ K := by
  have one : ∀ {s : Bool} {μ1 : Mem} {c : PV}, μ1 b = none → μ b = some (.cells Ts [c, pB s]) → BorV μ1 c (.list sz .sh rows) → ∀ x o, (M0.set b (some (.ro Ts [.list sz .sh rows, pB s]))) x = some o → μ1 x = none ∧ ∃ T cs ds, o = .ro T ds ∧ μ x = some (.cells T cs) ∧ BorL μ1 cs ds := fun hn hm hb x o hx => by
    by_cases e : x = b
    · subst e
      rw [Mem.set_same] at hx
      cases hx
      exact ⟨hn, Ts, _, _, rfl, hm, BorL.cons hb (BorL.refl _ _)⟩
    · rw [Mem.set_ne _ _ e] at hx; cases hx
  rcases h.lies with ⟨rfl, hm⟩ | ⟨rfl, h0, hm⟩ | hr
  · exact CallP.query (hc true) (μ1 := M0) (fun _ _ h => by cases h) (one rfl hm (.same _)) hf hk
  · subst h0
    exact CallP.query (hc false) (μ1 := M0) (fun _ _ h => by cases h) (one rfl hm (.wk (.list sz .nil []))) hf hk
  · obtain ⟨a, c, μ1, hm, h1, _, hs⟩ := hr.slM h.each h.cell
    refine CallP.query (hc false) (μ1 := μ1) (fun x o hx => (h1 x o hx).1) (one ?_ hm (.list hs)) hf hk
    cases hx : μ1 b with
    | none => rfl
    | some o => exact absurd rfl (h1 b o hx).2.2

/-- A set's list, held by anyone from now on. -/
theorem SetIn.list {Ts e : TypeId} {sz : Nat} {μ : Mem} {b : Nat} {rows : List (List PV)} {F : List Nat} (h : SetIn Ts e sz μ b rows F) : ∃ μ' s, GU μ μ' ∧ μ' b = some (.cells Ts [.list sz .sh rows, pB s]) ∧ Mv μ μ' F [b] := by
  rcases h.lies with ⟨rfl, hm⟩ | ⟨rfl, h0, hm⟩ | hr
  · exact ⟨μ, true, GU.refl μ, hm, Mv.refl _ _⟩
  · subst h0
    refine ⟨μ.set b (some (.cells Ts [.list sz .sh [], pB false])), false, GU.bor (μ1 := M0) (fun _ _ h => by cases h) fun x o hx => ⟨rfl, ?_⟩, Mem.set_same _ _ _, (Mv.set (.inl (by simp))).sub (by simp)⟩
    by_cases e : x = b
    · subst e
      rw [Mem.set_same] at hx; cases hx
      exact .inr ⟨Ts, _, _, rfl, hm, BorL.cons (.wk (.list sz .nil [])) (BorL.refl _ _)⟩
    · rw [Mem.set_ne _ _ e] at hx; exact .inl hx
  · obtain ⟨a, c, μ1, hm, h1, h2, hs⟩ := hr.slM h.each h.cell
    have hb : μ1 b = none := by
      cases hx : μ1 b with
      | none => rfl
      | some o => exact absurd rfl (h1 b o hx).2.2
    refine ⟨fun x => if x = b then some (.cells Ts [.list sz .sh rows, pB false]) else if μ1 x = none then μ x else none, false, GU.bor (μ1 := μ1) (fun x o hx => (h1 x o hx).1) fun x o hx => ?_, if_pos rfl, ⟨fun x hx hn => ?_, fun x hx => .inl (by simp at hx; rw [hx]; exact hr.at_.1)⟩⟩
    · by_cases e : x = b
      · subst e
        rw [if_pos rfl] at hx; cases hx
        exact ⟨hb, .inr ⟨Ts, _, _, rfl, hm, BorL.cons (.list hs) (BorL.refl _ _)⟩⟩
      · rw [if_neg e] at hx
        split at hx
        · rename_i hn; exact ⟨hn, .inl hx⟩
        · cases hx
    · have hne : x ≠ b := by rintro rfl; exact hn hr.at_.1
      simp only [if_neg hne]
      rw [if_pos]
      cases hx1 : μ1 x with
      | none => rfl
      | some o => exact absurd (h1 x o hx1).2.1 hn

/-- nil as a slice of its own. -/
theorem SetIn.raw {Ts e : TypeId} {sz : Nat} {μ : Mem} {b : Nat} {rows : List (List PV)} {F : List Nat} (h : SetIn Ts e sz μ b rows F) : ∃ μ', GU μ μ' ∧ Mv μ μ' F F ∧ ((F = [b] ∧ μ' b = some (.cells Ts [.list sz .sh rows, pB true])) ∨ RawIn Ts e sz μ' b rows F) := by
  rcases h.lies with ⟨rfl, hm⟩ | ⟨rfl, h0, hm⟩ | hr
  · exact ⟨μ, GU.refl μ, Mv.refl _ _, .inl ⟨rfl, hm⟩⟩
  · subst h0
    refine ⟨μ.set b (some (.cells Ts [.raw (.slice none 0 0), pB false])), GU.bor (μ1 := M0) (fun _ _ h => by cases h) fun x o hx => ⟨rfl, ?_⟩, (Mv.set (.inl (by simp))).sub (by simp), .inr (.inl ⟨rfl, rfl, Mem.set_same _ _ _⟩)⟩
    by_cases e : x = b
    · subst e
      rw [Mem.set_same] at hx; cases hx
      exact .inr ⟨Ts, _, _, rfl, hm, BorL.cons (.nil sz []) (BorL.refl _ _)⟩
    · rw [Mem.set_ne _ _ e] at hx; exact .inl hx
  · exact ⟨μ, GU.refl μ, Mv.refl _ _, .inr hr⟩

theorem allCell_append {xs ys : List PV} (h : allCell xs = true) (k : allCell ys = true) : allCell (xs ++ ys) = true := by
  unfold allCell at *; rw [List.all_append, h, k]; rfl

/-- One more row, at the end. -/
theorem RawIn.app {Ts e : TypeId} {sz : Nat} {μ : Mem} {b : Nat} {rows : List (List PV)} {F : List Nat} (h : RawIn Ts e sz μ b rows F) (hr : ∀ r ∈ rows, r.length = sz) : ∃ a c, μ b = some (.cells Ts [.raw (.slice a rows.length c), pB false]) ∧
    ∀ (r : List PV) (bytes : Nat) (K : Option Addr → Nat → Nat → Mem → Prop), r.length = sz → allCell r = true → (rows.length + 1) * bytes ≤ 140737488355328 → rows.length + 1 < 4611686018427387904 →
      (∀ b' c' rest μ2, b' ≠ b → μ2 b = μ b → μ2 b' = some (.cells e ((rows ++ [r]).flatten ++ rest)) → (rows.length + 1) * sz + rest.length = c' * sz → rows.length + 1 ≤ c' → Mv μ μ2 F [b, b'] → K (some ⟨b', 0, none⟩) (rows.length + 1) c' μ2) →
      appR sz bytes e a rows.length c (.list sz .nr [r]) μ K := by
  have okr : ∀ r : List PV, okSz sz sz [r] = true := fun r => by simp [okSz, Nat.beq_refl]
  have hfl : rows.flatten.length = rows.length * sz := flatLen hr
  rcases h with ⟨rfl, rfl, hm⟩ | ⟨b0, c, rest, rfl, h0, h1, h2, h3, h4⟩
  · refine ⟨none, 0, hm, fun r bytes K hl hcl hb h62 hK => ?_⟩
    unfold appR newC
    simp only [okr, cond_true]
    refine ⟨by simpa using hb, by simpa using h62, Nat.le_refl _, .inr ⟨by simp, by simpa using hcl, fun h => by simp at h, fun _ => ⟨[], .inl ⟨rfl, rfl⟩, fun b' c' hn hc' => ?_⟩⟩⟩
    have hne : b' ≠ b := by rintro rfl; rw [hm] at hn; cases hn
    refine hK b' c' (List.replicate ((c' - (0 + 1)) * sz) .poison) _ hne (by rw [Mem.set_ne _ _ (Ne.symm hne)]) ?_ ?_ (by simpa using hc') ((Mv.set (.inr hn)).sub (by simp))
    · rw [Mem.set_same]; simp
    · simp only [List.length_nil, List.length_replicate]
      rw [← Nat.add_mul]; congr 1; simp at hc'; omega
  · refine ⟨_, c, h1, fun r bytes K hl hcl hb h62 hK => ?_⟩
    unfold appR newC
    simp only [okr, cond_true]
    have hrd : rdM μ b0 0 (rows.length * sz) = some rows.flatten := by
      simp only [rdM, h2]
      rw [if_pos (by simp [hfl]), List.drop_zero, ← hfl, List.take_left']
      rfl
    refine ⟨by simpa using hb, by simpa using h62, h4, .inr ⟨by simp, by simpa using hcl, fun hle => ⟨b0, 0, e, _, rfl, h2, by simp [hfl, h3], ?_⟩, fun hlt => ⟨_, .inr ⟨b0, 0, rfl, hrd⟩, fun b' c' hn hc' => ?_⟩⟩⟩
    · simp only [List.length_singleton] at hle ⊢
      have hle' : (rows.length + 1) * sz ≤ c * sz := Nat.mul_le_mul_right _ hle
      have hsz : sz ≤ rest.length := by rw [Nat.succ_mul] at hle'; omega
      refine hK b0 c (rest.drop sz) _ h0 (by rw [Mem.set_ne _ _ (Ne.symm h0)]) ?_ ?_ hle ((Mv.set (.inl (by simp))).sub (by simp))
      · rw [Mem.set_same]
        congr 2
        unfold wrL
        rw [Nat.zero_add, ← hfl, List.take_left' rfl, List.flatten_cons, List.flatten_nil, List.append_nil, List.drop_length_add_append, hl, List.flatten_append]
        simp
      · rw [List.length_drop, Nat.succ_mul]; omega
    · simp only [List.length_singleton] at hc' ⊢
      have hne : b' ≠ b := by rintro rfl; rw [h1] at hn; cases hn
      refine hK b' c' (List.replicate ((c' - (rows.length + 1)) * sz) .poison) _ hne (by rw [Mem.set_ne _ _ (Ne.symm hne)]) ?_ ?_ hc' ((Mv.set (F := [b, b0]) (.inr hn)).sub (by simp))
      · rw [Mem.set_same]; simp
      · rw [List.length_replicate, ← Nat.add_mul]; congr 1; omega

/-! ### a slice of one's own, held in some cell -/
def OwnV (e : TypeId) (sz : Nat) (μ : Mem) (p : PV) (rows : List (List PV)) (F : List Nat) : Prop :=
  (p = .raw (.slice none 0 0) ∧ rows = [] ∧ F = []) ∨
  (∃ b c rest, p = .raw (.slice (some ⟨b, 0, none⟩) rows.length c) ∧ F = [b] ∧ μ b = some (.cells e (rows.flatten ++ rest)) ∧ rows.length * sz + rest.length = c * sz ∧ rows.length ≤ c)

theorem OwnV.at_ {e : TypeId} {sz : Nat} {μ : Mem} {p : PV} {rows : List (List PV)} {F : List Nat} (h : OwnV e sz μ p rows F) : ∀ x ∈ F, μ x ≠ none := by
  rcases h with ⟨_, _, rfl⟩ | ⟨b, c, rest, _, rfl, h, _⟩
  · intro x hx; cases hx
  · intro x hx; simp at hx; subst hx; rw [h]; simp

theorem OwnV.same {e : TypeId} {sz : Nat} {μ μ' : Mem} {p : PV} {rows : List (List PV)} {F : List Nat} (h : OwnV e sz μ p rows F) (hk : ∀ x ∈ F, μ' x = μ x) : OwnV e sz μ' p rows F := by
  rcases h with h | ⟨b, c, rest, h1, rfl, h2, h3⟩
  · exact .inl h
  · exact .inr ⟨b, c, rest, h1, rfl, by rw [hk b (by simp)]; exact h2, h3⟩

theorem OwnV.view {e : TypeId} {sz : Nat} {μ : Mem} {p : PV} {rows : List (List PV)} {F : List Nat} (h : OwnV e sz μ p rows F) (hr : ∀ r ∈ rows, r.length = sz) (hc : allCell rows.flatten = true) : BorV μ p (.list sz .sh rows) := by
  rcases h with ⟨rfl, rfl, _⟩ | ⟨b, c, rest, rfl, _, h2, h3, h4⟩
  · exact .lst0 none 0 sz (.inl rfl)
  · have hfl : rows.flatten.length = rows.length * sz := flatLen hr
    refine .list ⟨rfl, h4, .inr fun x hx => by cases hx; rfl, hr, hc, fun _ => ⟨b, 0, rfl, ?_⟩⟩
    simp only [rdM, h2]
    rw [if_pos (by simp [hfl]), List.drop_zero, ← hfl, List.take_left']
    rfl

/-- One more row, at the end. -/
theorem OwnV.app {e : TypeId} {sz : Nat} {μ : Mem} {p : PV} {rows : List (List PV)} {F : List Nat} (h : OwnV e sz μ p rows F) (hr : ∀ r ∈ rows, r.length = sz) : ∃ a c, p = .raw (.slice a rows.length c) ∧
    ∀ (r : List PV) (bytes : Nat) (K : Option Addr → Nat → Nat → Mem → Prop), r.length = sz → allCell r = true → (rows.length + 1) * bytes ≤ 140737488355328 → rows.length + 1 < 4611686018427387904 →
      (∀ b' c' rest μ2, μ2 b' = some (.cells e ((rows ++ [r]).flatten ++ rest)) → (rows.length + 1) * sz + rest.length = c' * sz → rows.length + 1 ≤ c' → Mv μ μ2 F [b'] → K (some ⟨b', 0, none⟩) (rows.length + 1) c' μ2) →
      appR sz bytes e a rows.length c (.list sz .nr [r]) μ K := by
  have okr : ∀ r : List PV, okSz sz sz [r] = true := fun r => by simp [okSz, Nat.beq_refl]
  have hfl : rows.flatten.length = rows.length * sz := flatLen hr
  rcases h with ⟨rfl, rfl, rfl⟩ | ⟨b0, c, rest, rfl, rfl, h2, h3, h4⟩
  · refine ⟨none, 0, rfl, fun r bytes K hl hcl hb h62 hK => ?_⟩
    unfold appR newC
    simp only [okr, cond_true]
    refine ⟨by simpa using hb, by simpa using h62, Nat.le_refl _, .inr ⟨by simp, by simpa using hcl, fun h => by simp at h, fun _ => ⟨[], .inl ⟨rfl, rfl⟩, fun b' c' hn hc' => ?_⟩⟩⟩
    refine hK b' c' (List.replicate ((c' - (0 + 1)) * sz) .poison) _ ?_ ?_ (by simpa using hc') ((Mv.set (.inr hn)).sub (by simp))
    · rw [Mem.set_same]; simp
    · simp only [List.length_nil, List.length_replicate]
      rw [← Nat.add_mul]; congr 1; simp at hc'; omega
  · refine ⟨_, c, rfl, fun r bytes K hl hcl hb h62 hK => ?_⟩
    unfold appR newC
    simp only [okr, cond_true]
    have hrd : rdM μ b0 0 (rows.length * sz) = some rows.flatten := by
      simp only [rdM, h2]
      rw [if_pos (by simp [hfl]), List.drop_zero, ← hfl, List.take_left']
      rfl
    refine ⟨by simpa using hb, by simpa using h62, h4, .inr ⟨by simp, by simpa using hcl, fun hle => ⟨b0, 0, e, _, rfl, h2, by simp [hfl, h3], ?_⟩, fun hlt => ⟨_, .inr ⟨b0, 0, rfl, hrd⟩, fun b' c' hn hc' => ?_⟩⟩⟩
    · simp only [List.length_singleton] at hle ⊢
      have hle' : (rows.length + 1) * sz ≤ c * sz := Nat.mul_le_mul_right _ hle
      have hsz : sz ≤ rest.length := by rw [Nat.succ_mul] at hle'; omega
      refine hK b0 c (rest.drop sz) _ ?_ ?_ hle ((Mv.set (.inl (by simp))).sub (by simp))
      · rw [Mem.set_same]
        congr 2
        unfold wrL
        rw [Nat.zero_add, ← hfl, List.take_left' rfl, List.flatten_cons, List.flatten_nil, List.append_nil, List.drop_length_add_append, hl, List.flatten_append]
        simp
      · rw [List.length_drop, Nat.succ_mul]; omega
    · simp only [List.length_singleton] at hc' ⊢
      refine hK b' c' (List.replicate ((c' - (rows.length + 1)) * sz) .poison) _ ?_ ?_ hc' ((Mv.set (F := [b0]) (.inr hn)).sub (by simp))
      · rw [Mem.set_same]; simp
      · rw [List.length_replicate, ← Nat.add_mul]; congr 1; omega

theorem Mem.set_self {μ : Mem} {b : Nat} {o : Option Ob} (h : μ b = o) : μ.set b o = μ := by
  funext x
  by_cases e : x = b
  · subst e; rw [Mem.set_same, h]
  · rw [Mem.set_ne _ _ e]

/-- append to room that was just made. -/
theorem appR_new {size bytes : Nat} {e : TypeId} {b c : Nat} {rows : List (List PV)} {fl : Fl} {μ : Mem} {cs : List PV} {K : Option Addr → Nat → Nat → Mem → Prop} (hm : μ b = some (.cells e cs)) (hcs : cs.length = c * size) (hlen : rows.length ≤ c) (hr : ∀ r ∈ rows, r.length = size) (hcl : allCell rows.flatten = true)
    (hb : rows.length * bytes ≤ 140737488355328) (h62 : rows.length < 4611686018427387904) (hK : K (some ⟨b, 0, none⟩) rows.length c (μ.set b (some (.cells e (rows.flatten ++ cs.drop (rows.length * size)))))) : appR size bytes e (some ⟨b, 0, none⟩) 0 c (.list size fl rows) μ K := by
  have hfl : rows.flatten.length = rows.length * size := flatLen hr
  unfold appR newC
  simp only [okSz, Nat.beq_refl, cond_true]
  refine ⟨by simpa using hb, by simpa using h62, Nat.zero_le _, ?_⟩
  by_cases h0 : rows.length = 0
  · have : rows = [] := List.eq_nil_of_length_eq_zero h0
    subst this
    refine .inl ⟨rfl, fun h => absurd rfl h, ?_⟩
    simp only [List.flatten_nil, List.nil_append, List.length_nil, Nat.zero_mul, List.drop_zero] at hK
    rw [Mem.set_self hm] at hK
    exact hK
  · refine .inr ⟨h0, hcl, fun _ => ⟨b, 0, e, cs, rfl, hm, by omega, ?_⟩, fun h => by omega⟩
    simp only [Nat.zero_add, Nat.zero_mul]
    have : wrL cs 0 rows.flatten = rows.flatten ++ cs.drop (rows.length * size) := by
      unfold wrL; simp [hfl]
    rw [this]
    exact hK

/-- Downwards. -/
theorem LoopI.down {γ : Type} {body : (Int → γ → Prop) → Int → γ → Prop} {u : γ} {n k : Nat} (hk : k ≤ n) (hn : n < 9223372036854775808) (I : Nat → γ → Prop) (h0 : I n u)
    (hin : ∀ (j : Nat) (u : γ) (next : Int → γ → Prop), k < j → j ≤ n → I j u → (∀ u', I (j - 1) u' → next (IntKind.wrap .i64 ((j : Int) - 1)) u') → body next (j : Int) u)
    (hout : ∀ (u : γ) (next : Int → γ → Prop), I k u → body next (k : Int) u) : LoopI body (n : Int) u := by
  refine ⟨fun m s w => ∃ j : Nat, s = (j : Int) ∧ k ≤ j ∧ j ≤ n ∧ m = j - k ∧ I j w, ⟨n - k, n, rfl, hk, Nat.le_refl _, rfl, h0⟩, ?_⟩
  rintro m s w ⟨j, rfl, h1, h2, rfl, hI⟩
  by_cases h : k < j
  · refine hin j w _ h h2 hI fun u' hu => ⟨j - 1 - k, by omega, j - 1, ?_, by omega, by omega, rfl, hu⟩
    rw [wrap_id (by omega) (by omega)]; omega
  · have : j = k := by omega
    subst this
    exact hout w _ hI

theorem rdM_at {μ : Mem} {b o n : Nat} {T : TypeId} {cs : List PV} (h : μ b = some (.cells T cs)) (hl : o + n ≤ cs.length) : rdM μ b o n = some ((cs.drop o).take n) := by simp only [rdM, h]; rw [if_pos hl]
theorem rdM_ro {μ : Mem} {b o n : Nat} {T : TypeId} {cs : List PV} (h : μ b = some (.ro T cs)) (hl : o + n ≤ cs.length) : rdM μ b o n = some ((cs.drop o).take n) := by simp only [rdM, h]; rw [if_pos hl]

end Go.Eng

/-
  What came in, opened: from the reading that a row speaks of to plain values.
-/
namespace Go.Eng
open Go.RowKit
set_option linter.unusedVariables false

/-- Cells of a type read, within so many steps. -/
def Reads (P : Program) (w : World) (n : Nat) (t : TypeId) (cs : List Value) : Prop := ∃ (H : Type) (enc : TypeId × Value → H) (x : DataW H × List MemPlace), DataW.trod enc P w 0 (fun _ => true) true n t cs = some x

section
variable {P : Program} {w : World} {n : Nat} {t : TypeId} {cs : List Value}

theorem Reads.int {k : IntKind} (ht : P.underlying t = some (.int k)) (h : Reads P w n t cs) : ∃ i, cs = [.int k i] ∧ (Lit.int k i).wf = true := by
  obtain ⟨H, enc, x, h⟩ := h
  cases n with
  | zero => simp [DataW.trod] at h
  | succ n =>
    unfold DataW.trod at h
    simp only [ht] at h
    split at h <;> simp_all

theorem Reads.bool (ht : P.underlying t = some .bool) (h : Reads P w n t cs) : ∃ b, cs = [.bool b] := by
  obtain ⟨H, enc, x, h⟩ := h
  cases n with
  | zero => simp [DataW.trod] at h
  | succ n =>
    unfold DataW.trod at h
    simp only [ht] at h
    split at h <;> simp_all

theorem Reads.string (ht : P.underlying t = some .string) (h : Reads P w n t cs) : ∃ s : ByteArray, cs = [.string s] ∧ s.size ≤ maxLen := by
  obtain ⟨H, enc, x, h⟩ := h
  cases n with
  | zero => simp [DataW.trod] at h
  | succ n =>
    unfold DataW.trod at h
    simp only [ht] at h
    split at h <;> simp_all

theorem Reads.struct {fs : Array Field} (ht : P.underlying t = some (.struct fs)) (h : Reads P w n t cs) : ∃ m, n = m + 1 ∧ cs.length = P.cellsOf t ∧ ∀ (i : Nat) (f : Field), fs[i]? = some f → Reads P w m f.type ((cs.drop f.offset).take (P.cellsOf f.type)) := by
  obtain ⟨H, enc, x, h⟩ := h
  obtain ⟨xs, m, rfl, _, hl, hx, hf⟩ := DataW.trod_struct ht h
  refine ⟨m, rfl, hl, fun i f hi => ?_⟩
  have := hf i f hi
  have hlt : i < xs.length := by rw [hx]; exact (Array.getElem?_eq_some_iff.1 hi).1
  rw [List.getElem?_eq_getElem hlt] at this
  exact ⟨H, enc, _, this⟩

theorem cells_rd {a : Addr} {sz : Nat} {cs : List Value} (h : w.cells? 0 a sz = some cs) (hz : sz ≠ 0) : a.spot = none ∧ rd w.heap a.block a.off sz = some cs := by
  obtain ⟨_, hl, hc⟩ := World.cells?_some h
  have h0 := hc 0 (by omega)
  have e0 : a.add 0 = a := by simp [Addr.add]
  rw [e0, List.getElem?_eq_getElem (by omega)] at h0
  unfold World.cell? at h0
  split at h0
  · rename_i c T f hb
    split at h0
    · cases h0
    · rename_i hs
      have hspot : a.spot = none := by simpa using hs
      refine ⟨hspot, ?_⟩
      have hget : ∀ i, i < sz → c[a.off + i]? = cs[i]? := by
        intro i hi
        have := hc i hi
        have e : a.add i = ⟨a.block, a.off + i, none⟩ := by
          unfold Addr.add
          split
          · rename_i h; subst h; obtain ⟨_, _, _⟩ := a; simp_all
          · rfl
        rw [e] at this
        simpa [World.cell?, hb] using this
      have hle : a.off + sz ≤ c.size := by
        have := hget (sz - 1) (by omega)
        rw [List.getElem?_eq_getElem (by omega)] at this
        have := (Array.getElem?_eq_some_iff.1 this).1
        omega
      rw [rd_of hb hle]
      congr 1
      refine List.ext_getElem? fun i => ?_
      by_cases hi : i < sz
      · rw [List.getElem?_take_of_lt hi, List.getElem?_drop, ← hget i hi]; simp
      · rw [List.getElem?_eq_none (by simp; omega), List.getElem?_eq_none (by omega)]
  · cases h0

theorem rd_append {H : Heap} {b o m k : Nat} {xs ys : List Value} (h1 : rd H b o m = some xs) (h2 : rd H b (o + m) k = some ys) : rd H b o (m + k) = some (xs ++ ys) := by
  obtain ⟨c, T, f, a1, a2, rfl⟩ := rd_block h1
  obtain ⟨c', T', f', b1, b2, rfl⟩ := rd_block h2
  rw [a1] at b1
  simp only [Option.some.injEq, Obj.cells.injEq] at b1
  obtain ⟨rfl, rfl, rfl⟩ := b1
  rw [rd_of a1 (by omega)]
  congr 1
  rw [List.take_add, List.drop_drop]

theorem rows_rd {H : Heap} {b o sz : Nat} (f : Nat → List Value) : ∀ m, m ≠ 0 → (∀ i, i < m → rd H b (o + i * sz) sz = some (f i)) → rd H b o (m * sz) = some ((List.range m).map f).flatten
  | 0, h, _ => absurd rfl h
  | 1, _, h => by have := h 0 (by omega); simpa using this
  | m + 2, _, h => by
    have ih := rows_rd f (m + 1) (by omega) (fun i hi => h i (by omega))
    have := rd_append ih (h (m + 1) (by omega))
    rw [List.range_succ, List.map_append, List.flatten_append, show (m + 2) * sz = (m + 1) * sz + sz by rw [Nat.succ_mul]]
    simpa using this

theorem Reads.slice {e : TypeId} (ht : P.underlying t = some (.slice e)) (hz : P.cellsOf e ≠ 0) (h : Reads P w n t cs) : ∃ m a len cap css, n = m + 1 ∧ cs = [.slice a len cap] ∧ len ≤ maxLen ∧ SlR w.heap a len cap (P.cellsOf e) css ∧ (∀ x ∈ css, Reads P w m e x) ∧ (cap = 0 ∨ noSpot a) := by
  obtain ⟨H, enc, x, h⟩ := h
  have hn : ∃ m, n = m + 1 := by
    cases n with
    | zero => simp [DataW.trod] at h
    | succ n => exact ⟨n, rfl⟩
  obtain ⟨m0, rfl⟩ := hn
  rcases DataW.trod_slice ht h with ⟨rfl, _⟩ | ⟨a, len, cap, elems, rest, m, hmm, rfl, rfl, hb, hl, hm, hlen, hel, hsp, hns⟩
  · exact ⟨m0, none, 0, 0, [], rfl, rfl, Nat.zero_le _, SlR.nil _ _, by simp, .inl rfl⟩
  · have hmm : m0 = m := by omega
    subst hmm
    have hex : ∀ i, i < len → ∃ c', (w.cells? 0 (a.add (i * P.cellsOf e)) (P.cellsOf e)) = some c' ∧ Reads P w m0 e c' := by
      intro i hi
      have h1 := hel i hi
      rw [List.getElem?_eq_getElem (by omega)] at h1
      obtain ⟨c', h2, h3⟩ := Option.bind_eq_some_iff.1 h1
      exact ⟨c', h2, H, enc, _, h3⟩
    have hex2 : ∃ f : Nat → List Value, ∀ i, i < len → w.cells? 0 (a.add (i * P.cellsOf e)) (P.cellsOf e) = some (f i) ∧ Reads P w m0 e (f i) := by
      classical
      refine ⟨fun i => if hi : i < len then Classical.choose (hex i hi) else [], fun i hi => ?_⟩
      simp only [dif_pos hi]
      exact Classical.choose_spec (hex i hi)
    obtain ⟨f, hf⟩ := hex2
    refine ⟨m0, some a, len, cap, (List.range len).map f, rfl, rfl, Nat.le_trans hl hm, ⟨by simp, hl, ?_, fun hn => ?_⟩, ?_, ?_⟩
    · intro x hx
      obtain ⟨i, hi, rfl⟩ := List.mem_map.1 hx
      exact (World.cells?_some (hf i (List.mem_range.1 hi)).1).2.1
    · have h0 := cells_rd (hf 0 (by omega)).1 hz
      have e0 : a.add (0 * P.cellsOf e) = a := by simp [Addr.add]
      rw [e0] at h0
      obtain ⟨hs, _⟩ := h0
      obtain ⟨b, o, s⟩ := a
      simp only at hs
      subst hs
      refine ⟨b, o, rfl, rows_rd f len hn fun i hi => ?_⟩
      have := (cells_rd (hf i hi).1 hz).2
      have e : (⟨b, o, none⟩ : Addr).add (i * P.cellsOf e) = ⟨b, o + i * P.cellsOf e, none⟩ := by
        unfold Addr.add
        split
        · rename_i h; simp [h]
        · rfl
      rw [e] at this
      exact this
    · intro x hx
      obtain ⟨i, hi, rfl⟩ := List.mem_map.1 hx
      exact (hf i (List.mem_range.1 hi)).2
    · by_cases hc0 : cap = 0
      · exact .inl hc0
      · right
        have hs : a.spot = none := by
          by_cases hl0 : len = 0
          · have h1 := (hsp rfl).2 0 (by omega)
            have hlen2 := (hsp rfl).1
            rw [List.getElem?_eq_getElem (by omega)] at h1
            obtain ⟨c', h2, _⟩ := Option.bind_eq_some_iff.1 h1
            have e0 : a.add ((len + 0) * P.cellsOf e) = a := by simp [Addr.add, hl0]
            rw [e0] at h2
            exact (cells_rd h2 hz).1
          · have h0 := cells_rd (hf 0 (by omega)).1 hz
            have e0 : a.add (0 * P.cellsOf e) = a := by simp [Addr.add]
            rw [e0] at h0
            exact h0.1
        intro x hx; cases hx; exact hs


theorem plist_of {T : Type} {Z : Fz} {pv : T → List PV} {Q : T → Prop} : ∀ {css : List (List Value)}, (∀ x ∈ css, ∃ s, RepC Z (pv s) x ∧ Q s) → ∃ l : List T, l.length = css.length ∧ RepC Z (l.map pv).flatten css.flatten ∧ (∀ s ∈ l, Q s) ∧ ∀ (i : Nat) s x, l[i]? = some s → css[i]? = some x → RepC Z (pv s) x
  | [], _ => ⟨[], rfl, RepC.nil Z, by simp, by simp⟩
  | x :: css, h => by
    obtain ⟨s, hr, hs⟩ := h x (by simp)
    obtain ⟨l, hl, hrl, hq, hi⟩ := plist_of (css := css) fun y hy => h y (by simp [hy])
    refine ⟨s :: l, by simp [hl], by simpa using hr.append hrl, by simpa using ⟨hs, hq⟩, fun i s' x' a b => ?_⟩
    cases i with
    | zero => simp only [List.getElem?_cons_zero, Option.some.injEq] at a b; subst a; subst b; exact hr
    | succ i => simp only [List.getElem?_cons_succ] at a b; exact hi i s' x' a b

/-- A slice of things. -/
theorem Reads.plist {T : Type} {pv : T → List PV} {Q : T → Prop} {e : TypeId} {sz : Nat} (ht : P.underlying t = some (.slice e)) (hc : P.cellsOf e = sz) (hz : sz ≠ 0) (he : ∀ m cs, m < n → Reads P w m e cs → ∃ s, RepC (Zall w) (pv s) cs ∧ Q s) (h : Reads P w n t cs) :
    ∃ l : List T, RepC (Zall w) [.list sz .sh (l.map pv)] cs ∧ (∀ s ∈ l, Q s) ∧ l.length ≤ maxLen := by
  obtain ⟨m, a, len, cap, css, rfl, rfl, h0, h2, h3, hsp⟩ := h.slice ht (by rw [hc]; exact hz)
  rw [hc] at h2
  obtain ⟨l, hl, hrl, hq, hi⟩ := plist_of fun x hx => he m x (by omega) (h3 x hx)
  have hll : l.length = len := by rw [hl, h2.len]
  refine ⟨l, RepC.cons rfl ?_ (RepC.nil _), hq, by omega⟩
  have hrow : ∀ r ∈ l.map pv, r.length = sz := by
    intro r hr
    obtain ⟨s, hs, rfl⟩ := List.mem_map.1 hr
    obtain ⟨i, hi1⟩ := List.mem_iff_getElem?.1 hs
    have hlt : i < css.length := by rw [← hl]; exact (List.getElem?_eq_some_iff.1 hi1).1
    have := hi i s css[i] hi1 (List.getElem?_eq_getElem hlt)
    rw [← this.1]
    exact h2.each _ (List.getElem_mem hlt)
  by_cases hn : len = 0
  · have : l = [] := List.eq_nil_of_length_eq_zero (by omega)
    subst this
    exact .list sz .sh _ a len cap 0 0 [] (fun _ _ => undef) (by simp [hn]) h2.cap hsp (by simp) (fun h => absurd hn h) (fun i j hi => by omega) (by simp) (by simp) trivial
  · obtain ⟨b, o, rfl, hr⟩ := h2.read hn
    obtain ⟨A, T', f', hA, hle, hv⟩ := rd_block hr
    have hfl : css.flatten.length = len * sz := by rw [flat_len h2.each, h2.len]
    have := rep_list (Z := Zall w) (sz := sz) (fl := .sh) (rows := l.map pv) (vs := css.flatten) (b := b) (o := o) (c := cap) (C := A.toList) hrow hrl (Zall_at hA) (fun k hk => by
      rw [hv] at hk ⊢
      rw [List.getElem?_take, if_pos (by rw [hv] at hfl; omega), List.getElem?_drop]) (by simp [hll, h2.cap]) trivial
    rw [List.length_map, hll] at this
    exact this

theorem Reads.pint {k : IntKind} (ht : P.underlying t = some (.int k)) (h : Reads P w n t cs) : ∃ i, RepC (Zall w) [.raw (.int k i)] cs ∧ (Lit.int k i).wf = true := by
  obtain ⟨i, rfl, hw⟩ := h.int ht
  exact ⟨i, RepC.cons rfl (.raw _ rfl rfl) (RepC.nil _), hw⟩
theorem Reads.pbool (ht : P.underlying t = some .bool) (h : Reads P w n t cs) : ∃ i, RepC (Zall w) [pB i] cs := by
  obtain ⟨i, rfl⟩ := h.bool ht
  exact ⟨i, RepC.cons rfl (.raw _ rfl rfl) (RepC.nil _)⟩
theorem Reads.pstr (ht : P.underlying t = some .string) (h : Reads P w n t cs) : ∃ i : ByteArray, RepC (Zall w) [pS i] cs ∧ i.size ≤ maxLen := by
  obtain ⟨i, rfl, hw⟩ := h.string ht
  exact ⟨i, RepC.cons rfl (.raw _ rfl rfl) (RepC.nil _), hw⟩

/-- A field of a struct that reads. -/
theorem fldR {m : Nat} {fs : Array Field} (hf : ∀ (i : Nat) (f : Field), fs[i]? = some f → Reads P w m f.type ((cs.drop f.offset).take (P.cellsOf f.type))) (i off : Nat) {ty k : Nat} (h3 : P.cellsOf ty = k) {f : Field} (hi : fs[i]? = some f) (h1 : f.type = ty) (h2 : f.offset = off) : Reads P w m ty ((cs.drop off).take k) := by
  subst h1 h2 h3; exact hf i f hi

/-- A field behind what is known. -/
theorem RepC.field {Z : Fz} {ps qs : List PV} {off k : Nat} {cs : List Value} (h1 : RepC Z ps (cs.take off)) (h2 : RepC Z qs ((cs.drop off).take k)) (hl : off + k ≤ cs.length) : RepC Z (ps ++ qs) (cs.take (off + k)) := by
  rw [List.take_add]
  exact h1.append h2

section
variable {H : Type} {enc : TypeId × Value → H} {r : Reach} {base : Nat} {v : Value} {d : DataW H} {p : List MemPlace}

theorem Reads.of (h : DataW.Trod enc P w 0 (fun _ => true) true t v d p) : ∃ n, Reads P w n t v.cells.toList := let ⟨n, hn⟩ := h; ⟨n, H, enc, _, hn⟩

theorem pargInt {k : IntKind} (ht : P.underlying t = some (.int k)) (hv : Value.okWide P w r base t v) (h : DataW.Trod enc P w 0 (fun _ => true) true t v d p) : ∃ i, Rep (Zall w) (.raw (.int k i)) v ∧ (Lit.int k i).wf = true := by
  obtain ⟨i, rfl⟩ := WideShapes.okWide_int ht hv
  obtain ⟨n, hn⟩ := Reads.of h
  obtain ⟨j, e, hw⟩ := hn.int ht
  simp [Value.cells] at e
  subst e
  exact ⟨_, .raw _ rfl rfl, hw⟩

theorem pargStr (ht : P.underlying t = some .string) (hv : Value.okWide P w r base t v) (h : DataW.Trod enc P w 0 (fun _ => true) true t v d p) : ∃ s : ByteArray, Rep (Zall w) (pS s) v ∧ s.size ≤ maxLen := by
  obtain ⟨i, rfl⟩ := WideShapes.okWide_string ht hv
  obtain ⟨n, hn⟩ := Reads.of h
  obtain ⟨j, e, hw⟩ := hn.string ht
  simp [Value.cells] at e
  subst e
  exact ⟨_, .raw _ rfl rfl, hw⟩

theorem pargAgg {T : Type} {pv : T → List PV} {Q : T → Prop} {fs : Array Field} (ht : P.underlying t = some (.struct fs)) (he : ∀ m cs, Reads P w m t cs → ∃ s, RepC (Zall w) (pv s) cs ∧ Q s) (hv : Value.okWide P w r base t v) (h : DataW.Trod enc P w 0 (fun _ => true) true t v d p) :
    ∃ s, Rep (Zall w) (.agg (pv s)) v ∧ Q s := by
  simp only [Value.okWide, ht] at hv
  obtain ⟨cs, rfl, _, _⟩ := hv
  obtain ⟨n, hn⟩ := Reads.of h
  obtain ⟨s, e, hq⟩ := he n _ hn
  exact ⟨s, e.toAgg, hq⟩

theorem pargList {T : Type} {pv : T → List PV} {Q : T → Prop} {e : TypeId} {sz : Nat} (ht : P.underlying t = some (.slice e)) (hc : P.cellsOf e = sz) (hz : sz ≠ 0) (he : ∀ m cs, Reads P w m e cs → ∃ s, RepC (Zall w) (pv s) cs ∧ Q s) (hv : Value.okWide P w r base t v) (h : DataW.Trod enc P w 0 (fun _ => true) true t v d p) :
    ∃ l : List T, Rep (Zall w) (.list sz .sh (l.map pv)) v ∧ (∀ s ∈ l, Q s) ∧ l.length ≤ maxLen := by
  obtain ⟨a, len, cap, rfl⟩ := WideShapes.okWide_slice ht hv
  obtain ⟨n, hn⟩ := Reads.of h
  obtain ⟨l, h2, h3, h4⟩ := hn.plist ht hc hz (fun m cs _ hr => he m cs hr)
  obtain ⟨v, vs, e, _, hr, _⟩ := h2.inv
  simp only [Value.cells, List.cons.injEq] at e
  refine ⟨l, ?_, h3, h4⟩
  rw [e.1]; exact hr

end
end
end Go.Eng

/-
  The program's things as plain data, and as rows of plain values.
-/
namespace Go.Eng
open Go.RowKit

theorem strEq_self (a : ByteArray) : strEq a a = true := strEq_iff.2 rfl
theorem strEq_false {a b : ByteArray} : strEq a b = false ↔ a ≠ b := by
  cases h : strEq a b with
  | true => simp [strEq_iff.1 h]
  | false =>
    simp only [true_iff]
    intro e
    rw [strEq_iff.2 e] at h; cases h

structure Sym where
  k : Int
  t : ByteArray
  n : Int

@[reducible] def Sym.pv (s : Sym) : List PV := [pI s.k, pS s.t, pI s.n]

structure Bind where
  v : ByteArray
  s : Sym

@[reducible] def Bind.pv (b : Bind) : List PV := [pS b.v, pI b.s.k, pS b.s.t, pI b.s.n]

structure Test where
  rel : Int
  var : ByteArray
  sym : Sym
  list : List Sym

@[reducible] def Test.pv (t : Test) : List PV := [pI t.rel, pS t.var, pI t.sym.k, pS t.sym.t, pI t.sym.n, .list 3 .sh (t.list.map Sym.pv)]

structure Elem where
  id : Sym
  attr : Sym
  value : Sym
  acc : Bool
  goal : Bool
  tag : Int

@[reducible] def Elem.pv (e : Elem) : List PV := [pI e.id.k, pS e.id.t, pI e.id.n, pI e.attr.k, pS e.attr.t, pI e.attr.n, pI e.value.k, pS e.value.t, pI e.value.n, pB e.acc, pB e.goal, pI e.tag]

inductive Cond where
  | mk (kind : Int) (goal : Bool) (id : ByteArray) (attr value : List Test) (acc : Bool) (conds : List Cond)

namespace Cond
def kind : Cond → Int | .mk k _ _ _ _ _ _ => k
def goal : Cond → Bool | .mk _ g _ _ _ _ _ => g
def id : Cond → ByteArray | .mk _ _ i _ _ _ _ => i
def attr : Cond → List Test | .mk _ _ _ a _ _ _ => a
def value : Cond → List Test | .mk _ _ _ _ v _ _ => v
def acc : Cond → Bool | .mk _ _ _ _ _ a _ => a
def conds : Cond → List Cond | .mk _ _ _ _ _ _ c => c
end Cond

mutual
def Cond.pv : Cond → List PV
  | .mk k g i a v ac cs => [pI k, pB g, pS i, .list 6 .sh (a.map Test.pv), .list 6 .sh (v.map Test.pv), pB ac, .list 7 .sh (Cond.pvs cs)]
def Cond.pvs : List Cond → List (List PV)
  | [] => []
  | c :: cs => Cond.pv c :: Cond.pvs cs
end

theorem Cond.pvs_eq : ∀ cs : List Cond, Cond.pvs cs = cs.map Cond.pv
  | [] => rfl
  | c :: cs => by simp [Cond.pvs, Cond.pvs_eq cs]

theorem Cond.pv_eq (c : Cond) : c.pv = [pI c.kind, pB c.goal, pS c.id, .list 6 .sh (c.attr.map Test.pv), .list 6 .sh (c.value.map Test.pv), pB c.acc, .list 7 .sh (c.conds.map Cond.pv)] := by
  cases c; simp only [Cond.pv, Cond.pvs_eq]; rfl

/-- A condition's own structure: its parts, and what is within it. -/
theorem Cond.ind {Q : Cond → Prop} (h : ∀ c : Cond, (∀ d ∈ c.conds, Q d) → Q c) : ∀ c, Q c := by
  intro c
  exact Cond.rec (motive_1 := Q) (motive_2 := fun l => ∀ d ∈ l, Q d) (fun k g i a v ac cs ih => h _ ih) (fun d hd => by cases hd) (fun c cs h1 h2 d hd => by
    rcases List.mem_cons.1 hd with rfl | hd
    · exact h1
    · exact h2 d hd) c

structure Atom where
  var : ByteArray
  sym : Sym

@[reducible] def Atom.pv (a : Atom) : List PV := [pS a.var, pI a.sym.k, pS a.sym.t, pI a.sym.n]

structure Term where
  op : Int
  a : Atom
  b : Atom

@[reducible] def Term.pv (t : Term) : List PV := [pI t.op, pS t.a.var, pI t.a.sym.k, pS t.a.sym.t, pI t.a.sym.n, pS t.b.var, pI t.b.sym.k, pS t.b.sym.t, pI t.b.sym.n]

structure Actn where
  id : ByteArray
  attr : Atom
  value : Term
  pref : Int
  other : Atom

@[reducible] def Actn.pv (a : Actn) : List PV := [pS a.id, pS a.attr.var, pI a.attr.sym.k, pS a.attr.sym.t, pI a.attr.sym.n, pI a.value.op, pS a.value.a.var, pI a.value.a.sym.k, pS a.value.a.sym.t, pI a.value.a.sym.n, pS a.value.b.var, pI a.value.b.sym.k, pS a.value.b.sym.t, pI a.value.b.sym.n, pI a.pref, pS a.other.var, pI a.other.sym.k, pS a.other.sym.t, pI a.other.sym.n]

structure Prod where
  name : ByteArray
  conds : List Cond
  acts : List Actn

@[reducible] def Prod.pv (p : Prod) : List PV := [pS p.name, .list 7 .sh (p.conds.map Cond.pv), .list 19 .sh (p.acts.map Actn.pv)]

/-- Are two symbols one, as the machine asks it? -/
@[reducible] def symEq (x y : Sym) : Bool := (x.k == y.k) && (strEq x.t y.t && ((x.n == y.n) && true))

theorem symEq_iff {x y : Sym} : symEq x y = true ↔ x = y := by
  obtain ⟨a, b, c⟩ := x; obtain ⟨a', b', c'⟩ := y
  simp [symEq, strEq_iff]

theorem symEq_self (x : Sym) : symEq x x = true := symEq_iff.2 rfl

@[reducible] def bindEq (x y : Bind) : Bool := strEq x.v y.v && ((x.s.k == y.s.k) && (strEq x.s.t y.s.t && ((x.s.n == y.s.n) && true)))

theorem bindEq_iff {x y : Bind} : bindEq x y = true ↔ x = y := by
  obtain ⟨v, ⟨a, b, c⟩⟩ := x; obtain ⟨v', ⟨a', b', c'⟩⟩ := y
  simp [bindEq, strEq_iff]

theorem any_take {α : Type} {p : α → Bool} {l : List α} {k : Nat} (hk : k < l.length) (h : (l.take k).any p = false) : (l.take (k + 1)).any p = p l[k] := by
  rw [List.take_add_one, List.any_append, h, List.getElem?_eq_getElem hk]; simp

theorem anyHit {α : Type} {p : α → Bool} {l : List α} {k : Nat} (hk : k < l.length) (h : p l[k] = true) : l.any p = true := List.any_eq_true.2 ⟨_, List.getElem_mem hk, h⟩

theorem allTake {α : Type} {p : α → Bool} {l : List α} {k : Nat} (hk : k < l.length) (h : (l.take k).all p = true) : (l.take (k + 1)).all p = p l[k] := by
  rw [List.take_add_one, List.all_append, h, List.getElem?_eq_getElem hk]; simp

theorem allMiss {α : Type} {p : α → Bool} {l : List α} {k : Nat} (hk : k < l.length) (h : p l[k] = false) : l.all p = false := by
  cases ha : l.all p with
  | false => rfl
  | true => rw [List.all_eq_true.1 ha _ (List.getElem_mem hk)] at h; cases h

theorem mapTake {α β : Type} {f : α → β} {l : List α} {k : Nat} (hk : k < l.length) : (l.take (k + 1)).map f = (l.take k).map f ++ [f l[k]] := by
  rw [List.take_add_one, List.getElem?_eq_getElem hk, List.map_append]; rfl

theorem takeAll {α : Type} {l : List α} {k : Nat} (h : ¬ k < l.length) : l.take k = l := List.take_of_length_le (by omega)

/-- A loop that goes through a list till it is left. -/
theorem LoopI.each {γ : Type} {body : (Int → γ → Prop) → Int → γ → Prop} {u : γ} {n : Nat} (hn : n < 9223372036854775808) (I : Nat → γ → Prop) (h0 : I 0 u)
    (hin : ∀ (k : Nat) (u : γ) (next : Int → γ → Prop), k < n → I k u → (∀ u', I (k + 1) u' → next (IntKind.wrap .i64 ((k : Int) + 1)) u') → body next (k : Int) u) (hout : ∀ (u : γ) (next : Int → γ → Prop), I n u → body next (n : Int) u) : LoopI body 0 u := by
  refine LoopI.up n hn I h0 fun k u next hk hI hnext => ?_
  by_cases hlt : k < n
  · exact hin k u next hlt hI (hnext hlt)
  · have : k = n := by omega
    subst this
    exact hout u next hI

theorem LoopI.each2 {β γ : Type} {body : (β × Int → γ → Prop) → β × Int → γ → Prop} {x : β} {u : γ} {n : Nat} (hn : n < 9223372036854775808) (I : Nat → β → γ → Prop) (h0 : I 0 x u)
    (hin : ∀ (k : Nat) (x : β) (u : γ) (next : β × Int → γ → Prop), k < n → I k x u → (∀ x' u', I (k + 1) x' u' → next (x', IntKind.wrap .i64 ((k : Int) + 1)) u') → body next (x, (k : Int)) u) (hout : ∀ (x : β) (u : γ) (next : β × Int → γ → Prop), I n x u → body next (x, (n : Int)) u) : LoopI body (x, 0) u := by
  refine LoopI.up2 n hn I h0 fun k x u next hk hI hnext => ?_
  by_cases hlt : k < n
  · exact hin k x u next hlt hI (hnext hlt)
  · have : k = n := by omega
    subst this
    exact hout x u next hI

theorem CIf.lt {k n : Nat} {A B : Prop} (h : k < n) (ha : A) : CIf (decide (((k : Nat) : Int) < ((n : Nat) : Int))) A B := CIf.t (by simpa using h) ha
theorem CIf.ge {n : Nat} {A B : Prop} (hb : B) : CIf (decide (((n : Nat) : Int) < ((n : Nat) : Int))) A B := CIf.f (by simp) hb

/-- The same from a later place on. -/
theorem LoopI.from {γ : Type} {body : (Int → γ → Prop) → Int → γ → Prop} {u : γ} {n s : Nat} (hs : s ≤ n) (hn : n < 9223372036854775808) (I : Nat → γ → Prop) (h0 : I s u)
    (hin : ∀ (k : Nat) (u : γ) (next : Int → γ → Prop), s ≤ k → k < n → I k u → (∀ u', I (k + 1) u' → next (IntKind.wrap .i64 ((k : Int) + 1)) u') → body next (k : Int) u) (hout : ∀ (u : γ) (next : Int → γ → Prop), I n u → body next (n : Int) u) : LoopI body (s : Int) u := by
  refine ⟨fun m x u => ∃ k : Nat, x = (k : Int) ∧ s ≤ k ∧ k ≤ n ∧ I k u ∧ m = n - k, ⟨n - s, s, rfl, Nat.le_refl _, hs, h0, rfl⟩, ?_⟩
  rintro _ _ u ⟨k, rfl, hsk, hk, hI, rfl⟩
  by_cases hlt : k < n
  · refine hin k u _ hsk hlt hI fun u' hI' => ?_
    rw [wrap_id (by omega) (by omega)]
    exact ⟨n - (k + 1), by omega, k + 1, by omega, by omega, by omega, hI', rfl⟩
  · have : k = n := by omega
    subst this
    exact hout u _ hI

/-! ### texts -/
@[reducible] def bL (t : ByteArray) : List UInt8 := t.data.toList

theorem bL_len (t : ByteArray) : (bL t).length = t.size := rfl

theorem byteAt {t : ByteArray} {k : Nat} (hk : k < t.size) : t[Int.toNat (k : Int)]? = some (bL t)[k] := by
  rw [Int.toNat_natCast, getElem?_pos t k hk]; rfl

end Go.Eng
