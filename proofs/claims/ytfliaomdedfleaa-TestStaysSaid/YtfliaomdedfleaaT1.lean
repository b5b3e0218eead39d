import Derived.Test.YtfliaomdedfleaaChecked
import Derived.Test.YtfliaomdedfleaaEngM
import Derived.KernelRfl
namespace Go.Proofs.Ytfliaomdedfleaa
open Go.Eng
set_option maxRecDepth 100000
set_option linter.unusedVariables false

/-- ponder/test.Holds -/
def G_test_Holds.sh (a0 : Int) (a1a : Int) (a1b : ByteArray) (a1c : Int) (a2a : Int) (a2b : ByteArray) (a2c : Int) (u0 : UW) (R : Value → UW → Prop) : Prop :=
  CJoin (α := Bool) (fun J =>
    CIf ((a1a : Int) == (2))
    (J ((a2a : Int) == (2)) u0)
    (J false u0))
  (fun s u =>
    CIf ((a0 : Int) == (1))
    (R (.bool ((a1a == a2a) && (strEq a1b a2b && ((a1c == a2c) && true)))) u)
    (CIf ((a0 : Int) == (2))
      (R (.bool (!((a1a == a2a) && (strEq a1b a2b && ((a1c == a2c) && true))))) u)
      (CIf ((a0 : Int) == (3))
        (CIf s
          (R (.bool (decide ((a1c : Int) < a2c))) u)
          (R (.bool false) u))
        (CIf ((a0 : Int) == (4))
          (CIf s
            (R (.bool (decide ((a1c : Int) ≤ a2c))) u)
            (R (.bool false) u))
          (CIf ((a0 : Int) == (5))
            (CIf s
              (R (.bool (decide ((a1c : Int) > a2c))) u)
              (R (.bool false) u))
            (CIf ((a0 : Int) == (6))
              (CIf s
                (R (.bool (decide ((a1c : Int) ≥ a2c))) u)
                (R (.bool false) u))
              (CIf ((a0 : Int) == (7))
                (R (.bool ((a1a : Int) == a2a)) u)
                (R (.bool false) u))))))))

theorem G_test_Holds.ok (a0 : Int) (a1a : Int) (a1b : ByteArray) (a1c : Int) (a2a : Int) (a2b : ByteArray) (a2c : Int) (u0 : UW) (R : Value → UW → Prop) : G_test_Holds.sh a0 a1a a1b a1c a2a a2b a2c u0 R = WF Try.prog 74 [4, 5] [] [(2, ⟨[(7, .one (.bool))], []⟩)] ((Try.f9.body).getD .skip) [.tmp 6] [(.int .i64 a0), (.agg #[(.int .i64 a1a), (.string a1b), (.int .i64 a1c)]), (.agg #[(.int .i64 a2a), (.string a2b), (.int .i64 a2c)])] u0 R := by kernel_rfl

theorem G_test_Holds.fn (a0 : Int) (a1a : Int) (a1b : ByteArray) (a1c : Int) (a2a : Int) (a2b : ByteArray) (a2c : Int) (w : World) (F : Nat → Prop) (R : Value → UW → Prop) (hF : ∀ b, F b → b < w.heap.size) (h : G_test_Holds.sh a0 a1a a1b a1c a2a a2b a2c ⟨w, F⟩ R) : FnB Try.prog 9 #[(.int .i64 a0), (.agg #[(.int .i64 a1a), (.string a1b), (.int .i64 a1c)]), (.agg #[(.int .i64 a2a), (.string a2b), (.int .i64 a2c)])] w F fun v lo w' => ∃ pub, (∀ b, pub b → F b ∨ lo ≤ b) ∧ R v ⟨w', pub⟩ :=
  WF_sound Try.func9 rfl rfl rfl (by kernel_rfl) hF (G_test_Holds.ok a0 a1a a1b a1c a2a a2b a2c ⟨w, F⟩ R ▸ h)

theorem G_test_Holds.a (a0 : Int) (a1a : Int) (a1b : ByteArray) (a1c : Int) (a2a : Int) (a2b : ByteArray) (a2c : Int) (w : World) (K : Value → World → Prop) (h : G_test_Holds.sh a0 a1a a1b a1c a2a a2b a2c ⟨w, fun _ => False⟩ fun v u => K v u.toWorld) : FnA Try.prog 9 #[(.int .i64 a0), (.agg #[(.int .i64 a1a), (.string a1b), (.int .i64 a1c)]), (.agg #[(.int .i64 a2a), (.string a2b), (.int .i64 a2c)])] w K :=
  FnA.of Try.func9 rfl rfl rfl (by kernel_rfl) (G_test_Holds.ok a0 a1a a1b a1c a2a a2b a2c ⟨w, fun _ => False⟩ _ ▸ h)


/-- ponder/ponderref09.Holds -/
def G_ponderref09_Holds.sh (a0 : Int) (a1a : Int) (a1b : ByteArray) (a1c : Int) (a2a : Int) (a2b : ByteArray) (a2c : Int) (u0 : UW) (R : Value → UW → Prop) : Prop :=
  CJoin (α := Bool) (fun J =>
    CIf ((a1a : Int) == (2))
    (J ((a2a : Int) == (2)) u0)
    (J false u0))
  (fun s u =>
    CIf ((a0 : Int) == (1))
    (R (.bool ((a1a == a2a) && (strEq a1b a2b && ((a1c == a2c) && true)))) u)
    (CIf ((a0 : Int) == (2))
      (R (.bool (!((a1a == a2a) && (strEq a1b a2b && ((a1c == a2c) && true))))) u)
      (CIf ((a0 : Int) == (3))
        (CIf s
          (R (.bool (decide ((a1c : Int) < a2c))) u)
          (R (.bool false) u))
        (CIf ((a0 : Int) == (4))
          (CIf s
            (R (.bool (decide ((a1c : Int) ≤ a2c))) u)
            (R (.bool false) u))
          (CIf ((a0 : Int) == (5))
            (CIf s
              (R (.bool (decide ((a1c : Int) > a2c))) u)
              (R (.bool false) u))
            (CIf ((a0 : Int) == (6))
              (CIf s
                (R (.bool (decide ((a1c : Int) ≥ a2c))) u)
                (R (.bool false) u))
              (CIf ((a0 : Int) == (7))
                (R (.bool ((a1a : Int) == a2a)) u)
                (R (.bool false) u))))))))

theorem G_ponderref09_Holds.ok (a0 : Int) (a1a : Int) (a1b : ByteArray) (a1c : Int) (a2a : Int) (a2b : ByteArray) (a2c : Int) (u0 : UW) (R : Value → UW → Prop) : G_ponderref09_Holds.sh a0 a1a a1b a1c a2a a2b a2c u0 R = WF Try.prog 74 [4, 5] [] [(2, ⟨[(7, .one (.bool))], []⟩)] ((Try.f10.body).getD .skip) [.tmp 6] [(.int .i64 a0), (.agg #[(.int .i64 a1a), (.string a1b), (.int .i64 a1c)]), (.agg #[(.int .i64 a2a), (.string a2b), (.int .i64 a2c)])] u0 R := by kernel_rfl

theorem G_ponderref09_Holds.fn (a0 : Int) (a1a : Int) (a1b : ByteArray) (a1c : Int) (a2a : Int) (a2b : ByteArray) (a2c : Int) (w : World) (F : Nat → Prop) (R : Value → UW → Prop) (hF : ∀ b, F b → b < w.heap.size) (h : G_ponderref09_Holds.sh a0 a1a a1b a1c a2a a2b a2c ⟨w, F⟩ R) : FnB Try.prog 10 #[(.int .i64 a0), (.agg #[(.int .i64 a1a), (.string a1b), (.int .i64 a1c)]), (.agg #[(.int .i64 a2a), (.string a2b), (.int .i64 a2c)])] w F fun v lo w' => ∃ pub, (∀ b, pub b → F b ∨ lo ≤ b) ∧ R v ⟨w', pub⟩ :=
  WF_sound Try.func10 rfl rfl rfl (by kernel_rfl) hF (G_ponderref09_Holds.ok a0 a1a a1b a1c a2a a2b a2c ⟨w, F⟩ R ▸ h)

theorem G_ponderref09_Holds.a (a0 : Int) (a1a : Int) (a1b : ByteArray) (a1c : Int) (a2a : Int) (a2b : ByteArray) (a2c : Int) (w : World) (K : Value → World → Prop) (h : G_ponderref09_Holds.sh a0 a1a a1b a1c a2a a2b a2c ⟨w, fun _ => False⟩ fun v u => K v u.toWorld) : FnA Try.prog 10 #[(.int .i64 a0), (.agg #[(.int .i64 a1a), (.string a1b), (.int .i64 a1c)]), (.agg #[(.int .i64 a2a), (.string a2b), (.int .i64 a2c)])] w K :=
  FnA.of Try.func10 rfl rfl rfl (by kernel_rfl) (G_ponderref09_Holds.ok a0 a1a a1b a1c a2a a2b a2c ⟨w, fun _ => False⟩ _ ▸ h)


/-- ponder/test.Get -/
def G_test_Get.sh (a0 : Option Addr) (a0n a0c : Nat) (a1 : ByteArray) (u0 : UW) (R : Value → UW → Prop) : Prop :=
  LoopI (α := Int) (fun next s u =>
    CIf (decide ((s : Int) < ((a0n : Nat) : Int)))
    (withSl a0 fun b o =>
      (0 : Int) ≤ s ∧ s < ((a0n : Nat) : Int) ∧
      ∃ (x13a : ByteArray), ∃ (x13b : Int), ∃ (x13c : ByteArray), ∃ (x13d : Int), rd u.heap b (o + Int.toNat s * 4) 4 = some [(.string x13a), (.int .i64 x13b), (.string x13c), (.int .i64 x13d)] ∧
      CIf (strEq x13a a1)
      (R (.tuple #[(.agg #[(.int .i64 x13b), (.string x13c), (.int .i64 x13d)]), (.bool true)]) u)
      (next (IntKind.wrap .i64 (s + (1))) u))
    (R (.tuple #[(.agg #[(.int .i64 (0)), (.string ⟨#[]⟩), (.int .i64 (0))]), (.bool false)]) u))
  (0) u0

theorem G_test_Get.ok (a0 : Option Addr) (a0n a0c : Nat) (a1 : ByteArray) (u0 : UW) (R : Value → UW → Prop) : G_test_Get.sh a0 a0n a0c a1 u0 R = WF Try.prog 22 [4, 7] [(2, ⟨[(10, .one (.int .i64))], [(4, 3)]⟩)] [] ((Try.f17.body).getD .skip) [.cell 4 23, .tmp 5] [(.slice a0 a0n a0c), (.string a1)] u0 R := by kernel_rfl

theorem G_test_Get.fn (a0 : Option Addr) (a0n a0c : Nat) (a1 : ByteArray) (w : World) (F : Nat → Prop) (R : Value → UW → Prop) (hF : ∀ b, F b → b < w.heap.size) (h : G_test_Get.sh a0 a0n a0c a1 ⟨w, F⟩ R) : FnB Try.prog 17 #[(.slice a0 a0n a0c), (.string a1)] w F fun v lo w' => ∃ pub, (∀ b, pub b → F b ∨ lo ≤ b) ∧ R v ⟨w', pub⟩ :=
  WF_sound Try.func17 rfl rfl rfl (by kernel_rfl) hF (G_test_Get.ok a0 a0n a0c a1 ⟨w, F⟩ R ▸ h)

theorem G_test_Get.a (a0 : Option Addr) (a0n a0c : Nat) (a1 : ByteArray) (w : World) (K : Value → World → Prop) (h : G_test_Get.sh a0 a0n a0c a1 ⟨w, fun _ => False⟩ fun v u => K v u.toWorld) : FnA Try.prog 17 #[(.slice a0 a0n a0c), (.string a1)] w K :=
  FnA.of Try.func17 rfl rfl rfl (by kernel_rfl) (G_test_Get.ok a0 a0n a0c a1 ⟨w, fun _ => False⟩ _ ▸ h)


/-- ponder/ponderref09.Get -/
def G_ponderref09_Get.sh (a0 : Option Addr) (a0n a0c : Nat) (a1 : ByteArray) (u0 : UW) (R : Value → UW → Prop) : Prop :=
  LoopI (α := Int) (fun next s u =>
    CIf (decide ((s : Int) < ((a0n : Nat) : Int)))
    (withSl a0 fun b o =>
      (0 : Int) ≤ s ∧ s < ((a0n : Nat) : Int) ∧
      ∃ (x17 : ByteArray), rd u.heap b (o + Int.toNat s * 4) 1 = some [(.string x17)] ∧
      CIf (strEq x17 a1)
      (withSl a0 fun b_1 o_1 =>
        (0 : Int) ≤ s ∧ s < ((a0n : Nat) : Int) ∧
        ∃ (x24a : Int), ∃ (x24b : ByteArray), ∃ (x24c : Int), rd u.heap b_1 ((o_1 + Int.toNat s * 4) + 1) 3 = some [(.int .i64 x24a), (.string x24b), (.int .i64 x24c)] ∧
        R (.tuple #[(.agg #[(.int .i64 x24a), (.string x24b), (.int .i64 x24c)]), (.bool true)]) u)
      (next (IntKind.wrap .i64 (s + (1))) u))
    (R (.tuple #[(.agg #[(.int .i64 (0)), (.string ⟨#[]⟩), (.int .i64 (0))]), (.bool false)]) u))
  (0) u0

theorem G_ponderref09_Get.ok (a0 : Option Addr) (a0n a0c : Nat) (a1 : ByteArray) (u0 : UW) (R : Value → UW → Prop) : G_ponderref09_Get.sh a0 a0n a0c a1 u0 R = WF Try.prog 26 [4] [(2, ⟨[(6, .one (.int .i64))], [(4, 3)]⟩)] [] ((Try.f18.body).getD .skip) [.cell 4 23, .tmp 5] [(.slice a0 a0n a0c), (.string a1)] u0 R := by kernel_rfl

theorem G_ponderref09_Get.fn (a0 : Option Addr) (a0n a0c : Nat) (a1 : ByteArray) (w : World) (F : Nat → Prop) (R : Value → UW → Prop) (hF : ∀ b, F b → b < w.heap.size) (h : G_ponderref09_Get.sh a0 a0n a0c a1 ⟨w, F⟩ R) : FnB Try.prog 18 #[(.slice a0 a0n a0c), (.string a1)] w F fun v lo w' => ∃ pub, (∀ b, pub b → F b ∨ lo ≤ b) ∧ R v ⟨w', pub⟩ :=
  WF_sound Try.func18 rfl rfl rfl (by kernel_rfl) hF (G_ponderref09_Get.ok a0 a0n a0c a1 ⟨w, F⟩ R ▸ h)

theorem G_ponderref09_Get.a (a0 : Option Addr) (a0n a0c : Nat) (a1 : ByteArray) (w : World) (K : Value → World → Prop) (h : G_ponderref09_Get.sh a0 a0n a0c a1 ⟨w, fun _ => False⟩ fun v u => K v u.toWorld) : FnA Try.prog 18 #[(.slice a0 a0n a0c), (.string a1)] w K :=
  FnA.of Try.func18 rfl rfl rfl (by kernel_rfl) (G_ponderref09_Get.ok a0 a0n a0c a1 ⟨w, fun _ => False⟩ _ ▸ h)


/-- ponder/ponderlaw09.N -/
def G_ponderlaw09_N.sh (a0 : Int) (u0 : UW) (R : Value → UW → Prop) : Prop :=
  R (.agg #[(.int .i64 (2)), (.string ⟨#[]⟩), (.int .i64 a0)]) u0

theorem G_ponderlaw09_N.ok (a0 : Int) (u0 : UW) (R : Value → UW → Prop) : G_ponderlaw09_N.sh a0 u0 R = WF Try.prog 5 [2] [] [] ((Try.f12.body).getD .skip) [.cell 2 23] [(.int .i64 a0)] u0 R := by kernel_rfl

theorem G_ponderlaw09_N.fn (a0 : Int) (w : World) (F : Nat → Prop) (R : Value → UW → Prop) (hF : ∀ b, F b → b < w.heap.size) (h : G_ponderlaw09_N.sh a0 ⟨w, F⟩ R) : FnB Try.prog 12 #[(.int .i64 a0)] w F fun v lo w' => ∃ pub, (∀ b, pub b → F b ∨ lo ≤ b) ∧ R v ⟨w', pub⟩ :=
  WF_sound Try.func12 rfl rfl rfl (by kernel_rfl) hF (G_ponderlaw09_N.ok a0 ⟨w, F⟩ R ▸ h)

theorem G_ponderlaw09_N.a (a0 : Int) (w : World) (K : Value → World → Prop) (h : G_ponderlaw09_N.sh a0 ⟨w, fun _ => False⟩ fun v u => K v u.toWorld) : FnA Try.prog 12 #[(.int .i64 a0)] w K :=
  FnA.of Try.func12 rfl rfl rfl (by kernel_rfl) (G_ponderlaw09_N.ok a0 ⟨w, fun _ => False⟩ _ ▸ h)


/-- ponder/ponderlaw09.I -/
def G_ponderlaw09_I.sh (a0 : ByteArray) (a1 : Int) (u0 : UW) (R : Value → UW → Prop) : Prop :=
  R (.agg #[(.int .i64 (1)), (.string a0), (.int .i64 a1)]) u0

theorem G_ponderlaw09_I.ok (a0 : ByteArray) (a1 : Int) (u0 : UW) (R : Value → UW → Prop) : G_ponderlaw09_I.sh a0 a1 u0 R = WF Try.prog 8 [4] [] [] ((Try.f25.body).getD .skip) [.cell 4 23] [(.string a0), (.int .i64 a1)] u0 R := by kernel_rfl

theorem G_ponderlaw09_I.fn (a0 : ByteArray) (a1 : Int) (w : World) (F : Nat → Prop) (R : Value → UW → Prop) (hF : ∀ b, F b → b < w.heap.size) (h : G_ponderlaw09_I.sh a0 a1 ⟨w, F⟩ R) : FnB Try.prog 25 #[(.string a0), (.int .i64 a1)] w F fun v lo w' => ∃ pub, (∀ b, pub b → F b ∨ lo ≤ b) ∧ R v ⟨w', pub⟩ :=
  WF_sound Try.func25 rfl rfl rfl (by kernel_rfl) hF (G_ponderlaw09_I.ok a0 a1 ⟨w, F⟩ R ▸ h)

theorem G_ponderlaw09_I.a (a0 : ByteArray) (a1 : Int) (w : World) (K : Value → World → Prop) (h : G_ponderlaw09_I.sh a0 a1 ⟨w, fun _ => False⟩ fun v u => K v u.toWorld) : FnA Try.prog 25 #[(.string a0), (.int .i64 a1)] w K :=
  FnA.of Try.func25 rfl rfl rfl (by kernel_rfl) (G_ponderlaw09_I.ok a0 a1 ⟨w, fun _ => False⟩ _ ▸ h)


/-- ponder/ponderlaw09.W -/
def G_ponderlaw09_W.sh (a0 : ByteArray) (u0 : UW) (R : Value → UW → Prop) : Prop :=
  R (.agg #[(.int .i64 (3)), (.string a0), (.int .i64 (0))]) u0

theorem G_ponderlaw09_W.ok (a0 : ByteArray) (u0 : UW) (R : Value → UW → Prop) : G_ponderlaw09_W.sh a0 u0 R = WF Try.prog 5 [2] [] [] ((Try.f26.body).getD .skip) [.cell 2 23] [(.string a0)] u0 R := by kernel_rfl

theorem G_ponderlaw09_W.fn (a0 : ByteArray) (w : World) (F : Nat → Prop) (R : Value → UW → Prop) (hF : ∀ b, F b → b < w.heap.size) (h : G_ponderlaw09_W.sh a0 ⟨w, F⟩ R) : FnB Try.prog 26 #[(.string a0)] w F fun v lo w' => ∃ pub, (∀ b, pub b → F b ∨ lo ≤ b) ∧ R v ⟨w', pub⟩ :=
  WF_sound Try.func26 rfl rfl rfl (by kernel_rfl) hF (G_ponderlaw09_W.ok a0 ⟨w, F⟩ R ▸ h)

theorem G_ponderlaw09_W.a (a0 : ByteArray) (w : World) (K : Value → World → Prop) (h : G_ponderlaw09_W.sh a0 ⟨w, fun _ => False⟩ fun v u => K v u.toWorld) : FnA Try.prog 26 #[(.string a0)] w K :=
  FnA.of Try.func26 rfl rfl rfl (by kernel_rfl) (G_ponderlaw09_W.ok a0 ⟨w, fun _ => False⟩ _ ▸ h)


/-- ponder/ponderkeep.Within -/
def G_ponderkeep_Within.sh (a0 : Int) (a1 : Int) (u0 : UW) (R : Value → UW → Prop) : Prop :=
  CIf (decide ((a1 : Int) < (1)))
  (R (.int .i64 (0)) u0)
  (a1 ≠ 0 ∧
    CIf (decide (((Int.tmod a0 a1) : Int) < (0)))
    (R (.int .i64 (IntKind.wrap .i64 ((Int.tmod a0 a1) + a1))) u0)
    (R (.int .i64 (Int.tmod a0 a1)) u0))

theorem G_ponderkeep_Within.ok (a0 : Int) (a1 : Int) (u0 : UW) (R : Value → UW → Prop) : G_ponderkeep_Within.sh a0 a1 u0 R = WF Try.prog 17 [] [] [] ((Try.f24.body).getD .skip) [.tmp 4] [(.int .i64 a0), (.int .i64 a1)] u0 R := by kernel_rfl

theorem G_ponderkeep_Within.fn (a0 : Int) (a1 : Int) (w : World) (F : Nat → Prop) (R : Value → UW → Prop) (hF : ∀ b, F b → b < w.heap.size) (h : G_ponderkeep_Within.sh a0 a1 ⟨w, F⟩ R) : FnB Try.prog 24 #[(.int .i64 a0), (.int .i64 a1)] w F fun v lo w' => ∃ pub, (∀ b, pub b → F b ∨ lo ≤ b) ∧ R v ⟨w', pub⟩ :=
  WF_sound Try.func24 rfl rfl rfl (by kernel_rfl) hF (G_ponderkeep_Within.ok a0 a1 ⟨w, F⟩ R ▸ h)

theorem G_ponderkeep_Within.a (a0 : Int) (a1 : Int) (w : World) (K : Value → World → Prop) (h : G_ponderkeep_Within.sh a0 a1 ⟨w, fun _ => False⟩ fun v u => K v u.toWorld) : FnA Try.prog 24 #[(.int .i64 a0), (.int .i64 a1)] w K :=
  FnA.of Try.func24 rfl rfl rfl (by kernel_rfl) (G_ponderkeep_Within.ok a0 a1 ⟨w, fun _ => False⟩ _ ▸ h)


/-- ponder/ponderkeep.Binds -/
def G_ponderkeep_Binds.sh (a0 : Option Addr) (a0n a0c : Nat) (a1 : Option Addr) (a1n a1c : Nat) (u0 : UW) (R : Value → UW → Prop) : Prop :=
  CIf ((((a0n : Nat) : Int) : Int) != ((a1n : Nat) : Int))
  (R (.bool false) u0)
  (LoopI (α := Int) (fun next s u =>
      CIf (decide ((s : Int) < ((a0n : Nat) : Int)))
      (withSl a0 fun b o =>
        (0 : Int) ≤ s ∧ s < ((a0n : Nat) : Int) ∧
        ∃ (x20a : ByteArray), ∃ (x20b : Int), ∃ (x20c : ByteArray), ∃ (x20d : Int), rd u.heap b (o + Int.toNat s * 4) 4 = some [(.string x20a), (.int .i64 x20b), (.string x20c), (.int .i64 x20d)] ∧
        withSl a1 fun b_1 o_1 =>
        (0 : Int) ≤ s ∧ s < ((a1n : Nat) : Int) ∧
        ∃ (x24a : ByteArray), ∃ (x24b : Int), ∃ (x24c : ByteArray), ∃ (x24d : Int), rd u.heap b_1 (o_1 + Int.toNat s * 4) 4 = some [(.string x24a), (.int .i64 x24b), (.string x24c), (.int .i64 x24d)] ∧
        CIf (!(strEq x20a x24a && ((x20b == x24b) && (strEq x20c x24c && ((x20d == x24d) && true)))))
        (R (.bool false) u)
        (next (IntKind.wrap .i64 (s + (1))) u))
      (R (.bool true) u))
    (0) u0)

theorem G_ponderkeep_Binds.ok (a0 : Option Addr) (a0n a0c : Nat) (a1 : Option Addr) (a1n a1c : Nat) (u0 : UW) (R : Value → UW → Prop) : G_ponderkeep_Binds.sh a0 a0n a0c a1 a1n a1c u0 R = WF Try.prog 26 [] [(4, ⟨[(5, .one (.int .i64))], []⟩)] [] ((Try.f16.body).getD .skip) [.tmp 4] [(.slice a0 a0n a0c), (.slice a1 a1n a1c)] u0 R := by kernel_rfl

theorem G_ponderkeep_Binds.fn (a0 : Option Addr) (a0n a0c : Nat) (a1 : Option Addr) (a1n a1c : Nat) (w : World) (F : Nat → Prop) (R : Value → UW → Prop) (hF : ∀ b, F b → b < w.heap.size) (h : G_ponderkeep_Binds.sh a0 a0n a0c a1 a1n a1c ⟨w, F⟩ R) : FnB Try.prog 16 #[(.slice a0 a0n a0c), (.slice a1 a1n a1c)] w F fun v lo w' => ∃ pub, (∀ b, pub b → F b ∨ lo ≤ b) ∧ R v ⟨w', pub⟩ :=
  WF_sound Try.func16 rfl rfl rfl (by kernel_rfl) hF (G_ponderkeep_Binds.ok a0 a0n a0c a1 a1n a1c ⟨w, F⟩ R ▸ h)

theorem G_ponderkeep_Binds.a (a0 : Option Addr) (a0n a0c : Nat) (a1 : Option Addr) (a1n a1c : Nat) (w : World) (K : Value → World → Prop) (h : G_ponderkeep_Binds.sh a0 a0n a0c a1 a1n a1c ⟨w, fun _ => False⟩ fun v u => K v u.toWorld) : FnA Try.prog 16 #[(.slice a0 a0n a0c), (.slice a1 a1n a1c)] w K :=
  FnA.of Try.func16 rfl rfl rfl (by kernel_rfl) (G_ponderkeep_Binds.ok a0 a0n a0c a1 a1n a1c ⟨w, fun _ => False⟩ _ ▸ h)


/-- ponder/test.One -/
def G_test_One.sh (a0a : Int) (a0b : ByteArray) (a0c : Int) (a0d : ByteArray) (a0e : Int) (a0f : Option Addr) (a0fn a0fc : Nat) (a1a : Int) (a1b : ByteArray) (a1c : Int) (a2 : Option Addr) (a2n a2c : Nat) (u0 : UW) (R : Value → UW → Prop) : Prop :=
  CallF Try.prog 27 #[(.agg #[(.int .i64 a0a), (.string a0b), (.int .i64 a0c), (.string a0d), (.int .i64 a0e), (.slice a0f a0fn a0fc)]), (.agg #[(.int .i64 a1a), (.string a1b), (.int .i64 a1c)]), (.slice a2 a2n a2c)] u0 fun v u =>
  ∃ (x14p : Option Addr) (x14pn x14pc : Nat), ∃ (x14q : Bool), v = (.tuple #[(.slice x14p x14pn x14pc), (.bool x14q)]) ∧
  CIf (!x14q)
  (R (.tuple #[(.slice none 0 0), (.bool false)]) u)
  (CallF Try.prog 28 #[(.slice x14p x14pn x14pc)] u fun v_1 u_1 =>
    ∃ (x20 : Option Addr) (x20n x20c : Nat), v_1 = (.slice x20 x20n x20c) ∧
    R (.tuple #[(.slice x20 x20n x20c), (.bool true)]) u_1)

theorem G_test_One.ok (a0a : Int) (a0b : ByteArray) (a0c : Int) (a0d : ByteArray) (a0e : Int) (a0f : Option Addr) (a0fn a0fc : Nat) (a1a : Int) (a1b : ByteArray) (a1c : Int) (a2 : Option Addr) (a2n a2c : Nat) (u0 : UW) (R : Value → UW → Prop) : G_test_One.sh a0a a0b a0c a0d a0e a0f a0fn a0fc a1a a1b a1c a2 a2n a2c u0 R = WF Try.prog 21 [3, 4] [] [] ((Try.f14.body).getD .skip) [.tmp 6, .tmp 7] [(.agg #[(.int .i64 a0a), (.string a0b), (.int .i64 a0c), (.string a0d), (.int .i64 a0e), (.slice a0f a0fn a0fc)]), (.agg #[(.int .i64 a1a), (.string a1b), (.int .i64 a1c)]), (.slice a2 a2n a2c)] u0 R := by kernel_rfl

theorem G_test_One.fn (a0a : Int) (a0b : ByteArray) (a0c : Int) (a0d : ByteArray) (a0e : Int) (a0f : Option Addr) (a0fn a0fc : Nat) (a1a : Int) (a1b : ByteArray) (a1c : Int) (a2 : Option Addr) (a2n a2c : Nat) (w : World) (F : Nat → Prop) (R : Value → UW → Prop) (hF : ∀ b, F b → b < w.heap.size) (h : G_test_One.sh a0a a0b a0c a0d a0e a0f a0fn a0fc a1a a1b a1c a2 a2n a2c ⟨w, F⟩ R) : FnB Try.prog 14 #[(.agg #[(.int .i64 a0a), (.string a0b), (.int .i64 a0c), (.string a0d), (.int .i64 a0e), (.slice a0f a0fn a0fc)]), (.agg #[(.int .i64 a1a), (.string a1b), (.int .i64 a1c)]), (.slice a2 a2n a2c)] w F fun v lo w' => ∃ pub, (∀ b, pub b → F b ∨ lo ≤ b) ∧ R v ⟨w', pub⟩ :=
  WF_sound Try.func14 rfl rfl rfl (by kernel_rfl) hF (G_test_One.ok a0a a0b a0c a0d a0e a0f a0fn a0fc a1a a1b a1c a2 a2n a2c ⟨w, F⟩ R ▸ h)

theorem G_test_One.a (a0a : Int) (a0b : ByteArray) (a0c : Int) (a0d : ByteArray) (a0e : Int) (a0f : Option Addr) (a0fn a0fc : Nat) (a1a : Int) (a1b : ByteArray) (a1c : Int) (a2 : Option Addr) (a2n a2c : Nat) (w : World) (K : Value → World → Prop) (h : G_test_One.sh a0a a0b a0c a0d a0e a0f a0fn a0fc a1a a1b a1c a2 a2n a2c ⟨w, fun _ => False⟩ fun v u => K v u.toWorld) : FnA Try.prog 14 #[(.agg #[(.int .i64 a0a), (.string a0b), (.int .i64 a0c), (.string a0d), (.int .i64 a0e), (.slice a0f a0fn a0fc)]), (.agg #[(.int .i64 a1a), (.string a1b), (.int .i64 a1c)]), (.slice a2 a2n a2c)] w K :=
  FnA.of Try.func14 rfl rfl rfl (by kernel_rfl) (G_test_One.ok a0a a0b a0c a0d a0e a0f a0fn a0fc a1a a1b a1c a2 a2n a2c ⟨w, fun _ => False⟩ _ ▸ h)


/-- ponder/ponderref09.One -/
def G_ponderref09_One.sh (a0a : Int) (a0b : ByteArray) (a0c : Int) (a0d : ByteArray) (a0e : Int) (a0f : Option Addr) (a0fn a0fc : Nat) (a1a : Int) (a1b : ByteArray) (a1c : Int) (a2 : Option Addr) (a2n a2c : Nat) (u0 : UW) (R : Value → UW → Prop) : Prop :=
  CIf ((a0a : Int) == (8))
  (LoopI (α := Int) (fun next s u =>
      CIf (decide ((s : Int) < ((a0fn : Nat) : Int)))
      (withSl a0f fun b o =>
        (0 : Int) ≤ s ∧ s < ((a0fn : Nat) : Int) ∧
        ∃ (x26a : Int), ∃ (x26b : ByteArray), ∃ (x26c : Int), rd u.heap b (o + Int.toNat s * 3) 3 = some [(.int .i64 x26a), (.string x26b), (.int .i64 x26c)] ∧
        CIf ((x26a == a1a) && (strEq x26b a1b && ((x26c == a1c) && true)))
        (R (.tuple #[(.slice a2 a2n a2c), (.bool true)]) u)
        (next (IntKind.wrap .i64 (s + (1))) u))
      (R (.tuple #[(.slice none 0 0), (.bool false)]) u))
    (0) u0)
  (CIf (decide ((a0a : Int) < (1)))
    (R (.tuple #[(.slice none 0 0), (.bool false)]) u0)
    (CIf (decide ((a0a : Int) > (7)))
      (R (.tuple #[(.slice none 0 0), (.bool false)]) u0)
      (CJoin (α := Int × ByteArray × Int) (fun J =>
          CIf (!strEq a0b ⟨#[]⟩)
          (CallF Try.prog 18 #[(.slice a2 a2n a2c), (.string a0b)] u0 fun v u_2 =>
            ∃ (x47pa : Int), ∃ (x47pb : ByteArray), ∃ (x47pc : Int), ∃ (x47q : Bool), v = (.tuple #[(.agg #[(.int .i64 x47pa), (.string x47pb), (.int .i64 x47pc)]), (.bool x47q)]) ∧
            CIf (!x47q)
            (CIf ((a0a : Int) != (1))
              (R (.tuple #[(.slice none 0 0), (.bool false)]) u_2)
              (CallF Try.prog 29 #[(.slice a2 a2n a2c), (.string a0b), (.agg #[(.int .i64 a1a), (.string a1b), (.int .i64 a1c)])] u_2 fun v_1 u_3 =>
                ∃ (x59 : Option Addr) (x59n x59c : Nat), v_1 = (.slice x59 x59n x59c) ∧
                R (.tuple #[(.slice x59 x59n x59c), (.bool true)]) u_3))
            (J (x47pa, x47pb, x47pc) u_2))
          (J (a0c, a0d, a0e) u0))
        (fun s_1 u_1 =>
          CallF Try.prog 10 #[(.int .i64 a0a), (.agg #[(.int .i64 a1a), (.string a1b), (.int .i64 a1c)]), (.agg #[(.int .i64 s_1.1), (.string s_1.2.1), (.int .i64 s_1.2.2)])] u_1 fun v_2 u_4 =>
          ∃ (x65 : Bool), v_2 = (.bool x65) ∧
          CIf (!x65)
          (R (.tuple #[(.slice none 0 0), (.bool false)]) u_4)
          (R (.tuple #[(.slice a2 a2n a2c), (.bool true)]) u_4)))))

theorem G_ponderref09_One.ok (a0a : Int) (a0b : ByteArray) (a0c : Int) (a0d : ByteArray) (a0e : Int) (a0f : Option Addr) (a0fn a0fc : Nat) (a1a : Int) (a1b : ByteArray) (a1c : Int) (a2 : Option Addr) (a2n a2c : Nat) (u0 : UW) (R : Value → UW → Prop) : G_ponderref09_One.sh a0a a0b a0c a0d a0e a0f a0fn a0fc a1a a1b a1c a2 a2n a2c u0 R = WF Try.prog 68 [3, 4, 9, 10] [(3, ⟨[(8, .one (.int .i64))], []⟩)] [(18, ⟨[(9, .box [.int .i64, .str, .int .i64])], []⟩)] ((Try.f15.body).getD .skip) [.tmp 6, .tmp 7] [(.agg #[(.int .i64 a0a), (.string a0b), (.int .i64 a0c), (.string a0d), (.int .i64 a0e), (.slice a0f a0fn a0fc)]), (.agg #[(.int .i64 a1a), (.string a1b), (.int .i64 a1c)]), (.slice a2 a2n a2c)] u0 R := by kernel_rfl

theorem G_ponderref09_One.fn (a0a : Int) (a0b : ByteArray) (a0c : Int) (a0d : ByteArray) (a0e : Int) (a0f : Option Addr) (a0fn a0fc : Nat) (a1a : Int) (a1b : ByteArray) (a1c : Int) (a2 : Option Addr) (a2n a2c : Nat) (w : World) (F : Nat → Prop) (R : Value → UW → Prop) (hF : ∀ b, F b → b < w.heap.size) (h : G_ponderref09_One.sh a0a a0b a0c a0d a0e a0f a0fn a0fc a1a a1b a1c a2 a2n a2c ⟨w, F⟩ R) : FnB Try.prog 15 #[(.agg #[(.int .i64 a0a), (.string a0b), (.int .i64 a0c), (.string a0d), (.int .i64 a0e), (.slice a0f a0fn a0fc)]), (.agg #[(.int .i64 a1a), (.string a1b), (.int .i64 a1c)]), (.slice a2 a2n a2c)] w F fun v lo w' => ∃ pub, (∀ b, pub b → F b ∨ lo ≤ b) ∧ R v ⟨w', pub⟩ :=
  WF_sound Try.func15 rfl rfl rfl (by kernel_rfl) hF (G_ponderref09_One.ok a0a a0b a0c a0d a0e a0f a0fn a0fc a1a a1b a1c a2 a2n a2c ⟨w, F⟩ R ▸ h)

theorem G_ponderref09_One.a (a0a : Int) (a0b : ByteArray) (a0c : Int) (a0d : ByteArray) (a0e : Int) (a0f : Option Addr) (a0fn a0fc : Nat) (a1a : Int) (a1b : ByteArray) (a1c : Int) (a2 : Option Addr) (a2n a2c : Nat) (w : World) (K : Value → World → Prop) (h : G_ponderref09_One.sh a0a a0b a0c a0d a0e a0f a0fn a0fc a1a a1b a1c a2 a2n a2c ⟨w, fun _ => False⟩ fun v u => K v u.toWorld) : FnA Try.prog 15 #[(.agg #[(.int .i64 a0a), (.string a0b), (.int .i64 a0c), (.string a0d), (.int .i64 a0e), (.slice a0f a0fn a0fc)]), (.agg #[(.int .i64 a1a), (.string a1b), (.int .i64 a1c)]), (.slice a2 a2n a2c)] w K :=
  FnA.of Try.func15 rfl rfl rfl (by kernel_rfl) (G_ponderref09_One.ok a0a a0b a0c a0d a0e a0f a0fn a0fc a1a a1b a1c a2 a2n a2c ⟨w, fun _ => False⟩ _ ▸ h)


/-- ponder/test.met -/
def G_test_met.sh (a0a : Int) (a0b : ByteArray) (a0c : Int) (a0d : ByteArray) (a0e : Int) (a0f : Option Addr) (a0fn a0fc : Nat) (a1a : Int) (a1b : ByteArray) (a1c : Int) (a2 : Option Addr) (a2n a2c : Nat) (u0 : UW) (R : Value → UW → Prop) : Prop :=
  CIf ((a0a : Int) == (8))
  (LoopI (α := Int) (fun next s u =>
      CIf (decide ((s : Int) < ((a0fn : Nat) : Int)))
      (withSl a0f fun b o =>
        (0 : Int) ≤ s ∧ s < ((a0fn : Nat) : Int) ∧
        ∃ (x21a : Int), ∃ (x21b : ByteArray), ∃ (x21c : Int), rd u.heap b (o + Int.toNat s * 3) 3 = some [(.int .i64 x21a), (.string x21b), (.int .i64 x21c)] ∧
        CIf ((x21a == a1a) && (strEq x21b a1b && ((x21c == a1c) && true)))
        (R (.tuple #[(.slice a2 a2n a2c), (.bool true)]) u)
        (next (IntKind.wrap .i64 (s + (1))) u))
      (R (.tuple #[(.slice none 0 0), (.bool false)]) u))
    (0) u0)
  (CIf (decide ((a0a : Int) < (1)))
    (R (.tuple #[(.slice none 0 0), (.bool false)]) u0)
    (CIf (decide ((a0a : Int) > (7)))
      (R (.tuple #[(.slice none 0 0), (.bool false)]) u0)
      (CIf (strEq a0b ⟨#[]⟩)
        (CallF Try.prog 9 #[(.int .i64 a0a), (.agg #[(.int .i64 a1a), (.string a1b), (.int .i64 a1c)]), (.agg #[(.int .i64 a0c), (.string a0d), (.int .i64 a0e)])] u0 fun v u_1 =>
          ∃ (x44 : Bool), v = (.bool x44) ∧
          R (.tuple #[(.slice a2 a2n a2c), (.bool x44)]) u_1)
        (CallF Try.prog 17 #[(.slice a2 a2n a2c), (.string a0b)] u0 fun v_1 u_2 =>
          ∃ (x49pa : Int), ∃ (x49pb : ByteArray), ∃ (x49pc : Int), ∃ (x49q : Bool), v_1 = (.tuple #[(.agg #[(.int .i64 x49pa), (.string x49pb), (.int .i64 x49pc)]), (.bool x49q)]) ∧
          CIf x49q
          (CallF Try.prog 9 #[(.int .i64 a0a), (.agg #[(.int .i64 a1a), (.string a1b), (.int .i64 a1c)]), (.agg #[(.int .i64 x49pa), (.string x49pb), (.int .i64 x49pc)])] u_2 fun v_2 u_3 =>
            ∃ (x58 : Bool), v_2 = (.bool x58) ∧
            R (.tuple #[(.slice a2 a2n a2c), (.bool x58)]) u_3)
          (CIf ((a0a : Int) != (1))
            (R (.tuple #[(.slice none 0 0), (.bool false)]) u_2)
            (noSpot a2 ∧ (0 : Int) ≤ (0 : Int) ∧ (0 : Int) ≤ ((a2n : Nat) : Int) ∧ ((a2n : Nat) : Int) ≤ ((a2n : Nat) : Int) ∧ ((a2n : Nat) : Int) ≤ ((a2c : Nat) : Int) ∧
              ∀ (b72 : Nat) (w : World), Born u_2.toWorld w b72 (.cells #[(.string a0b), (.int .i64 a1a), (.string a1b), (.int .i64 a1c)] 34 (0, 0)) →
              Same u_2 (UW.born u_2 b72 w) ∧
              cApp Try.prog 34 (slA a2 (Int.toNat (0 : Int)) (Int.toNat ((a2n : Nat) : Int)) 4) (Int.toNat ((a2n : Nat) : Int) - Int.toNat (0 : Int)) (Int.toNat ((a2n : Nat) : Int) - Int.toNat (0 : Int)) (some ⟨b72, 0, none⟩) 1 (UW.born u_2 b72 w) fun s73 s73n s73c u_4 =>
              Same u_2 u_4 ∧
              R (.tuple #[(.slice s73 s73n s73c), (.bool true)]) u_4))))))

theorem G_test_met.ok (a0a : Int) (a0b : ByteArray) (a0c : Int) (a0d : ByteArray) (a0e : Int) (a0f : Option Addr) (a0fn a0fc : Nat) (a1a : Int) (a1b : ByteArray) (a1c : Int) (a2 : Option Addr) (a2n a2c : Nat) (u0 : UW) (R : Value → UW → Prop) : G_test_met.sh a0a a0b a0c a0d a0e a0f a0fn a0fc a1a a1b a1c a2 a2n a2c u0 R = WF Try.prog 74 [3, 4, 9, 10] [(3, ⟨[(18, .one (.int .i64))], []⟩)] [] ((Try.f27.body).getD .skip) [.tmp 6, .tmp 7] [(.agg #[(.int .i64 a0a), (.string a0b), (.int .i64 a0c), (.string a0d), (.int .i64 a0e), (.slice a0f a0fn a0fc)]), (.agg #[(.int .i64 a1a), (.string a1b), (.int .i64 a1c)]), (.slice a2 a2n a2c)] u0 R := by kernel_rfl

theorem G_test_met.fn (a0a : Int) (a0b : ByteArray) (a0c : Int) (a0d : ByteArray) (a0e : Int) (a0f : Option Addr) (a0fn a0fc : Nat) (a1a : Int) (a1b : ByteArray) (a1c : Int) (a2 : Option Addr) (a2n a2c : Nat) (w : World) (F : Nat → Prop) (R : Value → UW → Prop) (hF : ∀ b, F b → b < w.heap.size) (h : G_test_met.sh a0a a0b a0c a0d a0e a0f a0fn a0fc a1a a1b a1c a2 a2n a2c ⟨w, F⟩ R) : FnB Try.prog 27 #[(.agg #[(.int .i64 a0a), (.string a0b), (.int .i64 a0c), (.string a0d), (.int .i64 a0e), (.slice a0f a0fn a0fc)]), (.agg #[(.int .i64 a1a), (.string a1b), (.int .i64 a1c)]), (.slice a2 a2n a2c)] w F fun v lo w' => ∃ pub, (∀ b, pub b → F b ∨ lo ≤ b) ∧ R v ⟨w', pub⟩ :=
  WF_sound Try.func27 rfl rfl rfl (by kernel_rfl) hF (G_test_met.ok a0a a0b a0c a0d a0e a0f a0fn a0fc a1a a1b a1c a2 a2n a2c ⟨w, F⟩ R ▸ h)

theorem G_test_met.a (a0a : Int) (a0b : ByteArray) (a0c : Int) (a0d : ByteArray) (a0e : Int) (a0f : Option Addr) (a0fn a0fc : Nat) (a1a : Int) (a1b : ByteArray) (a1c : Int) (a2 : Option Addr) (a2n a2c : Nat) (w : World) (K : Value → World → Prop) (h : G_test_met.sh a0a a0b a0c a0d a0e a0f a0fn a0fc a1a a1b a1c a2 a2n a2c ⟨w, fun _ => False⟩ fun v u => K v u.toWorld) : FnA Try.prog 27 #[(.agg #[(.int .i64 a0a), (.string a0b), (.int .i64 a0c), (.string a0d), (.int .i64 a0e), (.slice a0f a0fn a0fc)]), (.agg #[(.int .i64 a1a), (.string a1b), (.int .i64 a1c)]), (.slice a2 a2n a2c)] w K :=
  FnA.of Try.func27 rfl rfl rfl (by kernel_rfl) (G_test_met.ok a0a a0b a0c a0d a0e a0f a0fn a0fc a1a a1b a1c a2 a2n a2c ⟨w, fun _ => False⟩ _ ▸ h)


/-- ponder/test.own -/
def G_test_own.sh (a0 : Option Addr) (a0n a0c : Nat) (u0 : UW) (R : Value → UW → Prop) : Prop :=
  cApp Try.prog 34 none 0 0 a0 a0n u0 fun s4 s4n s4c u =>
  R (.slice s4 s4n s4c) u

theorem G_test_own.ok (a0 : Option Addr) (a0n a0c : Nat) (u0 : UW) (R : Value → UW → Prop) : G_test_own.sh a0 a0n a0c u0 R = WF Try.prog 5 [] [] [] ((Try.f28.body).getD .skip) [.tmp 2] [(.slice a0 a0n a0c)] u0 R := by kernel_rfl

theorem G_test_own.fn (a0 : Option Addr) (a0n a0c : Nat) (w : World) (F : Nat → Prop) (R : Value → UW → Prop) (hF : ∀ b, F b → b < w.heap.size) (h : G_test_own.sh a0 a0n a0c ⟨w, F⟩ R) : FnB Try.prog 28 #[(.slice a0 a0n a0c)] w F fun v lo w' => ∃ pub, (∀ b, pub b → F b ∨ lo ≤ b) ∧ R v ⟨w', pub⟩ :=
  WF_sound Try.func28 rfl rfl rfl (by kernel_rfl) hF (G_test_own.ok a0 a0n a0c ⟨w, F⟩ R ▸ h)

theorem G_test_own.a (a0 : Option Addr) (a0n a0c : Nat) (w : World) (K : Value → World → Prop) (h : G_test_own.sh a0 a0n a0c ⟨w, fun _ => False⟩ fun v u => K v u.toWorld) : FnA Try.prog 28 #[(.slice a0 a0n a0c)] w K :=
  FnA.of Try.func28 rfl rfl rfl (by kernel_rfl) (G_test_own.ok a0 a0n a0c ⟨w, fun _ => False⟩ _ ▸ h)


/-- ponder/ponderref09.more -/
def G_ponderref09_more.sh (a0 : Option Addr) (a0n a0c : Nat) (a1 : ByteArray) (a2a : Int) (a2b : ByteArray) (a2c : Int) (u0 : UW) (R : Value → UW → Prop) : Prop :=
  (cApp Try.prog 34 none 0 0 a0 a0n u0 fun s8 s8n s8c u =>
    Same u0 u ∧
    ∀ (b12 : Nat) (w : World), Born u.toWorld w b12 (.cells #[(.string a1), (.int .i64 a2a), (.string a2b), (.int .i64 a2c)] 34 (0, 0)) →
    Same u0 (UW.born u b12 w) ∧
    cApp Try.prog 34 s8 s8n s8c (some ⟨b12, 0, none⟩) 1 (UW.born u b12 w) fun s13 s13n s13c u_1 =>
    Same u0 u_1 ∧
    R (.slice s13 s13n s13c) u_1) ∧
  (∀ (b12_1 : Nat) (w_1 : World), Born u0.toWorld w_1 b12_1 (.cells #[(.string a1), (.int .i64 a2a), (.string a2b), (.int .i64 a2c)] 34 (0, 0)) →
    Same u0 (UW.born u0 b12_1 w_1) ∧
    cApp Try.prog 34 none 0 0 a0 a0n (UW.born u0 b12_1 w_1) fun s8_1 s8_1n s8_1c u_2 =>
    Same u0 u_2 ∧
    cApp Try.prog 34 s8_1 s8_1n s8_1c (some ⟨b12_1, 0, none⟩) 1 u_2 fun s13_1 s13_1n s13_1c u_3 =>
    Same u0 u_3 ∧
    R (.slice s13_1 s13_1n s13_1c) u_3)

theorem G_ponderref09_more.ok (a0 : Option Addr) (a0n a0c : Nat) (a1 : ByteArray) (a2a : Int) (a2b : ByteArray) (a2c : Int) (u0 : UW) (R : Value → UW → Prop) : G_ponderref09_more.sh a0 a0n a0c a1 a2a a2b a2c u0 R = WF Try.prog 14 [5] [] [] ((Try.f29.body).getD .skip) [.tmp 6] [(.slice a0 a0n a0c), (.string a1), (.agg #[(.int .i64 a2a), (.string a2b), (.int .i64 a2c)])] u0 R := by kernel_rfl

theorem G_ponderref09_more.fn (a0 : Option Addr) (a0n a0c : Nat) (a1 : ByteArray) (a2a : Int) (a2b : ByteArray) (a2c : Int) (w : World) (F : Nat → Prop) (R : Value → UW → Prop) (hF : ∀ b, F b → b < w.heap.size) (h : G_ponderref09_more.sh a0 a0n a0c a1 a2a a2b a2c ⟨w, F⟩ R) : FnB Try.prog 29 #[(.slice a0 a0n a0c), (.string a1), (.agg #[(.int .i64 a2a), (.string a2b), (.int .i64 a2c)])] w F fun v lo w' => ∃ pub, (∀ b, pub b → F b ∨ lo ≤ b) ∧ R v ⟨w', pub⟩ :=
  WF_sound Try.func29 rfl rfl rfl (by kernel_rfl) hF (G_ponderref09_more.ok a0 a0n a0c a1 a2a a2b a2c ⟨w, F⟩ R ▸ h)

theorem G_ponderref09_more.a (a0 : Option Addr) (a0n a0c : Nat) (a1 : ByteArray) (a2a : Int) (a2b : ByteArray) (a2c : Int) (w : World) (K : Value → World → Prop) (h : G_ponderref09_more.sh a0 a0n a0c a1 a2a a2b a2c ⟨w, fun _ => False⟩ fun v u => K v u.toWorld) : FnA Try.prog 29 #[(.slice a0 a0n a0c), (.string a1), (.agg #[(.int .i64 a2a), (.string a2b), (.int .i64 a2c)])] w K :=
  FnA.of Try.func29 rfl rfl rfl (by kernel_rfl) (G_ponderref09_more.ok a0 a0n a0c a1 a2a a2b a2c ⟨w, fun _ => False⟩ _ ▸ h)


/-- ponder/test.all -/
def G_test_all.sh (a0 : Option Addr) (a0n a0c : Nat) (a1a : Int) (a1b : ByteArray) (a1c : Int) (a2 : Option Addr) (a2n a2c : Nat) (u0 : UW) (R : Value → UW → Prop) : Prop :=
  LoopI (α := (Option Addr × Nat × Nat) × Int) (fun next s u =>
    CIf (decide ((s.2 : Int) < ((a0n : Nat) : Int)))
    (withSl a0 fun b o =>
      (0 : Int) ≤ s.2 ∧ s.2 < ((a0n : Nat) : Int) ∧
      ∃ (x17a : Int), ∃ (x17b : ByteArray), ∃ (x17c : Int), ∃ (x17d : ByteArray), ∃ (x17e : Int), ∃ (x17f : Option Addr) (x17fn x17fc : Nat), rd u.heap b (o + Int.toNat s.2 * 6) 6 = some [(.int .i64 x17a), (.string x17b), (.int .i64 x17c), (.string x17d), (.int .i64 x17e), (.slice x17f x17fn x17fc)] ∧
      CallF Try.prog 27 #[(.agg #[(.int .i64 x17a), (.string x17b), (.int .i64 x17c), (.string x17d), (.int .i64 x17e), (.slice x17f x17fn x17fc)]), (.agg #[(.int .i64 a1a), (.string a1b), (.int .i64 a1c)]), (.slice s.1.1 s.1.2.1 s.1.2.2)] u fun v u_1 =>
      ∃ (x22p : Option Addr) (x22pn x22pc : Nat), ∃ (x22q : Bool), v = (.tuple #[(.slice x22p x22pn x22pc), (.bool x22q)]) ∧
      CIf (!x22q)
      (R (.tuple #[(.slice none 0 0), (.bool false)]) u_1)
      (next ((x22p, x22pn, x22pc), (IntKind.wrap .i64 (s.2 + (1)))) u_1))
    (R (.tuple #[(.slice s.1.1 s.1.2.1 s.1.2.2), (.bool true)]) u))
  ((a2, a2n, a2c), (0)) u0

theorem G_test_all.ok (a0 : Option Addr) (a0n a0c : Nat) (a1a : Int) (a1b : ByteArray) (a1c : Int) (a2 : Option Addr) (a2n a2c : Nat) (u0 : UW) (R : Value → UW → Prop) : G_test_all.sh a0 a0n a0c a1a a1b a1c a2 a2n a2c u0 R = WF Try.prog 30 [4, 9] [(2, ⟨[(2, .one (.slice)), (14, .one (.int .i64))], []⟩)] [] ((Try.f32.body).getD .skip) [.tmp 6, .tmp 7] [(.slice a0 a0n a0c), (.agg #[(.int .i64 a1a), (.string a1b), (.int .i64 a1c)]), (.slice a2 a2n a2c)] u0 R := by kernel_rfl

theorem G_test_all.fn (a0 : Option Addr) (a0n a0c : Nat) (a1a : Int) (a1b : ByteArray) (a1c : Int) (a2 : Option Addr) (a2n a2c : Nat) (w : World) (F : Nat → Prop) (R : Value → UW → Prop) (hF : ∀ b, F b → b < w.heap.size) (h : G_test_all.sh a0 a0n a0c a1a a1b a1c a2 a2n a2c ⟨w, F⟩ R) : FnB Try.prog 32 #[(.slice a0 a0n a0c), (.agg #[(.int .i64 a1a), (.string a1b), (.int .i64 a1c)]), (.slice a2 a2n a2c)] w F fun v lo w' => ∃ pub, (∀ b, pub b → F b ∨ lo ≤ b) ∧ R v ⟨w', pub⟩ :=
  WF_sound Try.func32 rfl rfl rfl (by kernel_rfl) hF (G_test_all.ok a0 a0n a0c a1a a1b a1c a2 a2n a2c ⟨w, F⟩ R ▸ h)

theorem G_test_all.a (a0 : Option Addr) (a0n a0c : Nat) (a1a : Int) (a1b : ByteArray) (a1c : Int) (a2 : Option Addr) (a2n a2c : Nat) (w : World) (K : Value → World → Prop) (h : G_test_all.sh a0 a0n a0c a1a a1b a1c a2 a2n a2c ⟨w, fun _ => False⟩ fun v u => K v u.toWorld) : FnA Try.prog 32 #[(.slice a0 a0n a0c), (.agg #[(.int .i64 a1a), (.string a1b), (.int .i64 a1c)]), (.slice a2 a2n a2c)] w K :=
  FnA.of Try.func32 rfl rfl rfl (by kernel_rfl) (G_test_all.ok a0 a0n a0c a1a a1b a1c a2 a2n a2c ⟨w, fun _ => False⟩ _ ▸ h)


/-- ponder/ponderref09.tests -/
def G_ponderref09_tests.sh (a0 : Option Addr) (a0n a0c : Nat) (a1a : Int) (a1b : ByteArray) (a1c : Int) (a2 : Option Addr) (a2n a2c : Nat) (u0 : UW) (R : Value → UW → Prop) : Prop :=
  LoopI (α := (Option Addr × Nat × Nat) × Int) (fun next s u =>
    CIf (decide ((s.2 : Int) < ((a0n : Nat) : Int)))
    (withSl a0 fun b o =>
      (0 : Int) ≤ s.2 ∧ s.2 < ((a0n : Nat) : Int) ∧
      ∃ (x21a : Int), ∃ (x21b : ByteArray), ∃ (x21c : Int), ∃ (x21d : ByteArray), ∃ (x21e : Int), ∃ (x21f : Option Addr) (x21fn x21fc : Nat), rd u.heap b (o + Int.toNat s.2 * 6) 6 = some [(.int .i64 x21a), (.string x21b), (.int .i64 x21c), (.string x21d), (.int .i64 x21e), (.slice x21f x21fn x21fc)] ∧
      CallF Try.prog 15 #[(.agg #[(.int .i64 x21a), (.string x21b), (.int .i64 x21c), (.string x21d), (.int .i64 x21e), (.slice x21f x21fn x21fc)]), (.agg #[(.int .i64 a1a), (.string a1b), (.int .i64 a1c)]), (.slice s.1.1 s.1.2.1 s.1.2.2)] u fun v u_1 =>
      ∃ (x24p : Option Addr) (x24pn x24pc : Nat), ∃ (x24q : Bool), v = (.tuple #[(.slice x24p x24pn x24pc), (.bool x24q)]) ∧
      Same u u_1 ∧
      CIf (!x24q)
      (R (.tuple #[(.slice none 0 0), (.bool false)]) u_1)
      (next ((x24p, x24pn, x24pc), (IntKind.wrap .i64 (s.2 + (1)))) u_1))
    (R (.tuple #[(.slice s.1.1 s.1.2.1 s.1.2.2), (.bool true)]) u))
  ((a2, a2n, a2c), (0)) u0

theorem G_ponderref09_tests.ok (a0 : Option Addr) (a0n a0c : Nat) (a1a : Int) (a1b : ByteArray) (a1c : Int) (a2 : Option Addr) (a2n a2c : Nat) (u0 : UW) (R : Value → UW → Prop) : G_ponderref09_tests.sh a0 a0n a0c a1a a1b a1c a2 a2n a2c u0 R = WF Try.prog 31 [4] [(2, ⟨[(2, .one (.slice)), (8, .one (.int .i64))], []⟩)] [] ((Try.f33.body).getD .skip) [.tmp 6, .tmp 7] [(.slice a0 a0n a0c), (.agg #[(.int .i64 a1a), (.string a1b), (.int .i64 a1c)]), (.slice a2 a2n a2c)] u0 R := by kernel_rfl

theorem G_ponderref09_tests.fn (a0 : Option Addr) (a0n a0c : Nat) (a1a : Int) (a1b : ByteArray) (a1c : Int) (a2 : Option Addr) (a2n a2c : Nat) (w : World) (F : Nat → Prop) (R : Value → UW → Prop) (hF : ∀ b, F b → b < w.heap.size) (h : G_ponderref09_tests.sh a0 a0n a0c a1a a1b a1c a2 a2n a2c ⟨w, F⟩ R) : FnB Try.prog 33 #[(.slice a0 a0n a0c), (.agg #[(.int .i64 a1a), (.string a1b), (.int .i64 a1c)]), (.slice a2 a2n a2c)] w F fun v lo w' => ∃ pub, (∀ b, pub b → F b ∨ lo ≤ b) ∧ R v ⟨w', pub⟩ :=
  WF_sound Try.func33 rfl rfl rfl (by kernel_rfl) hF (G_ponderref09_tests.ok a0 a0n a0c a1a a1b a1c a2 a2n a2c ⟨w, F⟩ R ▸ h)

theorem G_ponderref09_tests.a (a0 : Option Addr) (a0n a0c : Nat) (a1a : Int) (a1b : ByteArray) (a1c : Int) (a2 : Option Addr) (a2n a2c : Nat) (w : World) (K : Value → World → Prop) (h : G_ponderref09_tests.sh a0 a0n a0c a1a a1b a1c a2 a2n a2c ⟨w, fun _ => False⟩ fun v u => K v u.toWorld) : FnA Try.prog 33 #[(.slice a0 a0n a0c), (.agg #[(.int .i64 a1a), (.string a1b), (.int .i64 a1c)]), (.slice a2 a2n a2c)] w K :=
  FnA.of Try.func33 rfl rfl rfl (by kernel_rfl) (G_ponderref09_tests.ok a0 a0n a0c a1a a1b a1c a2 a2n a2c ⟨w, fun _ => False⟩ _ ▸ h)


/-- ponder/test.Cond -/
def G_test_Cond.sh (a0a : Int) (a0b : Bool) (a0c : ByteArray) (a0d : Option Addr) (a0dn a0dc : Nat) (a0e : Option Addr) (a0en a0ec : Nat) (a0f : Bool) (a0g : Option Addr) (a0gn a0gc : Nat) (a1a : Int) (a1b : ByteArray) (a1c : Int) (a1d : Int) (a1e : ByteArray) (a1f : Int) (a1g : Int) (a1h : ByteArray) (a1i : Int) (a1j : Bool) (a1k : Bool) (a1l : Int) (a2 : Option Addr) (a2n a2c : Nat) (u0 : UW) (R : Value → UW → Prop) : Prop :=
  CJoin (α := Unit) (fun J =>
    CIf ((a0a : Int) != (1))
    (CIf ((a0a : Int) != (2))
      (R (.tuple #[(.slice none 0 0), (.bool false)]) u0)
      (CIf a0b
        (CIf (!a1k)
          (R (.tuple #[(.slice none 0 0), (.bool false)]) u0)
          (CIf (!(a0f == a1j))
            (R (.tuple #[(.slice none 0 0), (.bool false)]) u0)
            (J () u0)))
        (CIf (!(a0f == a1j))
          (R (.tuple #[(.slice none 0 0), (.bool false)]) u0)
          (J () u0))))
    (CIf a0b
      (CIf (!a1k)
        (R (.tuple #[(.slice none 0 0), (.bool false)]) u0)
        (CIf (!(a0f == a1j))
          (R (.tuple #[(.slice none 0 0), (.bool false)]) u0)
          (J () u0)))
      (CIf (!(a0f == a1j))
        (R (.tuple #[(.slice none 0 0), (.bool false)]) u0)
        (J () u0))))
  (fun s u =>
    CallF Try.prog 27 #[(.agg #[(.int .i64 (1)), (.string a0c), (.int .i64 (0)), (.string ⟨#[]⟩), (.int .i64 (0)), (.slice none 0 0)]), (.agg #[(.int .i64 a1a), (.string a1b), (.int .i64 a1c)]), (.slice a2 a2n a2c)] u fun v u_1 =>
    ∃ (x41p : Option Addr) (x41pn x41pc : Nat), ∃ (x41q : Bool), v = (.tuple #[(.slice x41p x41pn x41pc), (.bool x41q)]) ∧
    CIf (!x41q)
    (R (.tuple #[(.slice none 0 0), (.bool false)]) u_1)
    (CallF Try.prog 32 #[(.slice a0d a0dn a0dc), (.agg #[(.int .i64 a1d), (.string a1e), (.int .i64 a1f)]), (.slice x41p x41pn x41pc)] u_1 fun v_1 u_2 =>
      ∃ (x52p : Option Addr) (x52pn x52pc : Nat), ∃ (x52q : Bool), v_1 = (.tuple #[(.slice x52p x52pn x52pc), (.bool x52q)]) ∧
      CIf (!x52q)
      (R (.tuple #[(.slice none 0 0), (.bool false)]) u_2)
      (CallF Try.prog 32 #[(.slice a0e a0en a0ec), (.agg #[(.int .i64 a1g), (.string a1h), (.int .i64 a1i)]), (.slice x52p x52pn x52pc)] u_2 fun v_2 u_3 =>
        ∃ (x63p : Option Addr) (x63pn x63pc : Nat), ∃ (x63q : Bool), v_2 = (.tuple #[(.slice x63p x63pn x63pc), (.bool x63q)]) ∧
        CIf (!x63q)
        (R (.tuple #[(.slice none 0 0), (.bool false)]) u_3)
        (CallF Try.prog 28 #[(.slice x63p x63pn x63pc)] u_3 fun v_3 u_4 =>
          ∃ (x69 : Option Addr) (x69n x69c : Nat), v_3 = (.slice x69 x69n x69c) ∧
          R (.tuple #[(.slice x69 x69n x69c), (.bool true)]) u_4))))

theorem G_test_Cond.ok (a0a : Int) (a0b : Bool) (a0c : ByteArray) (a0d : Option Addr) (a0dn a0dc : Nat) (a0e : Option Addr) (a0en a0ec : Nat) (a0f : Bool) (a0g : Option Addr) (a0gn a0gc : Nat) (a1a : Int) (a1b : ByteArray) (a1c : Int) (a1d : Int) (a1e : ByteArray) (a1f : Int) (a1g : Int) (a1h : ByteArray) (a1i : Int) (a1j : Bool) (a1k : Bool) (a1l : Int) (a2 : Option Addr) (a2n a2c : Nat) (u0 : UW) (R : Value → UW → Prop) : G_test_Cond.sh a0a a0b a0c a0d a0dn a0dc a0e a0en a0ec a0f a0g a0gn a0gc a1a a1b a1c a1d a1e a1f a1g a1h a1i a1j a1k a1l a2 a2n a2c u0 R = WF Try.prog 70 [3, 4] [] [(3, ⟨[], []⟩)] ((Try.f20.body).getD .skip) [.tmp 6, .tmp 7] [(.agg #[(.int .i64 a0a), (.bool a0b), (.string a0c), (.slice a0d a0dn a0dc), (.slice a0e a0en a0ec), (.bool a0f), (.slice a0g a0gn a0gc)]), (.agg #[(.int .i64 a1a), (.string a1b), (.int .i64 a1c), (.int .i64 a1d), (.string a1e), (.int .i64 a1f), (.int .i64 a1g), (.string a1h), (.int .i64 a1i), (.bool a1j), (.bool a1k), (.int .i64 a1l)]), (.slice a2 a2n a2c)] u0 R := by kernel_rfl

theorem G_test_Cond.fn (a0a : Int) (a0b : Bool) (a0c : ByteArray) (a0d : Option Addr) (a0dn a0dc : Nat) (a0e : Option Addr) (a0en a0ec : Nat) (a0f : Bool) (a0g : Option Addr) (a0gn a0gc : Nat) (a1a : Int) (a1b : ByteArray) (a1c : Int) (a1d : Int) (a1e : ByteArray) (a1f : Int) (a1g : Int) (a1h : ByteArray) (a1i : Int) (a1j : Bool) (a1k : Bool) (a1l : Int) (a2 : Option Addr) (a2n a2c : Nat) (w : World) (F : Nat → Prop) (R : Value → UW → Prop) (hF : ∀ b, F b → b < w.heap.size) (h : G_test_Cond.sh a0a a0b a0c a0d a0dn a0dc a0e a0en a0ec a0f a0g a0gn a0gc a1a a1b a1c a1d a1e a1f a1g a1h a1i a1j a1k a1l a2 a2n a2c ⟨w, F⟩ R) : FnB Try.prog 20 #[(.agg #[(.int .i64 a0a), (.bool a0b), (.string a0c), (.slice a0d a0dn a0dc), (.slice a0e a0en a0ec), (.bool a0f), (.slice a0g a0gn a0gc)]), (.agg #[(.int .i64 a1a), (.string a1b), (.int .i64 a1c), (.int .i64 a1d), (.string a1e), (.int .i64 a1f), (.int .i64 a1g), (.string a1h), (.int .i64 a1i), (.bool a1j), (.bool a1k), (.int .i64 a1l)]), (.slice a2 a2n a2c)] w F fun v lo w' => ∃ pub, (∀ b, pub b → F b ∨ lo ≤ b) ∧ R v ⟨w', pub⟩ :=
  WF_sound Try.func20 rfl rfl rfl (by kernel_rfl) hF (G_test_Cond.ok a0a a0b a0c a0d a0dn a0dc a0e a0en a0ec a0f a0g a0gn a0gc a1a a1b a1c a1d a1e a1f a1g a1h a1i a1j a1k a1l a2 a2n a2c ⟨w, F⟩ R ▸ h)

theorem G_test_Cond.a (a0a : Int) (a0b : Bool) (a0c : ByteArray) (a0d : Option Addr) (a0dn a0dc : Nat) (a0e : Option Addr) (a0en a0ec : Nat) (a0f : Bool) (a0g : Option Addr) (a0gn a0gc : Nat) (a1a : Int) (a1b : ByteArray) (a1c : Int) (a1d : Int) (a1e : ByteArray) (a1f : Int) (a1g : Int) (a1h : ByteArray) (a1i : Int) (a1j : Bool) (a1k : Bool) (a1l : Int) (a2 : Option Addr) (a2n a2c : Nat) (w : World) (K : Value → World → Prop) (h : G_test_Cond.sh a0a a0b a0c a0d a0dn a0dc a0e a0en a0ec a0f a0g a0gn a0gc a1a a1b a1c a1d a1e a1f a1g a1h a1i a1j a1k a1l a2 a2n a2c ⟨w, fun _ => False⟩ fun v u => K v u.toWorld) : FnA Try.prog 20 #[(.agg #[(.int .i64 a0a), (.bool a0b), (.string a0c), (.slice a0d a0dn a0dc), (.slice a0e a0en a0ec), (.bool a0f), (.slice a0g a0gn a0gc)]), (.agg #[(.int .i64 a1a), (.string a1b), (.int .i64 a1c), (.int .i64 a1d), (.string a1e), (.int .i64 a1f), (.int .i64 a1g), (.string a1h), (.int .i64 a1i), (.bool a1j), (.bool a1k), (.int .i64 a1l)]), (.slice a2 a2n a2c)] w K :=
  FnA.of Try.func20 rfl rfl rfl (by kernel_rfl) (G_test_Cond.ok a0a a0b a0c a0d a0dn a0dc a0e a0en a0ec a0f a0g a0gn a0gc a1a a1b a1c a1d a1e a1f a1g a1h a1i a1j a1k a1l a2 a2n a2c ⟨w, fun _ => False⟩ _ ▸ h)


/-- ponder/ponderref09.Cond -/
def G_ponderref09_Cond.sh (a0a : Int) (a0b : Bool) (a0c : ByteArray) (a0d : Option Addr) (a0dn a0dc : Nat) (a0e : Option Addr) (a0en a0ec : Nat) (a0f : Bool) (a0g : Option Addr) (a0gn a0gc : Nat) (a1a : Int) (a1b : ByteArray) (a1c : Int) (a1d : Int) (a1e : ByteArray) (a1f : Int) (a1g : Int) (a1h : ByteArray) (a1i : Int) (a1j : Bool) (a1k : Bool) (a1l : Int) (a2 : Option Addr) (a2n a2c : Nat) (u0 : UW) (R : Value → UW → Prop) : Prop :=
  CJoin (α := Unit) (fun J =>
    CIf ((a0a : Int) != (1))
    (CIf ((a0a : Int) != (2))
      (R (.tuple #[(.slice none 0 0), (.bool false)]) u0)
      (CIf a0b
        (CIf (!a1k)
          (R (.tuple #[(.slice none 0 0), (.bool false)]) u0)
          (CIf (!(a0f == a1j))
            (R (.tuple #[(.slice none 0 0), (.bool false)]) u0)
            (J () u0)))
        (CIf (!(a0f == a1j))
          (R (.tuple #[(.slice none 0 0), (.bool false)]) u0)
          (J () u0))))
    (CIf a0b
      (CIf (!a1k)
        (R (.tuple #[(.slice none 0 0), (.bool false)]) u0)
        (CIf (!(a0f == a1j))
          (R (.tuple #[(.slice none 0 0), (.bool false)]) u0)
          (J () u0)))
      (CIf (!(a0f == a1j))
        (R (.tuple #[(.slice none 0 0), (.bool false)]) u0)
        (J () u0))))
  (fun s u =>
    CallF Try.prog 15 #[(.agg #[(.int .i64 (1)), (.string a0c), (.int .i64 (0)), (.string ⟨#[]⟩), (.int .i64 (0)), (.slice none 0 0)]), (.agg #[(.int .i64 a1a), (.string a1b), (.int .i64 a1c)]), (.slice a2 a2n a2c)] u fun v u_1 =>
    ∃ (x40p : Option Addr) (x40pn x40pc : Nat), ∃ (x40q : Bool), v = (.tuple #[(.slice x40p x40pn x40pc), (.bool x40q)]) ∧
    CIf (!x40q)
    (R (.tuple #[(.slice none 0 0), (.bool false)]) u_1)
    (CallF Try.prog 33 #[(.slice a0d a0dn a0dc), (.agg #[(.int .i64 a1d), (.string a1e), (.int .i64 a1f)]), (.slice x40p x40pn x40pc)] u_1 fun v_1 u_2 =>
      ∃ (x51p : Option Addr) (x51pn x51pc : Nat), ∃ (x51q : Bool), v_1 = (.tuple #[(.slice x51p x51pn x51pc), (.bool x51q)]) ∧
      CIf (!x51q)
      (R (.tuple #[(.slice none 0 0), (.bool false)]) u_2)
      (CallF Try.prog 33 #[(.slice a0e a0en a0ec), (.agg #[(.int .i64 a1g), (.string a1h), (.int .i64 a1i)]), (.slice x51p x51pn x51pc)] u_2 fun v_2 u_3 =>
        ∃ (x61p : Option Addr) (x61pn x61pc : Nat), ∃ (x61q : Bool), v_2 = (.tuple #[(.slice x61p x61pn x61pc), (.bool x61q)]) ∧
        R (.tuple #[(.slice x61p x61pn x61pc), (.bool x61q)]) u_3)))

theorem G_ponderref09_Cond.ok (a0a : Int) (a0b : Bool) (a0c : ByteArray) (a0d : Option Addr) (a0dn a0dc : Nat) (a0e : Option Addr) (a0en a0ec : Nat) (a0f : Bool) (a0g : Option Addr) (a0gn a0gc : Nat) (a1a : Int) (a1b : ByteArray) (a1c : Int) (a1d : Int) (a1e : ByteArray) (a1f : Int) (a1g : Int) (a1h : ByteArray) (a1i : Int) (a1j : Bool) (a1k : Bool) (a1l : Int) (a2 : Option Addr) (a2n a2c : Nat) (u0 : UW) (R : Value → UW → Prop) : G_ponderref09_Cond.sh a0a a0b a0c a0d a0dn a0dc a0e a0en a0ec a0f a0g a0gn a0gc a1a a1b a1c a1d a1e a1f a1g a1h a1i a1j a1k a1l a2 a2n a2c u0 R = WF Try.prog 64 [3, 4] [] [(3, ⟨[], []⟩)] ((Try.f21.body).getD .skip) [.tmp 6, .tmp 7] [(.agg #[(.int .i64 a0a), (.bool a0b), (.string a0c), (.slice a0d a0dn a0dc), (.slice a0e a0en a0ec), (.bool a0f), (.slice a0g a0gn a0gc)]), (.agg #[(.int .i64 a1a), (.string a1b), (.int .i64 a1c), (.int .i64 a1d), (.string a1e), (.int .i64 a1f), (.int .i64 a1g), (.string a1h), (.int .i64 a1i), (.bool a1j), (.bool a1k), (.int .i64 a1l)]), (.slice a2 a2n a2c)] u0 R := by kernel_rfl

theorem G_ponderref09_Cond.fn (a0a : Int) (a0b : Bool) (a0c : ByteArray) (a0d : Option Addr) (a0dn a0dc : Nat) (a0e : Option Addr) (a0en a0ec : Nat) (a0f : Bool) (a0g : Option Addr) (a0gn a0gc : Nat) (a1a : Int) (a1b : ByteArray) (a1c : Int) (a1d : Int) (a1e : ByteArray) (a1f : Int) (a1g : Int) (a1h : ByteArray) (a1i : Int) (a1j : Bool) (a1k : Bool) (a1l : Int) (a2 : Option Addr) (a2n a2c : Nat) (w : World) (F : Nat → Prop) (R : Value → UW → Prop) (hF : ∀ b, F b → b < w.heap.size) (h : G_ponderref09_Cond.sh a0a a0b a0c a0d a0dn a0dc a0e a0en a0ec a0f a0g a0gn a0gc a1a a1b a1c a1d a1e a1f a1g a1h a1i a1j a1k a1l a2 a2n a2c ⟨w, F⟩ R) : FnB Try.prog 21 #[(.agg #[(.int .i64 a0a), (.bool a0b), (.string a0c), (.slice a0d a0dn a0dc), (.slice a0e a0en a0ec), (.bool a0f), (.slice a0g a0gn a0gc)]), (.agg #[(.int .i64 a1a), (.string a1b), (.int .i64 a1c), (.int .i64 a1d), (.string a1e), (.int .i64 a1f), (.int .i64 a1g), (.string a1h), (.int .i64 a1i), (.bool a1j), (.bool a1k), (.int .i64 a1l)]), (.slice a2 a2n a2c)] w F fun v lo w' => ∃ pub, (∀ b, pub b → F b ∨ lo ≤ b) ∧ R v ⟨w', pub⟩ :=
  WF_sound Try.func21 rfl rfl rfl (by kernel_rfl) hF (G_ponderref09_Cond.ok a0a a0b a0c a0d a0dn a0dc a0e a0en a0ec a0f a0g a0gn a0gc a1a a1b a1c a1d a1e a1f a1g a1h a1i a1j a1k a1l a2 a2n a2c ⟨w, F⟩ R ▸ h)

theorem G_ponderref09_Cond.a (a0a : Int) (a0b : Bool) (a0c : ByteArray) (a0d : Option Addr) (a0dn a0dc : Nat) (a0e : Option Addr) (a0en a0ec : Nat) (a0f : Bool) (a0g : Option Addr) (a0gn a0gc : Nat) (a1a : Int) (a1b : ByteArray) (a1c : Int) (a1d : Int) (a1e : ByteArray) (a1f : Int) (a1g : Int) (a1h : ByteArray) (a1i : Int) (a1j : Bool) (a1k : Bool) (a1l : Int) (a2 : Option Addr) (a2n a2c : Nat) (w : World) (K : Value → World → Prop) (h : G_ponderref09_Cond.sh a0a a0b a0c a0d a0dn a0dc a0e a0en a0ec a0f a0g a0gn a0gc a1a a1b a1c a1d a1e a1f a1g a1h a1i a1j a1k a1l a2 a2n a2c ⟨w, fun _ => False⟩ fun v u => K v u.toWorld) : FnA Try.prog 21 #[(.agg #[(.int .i64 a0a), (.bool a0b), (.string a0c), (.slice a0d a0dn a0dc), (.slice a0e a0en a0ec), (.bool a0f), (.slice a0g a0gn a0gc)]), (.agg #[(.int .i64 a1a), (.string a1b), (.int .i64 a1c), (.int .i64 a1d), (.string a1e), (.int .i64 a1f), (.int .i64 a1g), (.string a1h), (.int .i64 a1i), (.bool a1j), (.bool a1k), (.int .i64 a1l)]), (.slice a2 a2n a2c)] w K :=
  FnA.of Try.func21 rfl rfl rfl (by kernel_rfl) (G_ponderref09_Cond.ok a0a a0b a0c a0d a0dn a0dc a0e a0en a0ec a0f a0g a0gn a0gc a1a a1b a1c a1d a1e a1f a1g a1h a1i a1j a1k a1l a2 a2n a2c ⟨w, fun _ => False⟩ _ ▸ h)


/-- ponder/ponderkeep.HeavyConds -/
def G_ponderkeep_HeavyConds.sh (a0 : Option Addr) (a0n a0c : Nat) (u0 : UW) (R : Value → UW → Prop) : Prop :=
  LoopI (α := Int) (fun next s u =>
    CIf (decide ((s : Int) < ((a0n : Nat) : Int)))
    (withSl a0 fun b o =>
      (0 : Int) ≤ s ∧ s < ((a0n : Nat) : Int) ∧
      ∃ (x14a : Int), ∃ (x14b : Bool), ∃ (x14c : ByteArray), ∃ (x14d : Option Addr) (x14dn x14dc : Nat), ∃ (x14e : Option Addr) (x14en x14ec : Nat), ∃ (x14f : Bool), ∃ (x14g : Option Addr) (x14gn x14gc : Nat), rd u.heap b (o + Int.toNat s * 7) 7 = some [(.int .i64 x14a), (.bool x14b), (.string x14c), (.slice x14d x14dn x14dc), (.slice x14e x14en x14ec), (.bool x14f), (.slice x14g x14gn x14gc)] ∧
      CIf (decide ((((ByteArray.size x14c : Nat) : Int) : Int) > (100)))
      (R (.bool true) u)
      (CIf (decide ((((x14dn : Nat) : Int) : Int) > (10)))
        (R (.bool true) u)
        (CIf (decide ((((x14en : Nat) : Int) : Int) > (10)))
          (R (.bool true) u)
          (CallF Try.prog 36 #[(.slice x14d x14dn x14dc)] u fun v u_1 =>
            ∃ (x34 : Bool), v = (.bool x34) ∧
            CIf x34
            (R (.bool true) u_1)
            (CallF Try.prog 36 #[(.slice x14e x14en x14ec)] u_1 fun v_1 u_2 =>
              ∃ (x39 : Bool), v_1 = (.bool x39) ∧
              CIf x39
              (R (.bool true) u_2)
              (CallF Try.prog 30 #[(.slice x14g x14gn x14gc)] u_2 fun v_2 u_3 =>
                ∃ (x44 : Bool), v_2 = (.bool x44) ∧
                CIf x44
                (R (.bool true) u_3)
                (next (IntKind.wrap .i64 (s + (1))) u_3)))))))
    (R (.bool false) u))
  (0) u0

theorem G_ponderkeep_HeavyConds.ok (a0 : Option Addr) (a0n a0c : Nat) (u0 : UW) (R : Value → UW → Prop) : G_ponderkeep_HeavyConds.sh a0 a0n a0c u0 R = WF Try.prog 46 [4] [(2, ⟨[(3, .one (.int .i64))], []⟩)] [] ((Try.f30.body).getD .skip) [.tmp 2] [(.slice a0 a0n a0c)] u0 R := by kernel_rfl

theorem G_ponderkeep_HeavyConds.fn (a0 : Option Addr) (a0n a0c : Nat) (w : World) (F : Nat → Prop) (R : Value → UW → Prop) (hF : ∀ b, F b → b < w.heap.size) (h : G_ponderkeep_HeavyConds.sh a0 a0n a0c ⟨w, F⟩ R) : FnB Try.prog 30 #[(.slice a0 a0n a0c)] w F fun v lo w' => ∃ pub, (∀ b, pub b → F b ∨ lo ≤ b) ∧ R v ⟨w', pub⟩ :=
  WF_sound Try.func30 rfl rfl rfl (by kernel_rfl) hF (G_ponderkeep_HeavyConds.ok a0 a0n a0c ⟨w, F⟩ R ▸ h)

theorem G_ponderkeep_HeavyConds.a (a0 : Option Addr) (a0n a0c : Nat) (w : World) (K : Value → World → Prop) (h : G_ponderkeep_HeavyConds.sh a0 a0n a0c ⟨w, fun _ => False⟩ fun v u => K v u.toWorld) : FnA Try.prog 30 #[(.slice a0 a0n a0c)] w K :=
  FnA.of Try.func30 rfl rfl rfl (by kernel_rfl) (G_ponderkeep_HeavyConds.ok a0 a0n a0c ⟨w, fun _ => False⟩ _ ▸ h)


/-- ponder/ponderkeep.Size -/
def G_ponderkeep_Size.sh (a0 : Option Addr) (a0n a0c : Nat) (a1 : Int) (a2 : Int) (u0 : UW) (R : Value → UW → Prop) : Prop :=
  CIf (decide ((a2 : Int) > (20)))
  (R (.int .i64 (IntKind.wrap .i64 (a1 + (1)))) u0)
  (CJoin (α := Int) (fun J =>
      LoopI (α := Int × Int) (fun next s_1 u_1 =>
        CIf (decide ((s_1.2 : Int) < ((a0n : Nat) : Int)))
        (CIf (decide ((s_1.1 : Int) ≤ a1))
          (withSl a0 fun b o =>
            (0 : Int) ≤ s_1.2 ∧ s_1.2 < ((a0n : Nat) : Int) ∧
            ∃ (x29 : Option Addr) (x29n x29c : Nat), rd u_1.heap b ((o + Int.toNat s_1.2 * 7) + 6) 1 = some [(.slice x29 x29n x29c)] ∧
            CallF Try.prog 31 #[(.slice x29 x29n x29c), (.int .i64 a1), (.int .i64 (IntKind.wrap .i64 (a2 + (1))))] u_1 fun v u_2 =>
            ∃ (x33 : Int), v = (.int .i64 x33) ∧
            next ((IntKind.wrap .i64 (s_1.1 + (IntKind.wrap .i64 ((1) + x33)))), (IntKind.wrap .i64 (s_1.2 + (1)))) u_2)
          (J s_1.1 u_1))
        (J s_1.1 u_1))
      ((0), (0)) u0)
    (fun s u =>
      R (.int .i64 (if (IntKind.wrap .i64 (a1 + (1))) < s then (IntKind.wrap .i64 (a1 + (1))) else s)) u))

theorem G_ponderkeep_Size.ok (a0 : Option Addr) (a0n a0c : Nat) (a1 : Int) (a2 : Int) (u0 : UW) (R : Value → UW → Prop) : G_ponderkeep_Size.sh a0 a0n a0c a1 a2 u0 R = WF Try.prog 40 [] [(5, ⟨[(7, .one (.int .i64)), (8, .one (.int .i64))], []⟩)] [(8, ⟨[(7, .one (.int .i64))], []⟩)] ((Try.f31.body).getD .skip) [.tmp 6] [(.slice a0 a0n a0c), (.int .i64 a1), (.int .i64 a2)] u0 R := by kernel_rfl

theorem G_ponderkeep_Size.fn (a0 : Option Addr) (a0n a0c : Nat) (a1 : Int) (a2 : Int) (w : World) (F : Nat → Prop) (R : Value → UW → Prop) (hF : ∀ b, F b → b < w.heap.size) (h : G_ponderkeep_Size.sh a0 a0n a0c a1 a2 ⟨w, F⟩ R) : FnB Try.prog 31 #[(.slice a0 a0n a0c), (.int .i64 a1), (.int .i64 a2)] w F fun v lo w' => ∃ pub, (∀ b, pub b → F b ∨ lo ≤ b) ∧ R v ⟨w', pub⟩ :=
  WF_sound Try.func31 rfl rfl rfl (by kernel_rfl) hF (G_ponderkeep_Size.ok a0 a0n a0c a1 a2 ⟨w, F⟩ R ▸ h)

theorem G_ponderkeep_Size.a (a0 : Option Addr) (a0n a0c : Nat) (a1 : Int) (a2 : Int) (w : World) (K : Value → World → Prop) (h : G_ponderkeep_Size.sh a0 a0n a0c a1 a2 ⟨w, fun _ => False⟩ fun v u => K v u.toWorld) : FnA Try.prog 31 #[(.slice a0 a0n a0c), (.int .i64 a1), (.int .i64 a2)] w K :=
  FnA.of Try.func31 rfl rfl rfl (by kernel_rfl) (G_ponderkeep_Size.ok a0 a0n a0c a1 a2 ⟨w, fun _ => False⟩ _ ▸ h)


/-- ponder/ponderkeep.heavyTests -/
def G_ponderkeep_heavyTests.sh (a0 : Option Addr) (a0n a0c : Nat) (u0 : UW) (R : Value → UW → Prop) : Prop :=
  LoopI (α := Int) (fun next s u =>
    CIf (decide ((s : Int) < ((a0n : Nat) : Int)))
    (withSl a0 fun b o =>
      (0 : Int) ≤ s ∧ s < ((a0n : Nat) : Int) ∧
      ∃ (x14 : Option Addr) (x14n x14c : Nat), rd u.heap b ((o + Int.toNat s * 6) + 5) 1 = some [(.slice x14 x14n x14c)] ∧
      CIf (decide ((((x14n : Nat) : Int) : Int) > (20)))
      (R (.bool true) u)
      (withSl a0 fun b_1 o_1 =>
        (0 : Int) ≤ s ∧ s < ((a0n : Nat) : Int) ∧
        ∃ (x22 : ByteArray), rd u.heap b_1 ((o_1 + Int.toNat s * 6) + 1) 1 = some [(.string x22)] ∧
        CIf (decide ((((ByteArray.size x22 : Nat) : Int) : Int) > (100)))
        (R (.bool true) u)
        (withSl a0 fun b_2 o_2 =>
          (0 : Int) ≤ s ∧ s < ((a0n : Nat) : Int) ∧
          ∃ (x32 : ByteArray), rd u.heap b_2 (((o_2 + Int.toNat s * 6) + 2) + 1) 1 = some [(.string x32)] ∧
          CIf (decide ((((ByteArray.size x32 : Nat) : Int) : Int) > (100)))
          (R (.bool true) u)
          (next (IntKind.wrap .i64 (s + (1))) u))))
    (R (.bool false) u))
  (0) u0

theorem G_ponderkeep_heavyTests.ok (a0 : Option Addr) (a0n a0c : Nat) (u0 : UW) (R : Value → UW → Prop) : G_ponderkeep_heavyTests.sh a0 a0n a0c u0 R = WF Try.prog 36 [] [(2, ⟨[(3, .one (.int .i64))], []⟩)] [] ((Try.f36.body).getD .skip) [.tmp 2] [(.slice a0 a0n a0c)] u0 R := by kernel_rfl

theorem G_ponderkeep_heavyTests.fn (a0 : Option Addr) (a0n a0c : Nat) (w : World) (F : Nat → Prop) (R : Value → UW → Prop) (hF : ∀ b, F b → b < w.heap.size) (h : G_ponderkeep_heavyTests.sh a0 a0n a0c ⟨w, F⟩ R) : FnB Try.prog 36 #[(.slice a0 a0n a0c)] w F fun v lo w' => ∃ pub, (∀ b, pub b → F b ∨ lo ≤ b) ∧ R v ⟨w', pub⟩ :=
  WF_sound Try.func36 rfl rfl rfl (by kernel_rfl) hF (G_ponderkeep_heavyTests.ok a0 a0n a0c ⟨w, F⟩ R ▸ h)

theorem G_ponderkeep_heavyTests.a (a0 : Option Addr) (a0n a0c : Nat) (w : World) (K : Value → World → Prop) (h : G_ponderkeep_heavyTests.sh a0 a0n a0c ⟨w, fun _ => False⟩ fun v u => K v u.toWorld) : FnA Try.prog 36 #[(.slice a0 a0n a0c)] w K :=
  FnA.of Try.func36 rfl rfl rfl (by kernel_rfl) (G_ponderkeep_heavyTests.ok a0 a0n a0c ⟨w, fun _ => False⟩ _ ▸ h)


/-- ponder/ponderlaw09.heavy -/
def G_ponderlaw09_heavy.sh (a0a : Int) (a0b : Bool) (a0c : ByteArray) (a0d : Option Addr) (a0dn a0dc : Nat) (a0e : Option Addr) (a0en a0ec : Nat) (a0f : Bool) (a0g : Option Addr) (a0gn a0gc : Nat) (a1 : Option Addr) (a1n a1c : Nat) (u0 : UW) (R : Value → UW → Prop) : Prop :=
  CIf (decide ((((a1n : Nat) : Int) : Int) > (40)))
  (R (.bool true) u0)
  (CIf (decide ((((a0dn : Nat) : Int) : Int) > (10)))
    (R (.bool true) u0)
    (CIf (decide ((((a0en : Nat) : Int) : Int) > (10)))
      (R (.bool true) u0)
      (∀ (b21 : Nat) (w : World), Born u0.toWorld w b21 (.cells #[(.int .i64 a0a), (.bool a0b), (.string a0c), (.slice a0d a0dn a0dc), (.slice a0e a0en a0ec), (.bool a0f), (.slice a0g a0gn a0gc)] 45 (0, 0)) →
        CallF Try.prog 30 #[(.slice (some ⟨b21, 0, none⟩) 1 1)] (UW.born u0 b21 w) fun v u =>
        ∃ (x22 : Bool), v = (.bool x22) ∧
        CIf x22
        (R (.bool true) u)
        (∀ (b25 : Nat) (w_1 : World), Born u.toWorld w_1 b25 (.cells #[(.int .i64 a0a), (.bool a0b), (.string a0c), (.slice a0d a0dn a0dc), (.slice a0e a0en a0ec), (.bool a0f), (.slice a0g a0gn a0gc)] 45 (0, 0)) →
          CallF Try.prog 31 #[(.slice (some ⟨b25, 0, none⟩) 1 1), (.int .i64 (20)), (.int .i64 (0))] (UW.born u b25 w_1) fun v_1 u_1 =>
          ∃ (x26 : Int), v_1 = (.int .i64 x26) ∧
          R (.bool (decide ((x26 : Int) > (20)))) u_1))))

theorem G_ponderlaw09_heavy.ok (a0a : Int) (a0b : Bool) (a0c : ByteArray) (a0d : Option Addr) (a0dn a0dc : Nat) (a0e : Option Addr) (a0en a0ec : Nat) (a0f : Bool) (a0g : Option Addr) (a0gn a0gc : Nat) (a1 : Option Addr) (a1n a1c : Nat) (u0 : UW) (R : Value → UW → Prop) : G_ponderlaw09_heavy.sh a0a a0b a0c a0d a0dn a0dc a0e a0en a0ec a0f a0g a0gn a0gc a1 a1n a1c u0 R = WF Try.prog 29 [2] [] [] ((Try.f19.body).getD .skip) [.tmp 4] [(.agg #[(.int .i64 a0a), (.bool a0b), (.string a0c), (.slice a0d a0dn a0dc), (.slice a0e a0en a0ec), (.bool a0f), (.slice a0g a0gn a0gc)]), (.slice a1 a1n a1c)] u0 R := by kernel_rfl

theorem G_ponderlaw09_heavy.fn (a0a : Int) (a0b : Bool) (a0c : ByteArray) (a0d : Option Addr) (a0dn a0dc : Nat) (a0e : Option Addr) (a0en a0ec : Nat) (a0f : Bool) (a0g : Option Addr) (a0gn a0gc : Nat) (a1 : Option Addr) (a1n a1c : Nat) (w : World) (F : Nat → Prop) (R : Value → UW → Prop) (hF : ∀ b, F b → b < w.heap.size) (h : G_ponderlaw09_heavy.sh a0a a0b a0c a0d a0dn a0dc a0e a0en a0ec a0f a0g a0gn a0gc a1 a1n a1c ⟨w, F⟩ R) : FnB Try.prog 19 #[(.agg #[(.int .i64 a0a), (.bool a0b), (.string a0c), (.slice a0d a0dn a0dc), (.slice a0e a0en a0ec), (.bool a0f), (.slice a0g a0gn a0gc)]), (.slice a1 a1n a1c)] w F fun v lo w' => ∃ pub, (∀ b, pub b → F b ∨ lo ≤ b) ∧ R v ⟨w', pub⟩ :=
  WF_sound Try.func19 rfl rfl rfl (by kernel_rfl) hF (G_ponderlaw09_heavy.ok a0a a0b a0c a0d a0dn a0dc a0e a0en a0ec a0f a0g a0gn a0gc a1 a1n a1c ⟨w, F⟩ R ▸ h)

theorem G_ponderlaw09_heavy.a (a0a : Int) (a0b : Bool) (a0c : ByteArray) (a0d : Option Addr) (a0dn a0dc : Nat) (a0e : Option Addr) (a0en a0ec : Nat) (a0f : Bool) (a0g : Option Addr) (a0gn a0gc : Nat) (a1 : Option Addr) (a1n a1c : Nat) (w : World) (K : Value → World → Prop) (h : G_ponderlaw09_heavy.sh a0a a0b a0c a0d a0dn a0dc a0e a0en a0ec a0f a0g a0gn a0gc a1 a1n a1c ⟨w, fun _ => False⟩ fun v u => K v u.toWorld) : FnA Try.prog 19 #[(.agg #[(.int .i64 a0a), (.bool a0b), (.string a0c), (.slice a0d a0dn a0dc), (.slice a0e a0en a0ec), (.bool a0f), (.slice a0g a0gn a0gc)]), (.slice a1 a1n a1c)] w K :=
  FnA.of Try.func19 rfl rfl rfl (by kernel_rfl) (G_ponderlaw09_heavy.ok a0a a0b a0c a0d a0dn a0dc a0e a0en a0ec a0f a0g a0gn a0gc a1 a1n a1c ⟨w, fun _ => False⟩ _ ▸ h)


/-- ponder/ponderlaw09.wakes -/
def G_ponderlaw09_wakes.sh  (u0 : UW) (R : Value → UW → Prop) : Prop :=
  CallF Try.prog 25 #[(.string ⟨#[83]⟩), (.int .i64 (1))] u0 fun v u =>
  ∃ (x8a : Int), ∃ (x8b : ByteArray), ∃ (x8c : Int), v = (.agg #[(.int .i64 x8a), (.string x8b), (.int .i64 x8c)]) ∧
  CallF Try.prog 25 #[(.string ⟨#[83]⟩), (.int .i64 (2))] u fun v_1 u_1 =>
  ∃ (x9a : Int), ∃ (x9b : ByteArray), ∃ (x9c : Int), v_1 = (.agg #[(.int .i64 x9a), (.string x9b), (.int .i64 x9c)]) ∧
  ∀ (b11 : Nat) (w : World), Born u_1.toWorld w b11 (.cells #[(.string ⟨#[120]⟩), (.int .i64 x9a), (.string x9b), (.int .i64 x9c)] 34 (0, 0)) →
  CallF Try.prog 14 #[(.agg #[(.int .i64 (2)), (.string ⟨#[120]⟩), (.int .i64 (0)), (.string ⟨#[]⟩), (.int .i64 (0)), (.slice none 0 0)]), (.agg #[(.int .i64 x8a), (.string x8b), (.int .i64 x8c)]), (.slice (some ⟨b11, 0, none⟩) 1 1)] (UW.born u_1 b11 w) fun v_2 u_2 =>
  ∃ (x12p : Option Addr) (x12pn x12pc : Nat), ∃ (x12q : Bool), v_2 = (.tuple #[(.slice x12p x12pn x12pc), (.bool x12q)]) ∧
  CallF Try.prog 26 #[(.string ⟨#[120]⟩)] u_2 fun v_3 u_3 =>
  ∃ (x15a : Int), ∃ (x15b : ByteArray), ∃ (x15c : Int), v_3 = (.agg #[(.int .i64 x15a), (.string x15b), (.int .i64 x15c)]) ∧
  ∀ (b17 : Nat) (w_1 : World), Born u_3.toWorld w_1 b17 (.cells #[(.int .i64 (1)), (.string ⟨#[]⟩), (.int .i64 x15a), (.string x15b), (.int .i64 x15c), (.slice none 0 0)] 30 (0, 0)) →
  ∀ (b19 : Nat) (w_2 : World), Born (UW.born u_3 b17 w_1).toWorld w_2 b19 (.cells #[(.int .i64 (1)), (.string ⟨#[115]⟩), (.int .i64 (0)), (.string ⟨#[]⟩), (.int .i64 (0)), (.slice none 0 0)] 30 (0, 0)) →
  CallF Try.prog 25 #[(.string ⟨#[83]⟩), (.int .i64 (1))] (UW.born (UW.born u_3 b17 w_1) b19 w_2) fun v_4 u_4 =>
  ∃ (x23a : Int), ∃ (x23b : ByteArray), ∃ (x23c : Int), v_4 = (.agg #[(.int .i64 x23a), (.string x23b), (.int .i64 x23c)]) ∧
  Same (UW.born (UW.born u_3 b17 w_1) b19 w_2) u_4 ∧
  CallF Try.prog 26 #[(.string ⟨#[120]⟩)] u_4 fun v_5 u_5 =>
  ∃ (x24a : Int), ∃ (x24b : ByteArray), ∃ (x24c : Int), v_5 = (.agg #[(.int .i64 x24a), (.string x24b), (.int .i64 x24c)]) ∧
  Same (UW.born (UW.born u_3 b17 w_1) b19 w_2) u_5 ∧
  CallF Try.prog 25 #[(.string ⟨#[83]⟩), (.int .i64 (1))] u_5 fun v_6 u_6 =>
  ∃ (x25a : Int), ∃ (x25b : ByteArray), ∃ (x25c : Int), v_6 = (.agg #[(.int .i64 x25a), (.string x25b), (.int .i64 x25c)]) ∧
  Same (UW.born (UW.born u_3 b17 w_1) b19 w_2) u_6 ∧
  CallF Try.prog 20 #[(.agg #[(.int .i64 (1)), (.bool false), (.string ⟨#[115]⟩), (.slice (some ⟨b17, 0, none⟩) 1 1), (.slice (some ⟨b19, 0, none⟩) 1 1), (.bool false), (.slice none 0 0)]), (.agg #[(.int .i64 x23a), (.string x23b), (.int .i64 x23c), (.int .i64 x24a), (.string x24b), (.int .i64 x24c), (.int .i64 x25a), (.string x25b), (.int .i64 x25c), (.bool false), (.bool false), (.int .i64 (0))]), (.slice none 0 0)] u_6 fun v_7 u_7 =>
  ∃ (x27p : Option Addr) (x27pn x27pc : Nat), ∃ (x27q : Bool), v_7 = (.tuple #[(.slice x27p x27pn x27pc), (.bool x27q)]) ∧
  Same (UW.born (UW.born u_3 b17 w_1) b19 w_2) u_7 ∧
  CIf x12q
  (CIf x27q
    (CIf ((((x27pn : Nat) : Int) : Int) == (1))
      (withSl x27p fun b o =>
        (0 : Int) ≤ (0) ∧ (0) < ((x27pn : Nat) : Int) ∧
        ∃ (x43a : Int), ∃ (x43b : ByteArray), ∃ (x43c : Int), rd u_7.heap b ((o + Int.toNat (0) * 4) + 1) 3 = some [(.int .i64 x43a), (.string x43b), (.int .i64 x43c)] ∧
        CallF Try.prog 25 #[(.string ⟨#[83]⟩), (.int .i64 (1))] u_7 fun v_8 u_8 =>
        ∃ (x44a : Int), ∃ (x44b : ByteArray), ∃ (x44c : Int), v_8 = (.agg #[(.int .i64 x44a), (.string x44b), (.int .i64 x44c)]) ∧
        Same u_7 u_8 ∧
        R (.bool ((x43a == x44a) && (strEq x43b x44b && ((x43c == x44c) && true)))) u_8)
      (R (.bool false) u_7))
    (R (.bool false) u_7))
  (R (.bool false) u_7)

theorem G_ponderlaw09_wakes.ok  (u0 : UW) (R : Value → UW → Prop) : G_ponderlaw09_wakes.sh  u0 R = WF Try.prog 47 [3] [] [] ((Try.f11.body).getD .skip) [.tmp 0] [] u0 R := by kernel_rfl

theorem G_ponderlaw09_wakes.fn  (w : World) (F : Nat → Prop) (R : Value → UW → Prop) (hF : ∀ b, F b → b < w.heap.size) (h : G_ponderlaw09_wakes.sh  ⟨w, F⟩ R) : FnB Try.prog 11 #[] w F fun v lo w' => ∃ pub, (∀ b, pub b → F b ∨ lo ≤ b) ∧ R v ⟨w', pub⟩ :=
  WF_sound Try.func11 rfl rfl rfl (by kernel_rfl) hF (G_ponderlaw09_wakes.ok  ⟨w, F⟩ R ▸ h)

theorem G_ponderlaw09_wakes.a  (w : World) (K : Value → World → Prop) (h : G_ponderlaw09_wakes.sh  ⟨w, fun _ => False⟩ fun v u => K v u.toWorld) : FnA Try.prog 11 #[] w K :=
  FnA.of Try.func11 rfl rfl rfl (by kernel_rfl) (G_ponderlaw09_wakes.ok  ⟨w, fun _ => False⟩ _ ▸ h)


/-- ponder/ponderlaw09.TestHolds -/
def G_ponderlaw09_TestHolds.sh (a0 : Int) (a1a : Int) (a1b : ByteArray) (a1c : Int) (a2a : Int) (a2b : ByteArray) (a2c : Int) (u0 : UW) (R : Value → UW → Prop) : Prop :=
  CallF Try.prog 9 #[(.int .i64 a0), (.agg #[(.int .i64 a1a), (.string a1b), (.int .i64 a1c)]), (.agg #[(.int .i64 a2a), (.string a2b), (.int .i64 a2c)])] u0 fun v u =>
  ∃ (x10 : Bool), v = (.bool x10) ∧
  Same u0 u ∧
  CallF Try.prog 10 #[(.int .i64 a0), (.agg #[(.int .i64 a1a), (.string a1b), (.int .i64 a1c)]), (.agg #[(.int .i64 a2a), (.string a2b), (.int .i64 a2c)])] u fun v_1 u_1 =>
  ∃ (x14 : Bool), v_1 = (.bool x14) ∧
  Same u0 u_1 ∧
  CIf (x10 == x14)
  (CallF Try.prog 11 #[] u_1 fun v_2 u_2 =>
    ∃ (x17 : Bool), v_2 = (.bool x17) ∧
    Same u0 u_2 ∧
    R (.bool x17) u_2)
  (R (.bool false) u_1)

theorem G_ponderlaw09_TestHolds.ok (a0 : Int) (a1a : Int) (a1b : ByteArray) (a1c : Int) (a2a : Int) (a2b : ByteArray) (a2c : Int) (u0 : UW) (R : Value → UW → Prop) : G_ponderlaw09_TestHolds.sh a0 a1a a1b a1c a2a a2b a2c u0 R = WF Try.prog 19 [4, 5] [] [] ((Try.f3.body).getD .skip) [.tmp 6] [(.int .i64 a0), (.agg #[(.int .i64 a1a), (.string a1b), (.int .i64 a1c)]), (.agg #[(.int .i64 a2a), (.string a2b), (.int .i64 a2c)])] u0 R := by kernel_rfl

theorem G_ponderlaw09_TestHolds.fn (a0 : Int) (a1a : Int) (a1b : ByteArray) (a1c : Int) (a2a : Int) (a2b : ByteArray) (a2c : Int) (w : World) (F : Nat → Prop) (R : Value → UW → Prop) (hF : ∀ b, F b → b < w.heap.size) (h : G_ponderlaw09_TestHolds.sh a0 a1a a1b a1c a2a a2b a2c ⟨w, F⟩ R) : FnB Try.prog 3 #[(.int .i64 a0), (.agg #[(.int .i64 a1a), (.string a1b), (.int .i64 a1c)]), (.agg #[(.int .i64 a2a), (.string a2b), (.int .i64 a2c)])] w F fun v lo w' => ∃ pub, (∀ b, pub b → F b ∨ lo ≤ b) ∧ R v ⟨w', pub⟩ :=
  WF_sound Try.func3 rfl rfl rfl (by kernel_rfl) hF (G_ponderlaw09_TestHolds.ok a0 a1a a1b a1c a2a a2b a2c ⟨w, F⟩ R ▸ h)

theorem G_ponderlaw09_TestHolds.a (a0 : Int) (a1a : Int) (a1b : ByteArray) (a1c : Int) (a2a : Int) (a2b : ByteArray) (a2c : Int) (w : World) (K : Value → World → Prop) (h : G_ponderlaw09_TestHolds.sh a0 a1a a1b a1c a2a a2b a2c ⟨w, fun _ => False⟩ fun v u => K v u.toWorld) : FnA Try.prog 3 #[(.int .i64 a0), (.agg #[(.int .i64 a1a), (.string a1b), (.int .i64 a1c)]), (.agg #[(.int .i64 a2a), (.string a2b), (.int .i64 a2c)])] w K :=
  FnA.of Try.func3 rfl rfl rfl (by kernel_rfl) (G_ponderlaw09_TestHolds.ok a0 a1a a1b a1c a2a a2b a2c ⟨w, fun _ => False⟩ _ ▸ h)


/-- ponder/ponderlaw09.TestOrders -/
def G_ponderlaw09_TestOrders.sh (a0 : Int) (a1 : Int) (a2a : Int) (a2b : ByteArray) (a2c : Int) (u0 : UW) (R : Value → UW → Prop) : Prop :=
  CallF Try.prog 12 #[(.int .i64 a0)] u0 fun v u =>
  ∃ (x13a : Int), ∃ (x13b : ByteArray), ∃ (x13c : Int), v = (.agg #[(.int .i64 x13a), (.string x13b), (.int .i64 x13c)]) ∧
  CallF Try.prog 12 #[(.int .i64 a1)] u fun v_1 u_1 =>
  ∃ (x15a : Int), ∃ (x15b : ByteArray), ∃ (x15c : Int), v_1 = (.agg #[(.int .i64 x15a), (.string x15b), (.int .i64 x15c)]) ∧
  CallF Try.prog 9 #[(.int .i64 (3)), (.agg #[(.int .i64 x13a), (.string x13b), (.int .i64 x13c)]), (.agg #[(.int .i64 x15a), (.string x15b), (.int .i64 x15c)])] u_1 fun v_2 u_2 =>
  ∃ (x18 : Bool), v_2 = (.bool x18) ∧
  Same u_1 u_2 ∧
  CallF Try.prog 9 #[(.int .i64 (5)), (.agg #[(.int .i64 x13a), (.string x13b), (.int .i64 x13c)]), (.agg #[(.int .i64 x15a), (.string x15b), (.int .i64 x15c)])] u_2 fun v_3 u_3 =>
  ∃ (x21 : Bool), v_3 = (.bool x21) ∧
  Same u_1 u_3 ∧
  CallF Try.prog 9 #[(.int .i64 (1)), (.agg #[(.int .i64 x13a), (.string x13b), (.int .i64 x13c)]), (.agg #[(.int .i64 x15a), (.string x15b), (.int .i64 x15c)])] u_3 fun v_4 u_4 =>
  ∃ (x24 : Bool), v_4 = (.bool x24) ∧
  Same u_1 u_4 ∧
  CJoin (α := Unit) (fun J =>
    CIf x18
    (CIf x21
      (R (.bool false) u_4)
      (CIf x18
        (CIf x24
          (R (.bool false) u_4)
          (CIf x21
            (CIf x24
              (R (.bool false) u_4)
              (CIf (!x18)
                (CIf (!x21)
                  (CIf (!x24)
                    (R (.bool false) u_4)
                    (J () u_4))
                  (J () u_4))
                (J () u_4)))
            (CIf (!x18)
              (CIf (!x21)
                (CIf (!x24)
                  (R (.bool false) u_4)
                  (J () u_4))
                (J () u_4))
              (J () u_4))))
        (CIf x21
          (CIf x24
            (R (.bool false) u_4)
            (CIf (!x18)
              (CIf (!x21)
                (CIf (!x24)
                  (R (.bool false) u_4)
                  (J () u_4))
                (J () u_4))
              (J () u_4)))
          (CIf (!x18)
            (CIf (!x21)
              (CIf (!x24)
                (R (.bool false) u_4)
                (J () u_4))
              (J () u_4))
            (J () u_4)))))
    (CIf x18
      (CIf x24
        (R (.bool false) u_4)
        (CIf x21
          (CIf x24
            (R (.bool false) u_4)
            (CIf (!x18)
              (CIf (!x21)
                (CIf (!x24)
                  (R (.bool false) u_4)
                  (J () u_4))
                (J () u_4))
              (J () u_4)))
          (CIf (!x18)
            (CIf (!x21)
              (CIf (!x24)
                (R (.bool false) u_4)
                (J () u_4))
              (J () u_4))
            (J () u_4))))
      (CIf x21
        (CIf x24
          (R (.bool false) u_4)
          (CIf (!x18)
            (CIf (!x21)
              (CIf (!x24)
                (R (.bool false) u_4)
                (J () u_4))
              (J () u_4))
            (J () u_4)))
        (CIf (!x18)
          (CIf (!x21)
            (CIf (!x24)
              (R (.bool false) u_4)
              (J () u_4))
            (J () u_4))
          (J () u_4)))))
  (fun s u_5 =>
    CJoin (α := Unit) (fun J_1 =>
      CallF Try.prog 9 #[(.int .i64 (4)), (.agg #[(.int .i64 x13a), (.string x13b), (.int .i64 x13c)]), (.agg #[(.int .i64 x15a), (.string x15b), (.int .i64 x15c)])] u_5 fun v_5 u_7 =>
      ∃ (x55 : Bool), v_5 = (.bool x55) ∧
      CIf x18
      (CIf (!(x55 == true))
        (R (.bool false) u_7)
        (CallF Try.prog 9 #[(.int .i64 (6)), (.agg #[(.int .i64 x13a), (.string x13b), (.int .i64 x13c)]), (.agg #[(.int .i64 x15a), (.string x15b), (.int .i64 x15c)])] u_7 fun v_6 u_8 =>
          ∃ (x64 : Bool), v_6 = (.bool x64) ∧
          CIf x21
          (CIf (!(x64 == true))
            (R (.bool false) u_8)
            (CallF Try.prog 9 #[(.int .i64 (2)), (.agg #[(.int .i64 x13a), (.string x13b), (.int .i64 x13c)]), (.agg #[(.int .i64 x15a), (.string x15b), (.int .i64 x15c)])] u_8 fun v_7 u_9 =>
              ∃ (x74 : Bool), v_7 = (.bool x74) ∧
              CIf (x74 == x24)
              (R (.bool false) u_9)
              (CallF Try.prog 9 #[(.int .i64 (7)), (.agg #[(.int .i64 x13a), (.string x13b), (.int .i64 x13c)]), (.agg #[(.int .i64 x15a), (.string x15b), (.int .i64 x15c)])] u_9 fun v_8 u_10 =>
                ∃ (x81 : Bool), v_8 = (.bool x81) ∧
                CIf (!x81)
                (R (.bool false) u_10)
                (J_1 () u_10))))
          (CIf (!(x64 == x24))
            (R (.bool false) u_8)
            (CallF Try.prog 9 #[(.int .i64 (2)), (.agg #[(.int .i64 x13a), (.string x13b), (.int .i64 x13c)]), (.agg #[(.int .i64 x15a), (.string x15b), (.int .i64 x15c)])] u_8 fun v_9 u_11 =>
              ∃ (x74_1 : Bool), v_9 = (.bool x74_1) ∧
              CIf (x74_1 == x24)
              (R (.bool false) u_11)
              (CallF Try.prog 9 #[(.int .i64 (7)), (.agg #[(.int .i64 x13a), (.string x13b), (.int .i64 x13c)]), (.agg #[(.int .i64 x15a), (.string x15b), (.int .i64 x15c)])] u_11 fun v_10 u_12 =>
                ∃ (x81_1 : Bool), v_10 = (.bool x81_1) ∧
                CIf (!x81_1)
                (R (.bool false) u_12)
                (J_1 () u_12))))))
      (CIf (!(x55 == x24))
        (R (.bool false) u_7)
        (CallF Try.prog 9 #[(.int .i64 (6)), (.agg #[(.int .i64 x13a), (.string x13b), (.int .i64 x13c)]), (.agg #[(.int .i64 x15a), (.string x15b), (.int .i64 x15c)])] u_7 fun v_11 u_13 =>
          ∃ (x64_1 : Bool), v_11 = (.bool x64_1) ∧
          CIf x21
          (CIf (!(x64_1 == true))
            (R (.bool false) u_13)
            (CallF Try.prog 9 #[(.int .i64 (2)), (.agg #[(.int .i64 x13a), (.string x13b), (.int .i64 x13c)]), (.agg #[(.int .i64 x15a), (.string x15b), (.int .i64 x15c)])] u_13 fun v_12 u_14 =>
              ∃ (x74_2 : Bool), v_12 = (.bool x74_2) ∧
              CIf (x74_2 == x24)
              (R (.bool false) u_14)
              (CallF Try.prog 9 #[(.int .i64 (7)), (.agg #[(.int .i64 x13a), (.string x13b), (.int .i64 x13c)]), (.agg #[(.int .i64 x15a), (.string x15b), (.int .i64 x15c)])] u_14 fun v_13 u_15 =>
                ∃ (x81_2 : Bool), v_13 = (.bool x81_2) ∧
                CIf (!x81_2)
                (R (.bool false) u_15)
                (J_1 () u_15))))
          (CIf (!(x64_1 == x24))
            (R (.bool false) u_13)
            (CallF Try.prog 9 #[(.int .i64 (2)), (.agg #[(.int .i64 x13a), (.string x13b), (.int .i64 x13c)]), (.agg #[(.int .i64 x15a), (.string x15b), (.int .i64 x15c)])] u_13 fun v_14 u_16 =>
              ∃ (x74_3 : Bool), v_14 = (.bool x74_3) ∧
              CIf (x74_3 == x24)
              (R (.bool false) u_16)
              (CallF Try.prog 9 #[(.int .i64 (7)), (.agg #[(.int .i64 x13a), (.string x13b), (.int .i64 x13c)]), (.agg #[(.int .i64 x15a), (.string x15b), (.int .i64 x15c)])] u_16 fun v_15 u_17 =>
                ∃ (x81_3 : Bool), v_15 = (.bool x81_3) ∧
                CIf (!x81_3)
                (R (.bool false) u_17)
                (J_1 () u_17)))))))
    (fun s_1 u_6 =>
      CIf ((a2a : Int) == (2))
      (CallF Try.prog 11 #[] u_6 fun v_16 u_18 =>
        ∃ (x87 : Bool), v_16 = (.bool x87) ∧
        R (.bool x87) u_18)
      (CallF Try.prog 9 #[(.int .i64 (3)), (.agg #[(.int .i64 a2a), (.string a2b), (.int .i64 a2c)]), (.agg #[(.int .i64 x13a), (.string x13b), (.int .i64 x13c)])] u_6 fun v_17 u_19 =>
        ∃ (x90 : Bool), v_17 = (.bool x90) ∧
        CIf (!x90)
        (CallF Try.prog 9 #[(.int .i64 (4)), (.agg #[(.int .i64 a2a), (.string a2b), (.int .i64 a2c)]), (.agg #[(.int .i64 a2a), (.string a2b), (.int .i64 a2c)])] u_19 fun v_18 u_20 =>
          ∃ (x95 : Bool), v_18 = (.bool x95) ∧
          CIf (!x95)
          (CallF Try.prog 9 #[(.int .i64 (6)), (.agg #[(.int .i64 x13a), (.string x13b), (.int .i64 x13c)]), (.agg #[(.int .i64 a2a), (.string a2b), (.int .i64 a2c)])] u_20 fun v_19 u_21 =>
            ∃ (x101 : Bool), v_19 = (.bool x101) ∧
            CIf (!x101)
            (CallF Try.prog 9 #[(.int .i64 (7)), (.agg #[(.int .i64 a2a), (.string a2b), (.int .i64 a2c)]), (.agg #[(.int .i64 x13a), (.string x13b), (.int .i64 x13c)])] u_21 fun v_20 u_22 =>
              ∃ (x107 : Bool), v_20 = (.bool x107) ∧
              CIf (!x107)
              (CallF Try.prog 9 #[(.int .i64 (1)), (.agg #[(.int .i64 a2a), (.string a2b), (.int .i64 a2c)]), (.agg #[(.int .i64 a2a), (.string a2b), (.int .i64 a2c)])] u_22 fun v_21 u_23 =>
                ∃ (x113 : Bool), v_21 = (.bool x113) ∧
                CIf x113
                (CallF Try.prog 9 #[(.int .i64 (7)), (.agg #[(.int .i64 a2a), (.string a2b), (.int .i64 a2c)]), (.agg #[(.int .i64 a2a), (.string a2b), (.int .i64 a2c)])] u_23 fun v_22 u_24 =>
                  ∃ (x118 : Bool), v_22 = (.bool x118) ∧
                  CIf x118
                  (CallF Try.prog 11 #[] u_24 fun v_23 u_25 =>
                    ∃ (x121 : Bool), v_23 = (.bool x121) ∧
                    R (.bool x121) u_25)
                  (R (.bool false) u_24))
                (R (.bool false) u_23))
              (R (.bool false) u_22))
            (R (.bool false) u_21))
          (R (.bool false) u_20))
        (R (.bool false) u_19))))

theorem G_ponderlaw09_TestOrders.ok (a0 : Int) (a1 : Int) (a2a : Int) (a2b : ByteArray) (a2c : Int) (u0 : UW) (R : Value → UW → Prop) : G_ponderlaw09_TestOrders.sh a0 a1 a2a a2b a2c u0 R = WF Try.prog 123 [5, 7, 8] [] [(5, ⟨[], []⟩), (7, ⟨[], []⟩)] ((Try.f4.body).getD .skip) [.tmp 6] [(.int .i64 a0), (.int .i64 a1), (.agg #[(.int .i64 a2a), (.string a2b), (.int .i64 a2c)])] u0 R := by kernel_rfl

theorem G_ponderlaw09_TestOrders.fn (a0 : Int) (a1 : Int) (a2a : Int) (a2b : ByteArray) (a2c : Int) (w : World) (F : Nat → Prop) (R : Value → UW → Prop) (hF : ∀ b, F b → b < w.heap.size) (h : G_ponderlaw09_TestOrders.sh a0 a1 a2a a2b a2c ⟨w, F⟩ R) : FnB Try.prog 4 #[(.int .i64 a0), (.int .i64 a1), (.agg #[(.int .i64 a2a), (.string a2b), (.int .i64 a2c)])] w F fun v lo w' => ∃ pub, (∀ b, pub b → F b ∨ lo ≤ b) ∧ R v ⟨w', pub⟩ :=
  WF_sound Try.func4 rfl rfl rfl (by kernel_rfl) hF (G_ponderlaw09_TestOrders.ok a0 a1 a2a a2b a2c ⟨w, F⟩ R ▸ h)

theorem G_ponderlaw09_TestOrders.a (a0 : Int) (a1 : Int) (a2a : Int) (a2b : ByteArray) (a2c : Int) (w : World) (K : Value → World → Prop) (h : G_ponderlaw09_TestOrders.sh a0 a1 a2a a2b a2c ⟨w, fun _ => False⟩ fun v u => K v u.toWorld) : FnA Try.prog 4 #[(.int .i64 a0), (.int .i64 a1), (.agg #[(.int .i64 a2a), (.string a2b), (.int .i64 a2c)])] w K :=
  FnA.of Try.func4 rfl rfl rfl (by kernel_rfl) (G_ponderlaw09_TestOrders.ok a0 a1 a2a a2b a2c ⟨w, fun _ => False⟩ _ ▸ h)


/-- ponder/ponderlaw09.TestOnes -/
def G_ponderlaw09_TestOnes.sh (a0a : Int) (a0b : ByteArray) (a0c : Int) (a0d : ByteArray) (a0e : Int) (a0f : Option Addr) (a0fn a0fc : Nat) (a1a : Int) (a1b : ByteArray) (a1c : Int) (a2 : Option Addr) (a2n a2c : Nat) (u0 : UW) (R : Value → UW → Prop) : Prop :=
  CJoin (α := Bool) (fun J =>
    CIf (decide ((((a0fn : Nat) : Int) : Int) > (20)))
    (J true u0)
    (J (decide ((((a2n : Nat) : Int) : Int) > (40))) u0))
  (fun s u =>
    CIf s
    (CallF Try.prog 11 #[] u fun v u_1 =>
      ∃ (x22 : Bool), v = (.bool x22) ∧
      R (.bool x22) u_1)
    (CallF Try.prog 13 #[(.slice a2 a2n a2c)] u fun v_1 u_2 =>
      ∃ (x24 : Option Addr) (x24n x24c : Nat), v_1 = (.slice x24 x24n x24c) ∧
      CallF Try.prog 14 #[(.agg #[(.int .i64 a0a), (.string a0b), (.int .i64 a0c), (.string a0d), (.int .i64 a0e), (.slice a0f a0fn a0fc)]), (.agg #[(.int .i64 a1a), (.string a1b), (.int .i64 a1c)]), (.slice x24 x24n x24c)] u_2 fun v_2 u_3 =>
      ∃ (x29p : Option Addr) (x29pn x29pc : Nat), ∃ (x29q : Bool), v_2 = (.tuple #[(.slice x29p x29pn x29pc), (.bool x29q)]) ∧
      CallF Try.prog 15 #[(.agg #[(.int .i64 a0a), (.string a0b), (.int .i64 a0c), (.string a0d), (.int .i64 a0e), (.slice a0f a0fn a0fc)]), (.agg #[(.int .i64 a1a), (.string a1b), (.int .i64 a1c)]), (.slice a2 a2n a2c)] u_3 fun v_3 u_4 =>
      ∃ (x36p : Option Addr) (x36pn x36pc : Nat), ∃ (x36q : Bool), v_3 = (.tuple #[(.slice x36p x36pn x36pc), (.bool x36q)]) ∧
      CIf (!(x29q == x36q))
      (R (.bool false) u_4)
      (CallF Try.prog 16 #[(.slice x29p x29pn x29pc), (.slice x36p x36pn x36pc)] u_4 fun v_4 u_5 =>
        ∃ (x45 : Bool), v_4 = (.bool x45) ∧
        CIf (!x45)
        (R (.bool false) u_5)
        (LoopI (α := Int) (fun next s_1 u_6 =>
            CIf (decide ((s_1 : Int) < ((x29pn : Nat) : Int)))
            (withSl x29p fun b o =>
              (0 : Int) ≤ s_1 ∧ s_1 < ((x29pn : Nat) : Int) ∧
              cStore b (o + Int.toNat s_1 * 4) [(.string ⟨#[103, 111, 110, 101]⟩)] u_6 fun u_7 =>
              next (IntKind.wrap .i64 (s_1 + (1))) u_7)
            (CallF Try.prog 16 #[(.slice x24 x24n x24c), (.slice a2 a2n a2c)] u_6 fun v_5 u_8 =>
              ∃ (x60 : Bool), v_5 = (.bool x60) ∧
              CIf x60
              (CallF Try.prog 11 #[] u_8 fun v_6 u_9 =>
                ∃ (x62 : Bool), v_6 = (.bool x62) ∧
                R (.bool x62) u_9)
              (R (.bool false) u_8)))
          (0) u_5))))

theorem G_ponderlaw09_TestOnes.ok (a0a : Int) (a0b : ByteArray) (a0c : Int) (a0d : ByteArray) (a0e : Int) (a0f : Option Addr) (a0fn a0fc : Nat) (a1a : Int) (a1b : ByteArray) (a1c : Int) (a2 : Option Addr) (a2n a2c : Nat) (u0 : UW) (R : Value → UW → Prop) : G_ponderlaw09_TestOnes.sh a0a a0b a0c a0d a0e a0f a0fn a0fc a1a a1b a1c a2 a2n a2c u0 R = WF Try.prog 64 [3, 4] [(9, ⟨[(12, .one (.int .i64))], []⟩)] [(2, ⟨[(21, .one (.bool))], []⟩)] ((Try.f5.body).getD .skip) [.tmp 6] [(.agg #[(.int .i64 a0a), (.string a0b), (.int .i64 a0c), (.string a0d), (.int .i64 a0e), (.slice a0f a0fn a0fc)]), (.agg #[(.int .i64 a1a), (.string a1b), (.int .i64 a1c)]), (.slice a2 a2n a2c)] u0 R := by kernel_rfl

theorem G_ponderlaw09_TestOnes.fn (a0a : Int) (a0b : ByteArray) (a0c : Int) (a0d : ByteArray) (a0e : Int) (a0f : Option Addr) (a0fn a0fc : Nat) (a1a : Int) (a1b : ByteArray) (a1c : Int) (a2 : Option Addr) (a2n a2c : Nat) (w : World) (F : Nat → Prop) (R : Value → UW → Prop) (hF : ∀ b, F b → b < w.heap.size) (h : G_ponderlaw09_TestOnes.sh a0a a0b a0c a0d a0e a0f a0fn a0fc a1a a1b a1c a2 a2n a2c ⟨w, F⟩ R) : FnB Try.prog 5 #[(.agg #[(.int .i64 a0a), (.string a0b), (.int .i64 a0c), (.string a0d), (.int .i64 a0e), (.slice a0f a0fn a0fc)]), (.agg #[(.int .i64 a1a), (.string a1b), (.int .i64 a1c)]), (.slice a2 a2n a2c)] w F fun v lo w' => ∃ pub, (∀ b, pub b → F b ∨ lo ≤ b) ∧ R v ⟨w', pub⟩ :=
  WF_sound Try.func5 rfl rfl rfl (by kernel_rfl) hF (G_ponderlaw09_TestOnes.ok a0a a0b a0c a0d a0e a0f a0fn a0fc a1a a1b a1c a2 a2n a2c ⟨w, F⟩ R ▸ h)

theorem G_ponderlaw09_TestOnes.a (a0a : Int) (a0b : ByteArray) (a0c : Int) (a0d : ByteArray) (a0e : Int) (a0f : Option Addr) (a0fn a0fc : Nat) (a1a : Int) (a1b : ByteArray) (a1c : Int) (a2 : Option Addr) (a2n a2c : Nat) (w : World) (K : Value → World → Prop) (h : G_ponderlaw09_TestOnes.sh a0a a0b a0c a0d a0e a0f a0fn a0fc a1a a1b a1c a2 a2n a2c ⟨w, fun _ => False⟩ fun v u => K v u.toWorld) : FnA Try.prog 5 #[(.agg #[(.int .i64 a0a), (.string a0b), (.int .i64 a0c), (.string a0d), (.int .i64 a0e), (.slice a0f a0fn a0fc)]), (.agg #[(.int .i64 a1a), (.string a1b), (.int .i64 a1c)]), (.slice a2 a2n a2c)] w K :=
  FnA.of Try.func5 rfl rfl rfl (by kernel_rfl) (G_ponderlaw09_TestOnes.ok a0a a0b a0c a0d a0e a0f a0fn a0fc a1a a1b a1c a2 a2n a2c ⟨w, fun _ => False⟩ _ ▸ h)


/-- ponder/ponderlaw09.TestGets -/
def G_ponderlaw09_TestGets.sh (a0 : Option Addr) (a0n a0c : Nat) (a1 : ByteArray) (u0 : UW) (R : Value → UW → Prop) : Prop :=
  CIf (decide ((((a0n : Nat) : Int) : Int) > (100)))
  (CallF Try.prog 11 #[] u0 fun v u =>
    ∃ (x17 : Bool), v = (.bool x17) ∧
    R (.bool x17) u)
  (LoopI (α := Int) (fun next s u_1 =>
      CIf (decide ((s : Int) < ((a0n : Nat) : Int)))
      (withSl a0 fun b o =>
        (0 : Int) ≤ s ∧ s < ((a0n : Nat) : Int) ∧
        ∃ (x30 : ByteArray), rd u_1.heap b (o + Int.toNat s * 4) 1 = some [(.string x30)] ∧
        CallF Try.prog 17 #[(.slice a0 a0n a0c), (.string x30)] u_1 fun v_1 u_2 =>
        ∃ (x31pa : Int), ∃ (x31pb : ByteArray), ∃ (x31pc : Int), ∃ (x31q : Bool), v_1 = (.tuple #[(.agg #[(.int .i64 x31pa), (.string x31pb), (.int .i64 x31pc)]), (.bool x31q)]) ∧
        withSl a0 fun b_1 o_1 =>
        (0 : Int) ≤ s ∧ s < ((a0n : Nat) : Int) ∧
        ∃ (x40 : ByteArray), rd u_2.heap b_1 (o_1 + Int.toNat s * 4) 1 = some [(.string x40)] ∧
        CallF Try.prog 18 #[(.slice a0 a0n a0c), (.string x40)] u_2 fun v_2 u_3 =>
        ∃ (x41pa : Int), ∃ (x41pb : ByteArray), ∃ (x41pc : Int), ∃ (x41q : Bool), v_2 = (.tuple #[(.agg #[(.int .i64 x41pa), (.string x41pb), (.int .i64 x41pc)]), (.bool x41q)]) ∧
        CIf (!x31q)
        (R (.bool false) u_3)
        (CIf (!x41q)
          (R (.bool false) u_3)
          (CIf (!((x31pa == x41pa) && (strEq x31pb x41pb && ((x31pc == x41pc) && true))))
            (R (.bool false) u_3)
            (next (IntKind.wrap .i64 (s + (1))) u_3))))
      (CallF Try.prog 17 #[(.slice a0 a0n a0c), (.string a1)] u_1 fun v_3 u_4 =>
        ∃ (x58pa : Int), ∃ (x58pb : ByteArray), ∃ (x58pc : Int), ∃ (x58q : Bool), v_3 = (.tuple #[(.agg #[(.int .i64 x58pa), (.string x58pb), (.int .i64 x58pc)]), (.bool x58q)]) ∧
        CallF Try.prog 18 #[(.slice a0 a0n a0c), (.string a1)] u_4 fun v_4 u_5 =>
        ∃ (x64pa : Int), ∃ (x64pb : ByteArray), ∃ (x64pc : Int), ∃ (x64q : Bool), v_4 = (.tuple #[(.agg #[(.int .i64 x64pa), (.string x64pb), (.int .i64 x64pc)]), (.bool x64q)]) ∧
        CIf ((x58pa == x64pa) && (strEq x58pb x64pb && ((x58pc == x64pc) && true)))
        (CIf (x58q == x64q)
          (CallF Try.prog 11 #[] u_5 fun v_5 u_6 =>
            ∃ (x76 : Bool), v_5 = (.bool x76) ∧
            R (.bool x76) u_6)
          (R (.bool false) u_5))
        (R (.bool false) u_5)))
    (0) u0)

theorem G_ponderlaw09_TestGets.ok (a0 : Option Addr) (a0n a0c : Nat) (a1 : ByteArray) (u0 : UW) (R : Value → UW → Prop) : G_ponderlaw09_TestGets.sh a0 a0n a0c a1 u0 R = WF Try.prog 78 [6, 8, 10, 12] [(4, ⟨[(5, .one (.int .i64))], []⟩)] [] ((Try.f6.body).getD .skip) [.tmp 4] [(.slice a0 a0n a0c), (.string a1)] u0 R := by kernel_rfl

theorem G_ponderlaw09_TestGets.fn (a0 : Option Addr) (a0n a0c : Nat) (a1 : ByteArray) (w : World) (F : Nat → Prop) (R : Value → UW → Prop) (hF : ∀ b, F b → b < w.heap.size) (h : G_ponderlaw09_TestGets.sh a0 a0n a0c a1 ⟨w, F⟩ R) : FnB Try.prog 6 #[(.slice a0 a0n a0c), (.string a1)] w F fun v lo w' => ∃ pub, (∀ b, pub b → F b ∨ lo ≤ b) ∧ R v ⟨w', pub⟩ :=
  WF_sound Try.func6 rfl rfl rfl (by kernel_rfl) hF (G_ponderlaw09_TestGets.ok a0 a0n a0c a1 ⟨w, F⟩ R ▸ h)

theorem G_ponderlaw09_TestGets.a (a0 : Option Addr) (a0n a0c : Nat) (a1 : ByteArray) (w : World) (K : Value → World → Prop) (h : G_ponderlaw09_TestGets.sh a0 a0n a0c a1 ⟨w, fun _ => False⟩ fun v u => K v u.toWorld) : FnA Try.prog 6 #[(.slice a0 a0n a0c), (.string a1)] w K :=
  FnA.of Try.func6 rfl rfl rfl (by kernel_rfl) (G_ponderlaw09_TestGets.ok a0 a0n a0c a1 ⟨w, fun _ => False⟩ _ ▸ h)


/-- ponder/ponderlaw09.TestStays -/
def G_ponderlaw09_TestStays.sh (a0a : Int) (a0b : Bool) (a0c : ByteArray) (a0d : Option Addr) (a0dn a0dc : Nat) (a0e : Option Addr) (a0en a0ec : Nat) (a0f : Bool) (a0g : Option Addr) (a0gn a0gc : Nat) (a1a : Int) (a1b : ByteArray) (a1c : Int) (a1d : Int) (a1e : ByteArray) (a1f : Int) (a1g : Int) (a1h : ByteArray) (a1i : Int) (a1j : Bool) (a1k : Bool) (a1l : Int) (a2 : Option Addr) (a2n a2c : Nat) (u0 : UW) (R : Value → UW → Prop) : Prop :=
  CallF Try.prog 19 #[(.agg #[(.int .i64 a0a), (.bool a0b), (.string a0c), (.slice a0d a0dn a0dc), (.slice a0e a0en a0ec), (.bool a0f), (.slice a0g a0gn a0gc)]), (.slice a2 a2n a2c)] u0 fun v u =>
  ∃ (x13 : Bool), v = (.bool x13) ∧
  CIf x13
  (CallF Try.prog 11 #[] u fun v_1 u_1 =>
    ∃ (x14 : Bool), v_1 = (.bool x14) ∧
    R (.bool x14) u_1)
  (CallF Try.prog 20 #[(.agg #[(.int .i64 a0a), (.bool a0b), (.string a0c), (.slice a0d a0dn a0dc), (.slice a0e a0en a0ec), (.bool a0f), (.slice a0g a0gn a0gc)]), (.agg #[(.int .i64 a1a), (.string a1b), (.int .i64 a1c), (.int .i64 a1d), (.string a1e), (.int .i64 a1f), (.int .i64 a1g), (.string a1h), (.int .i64 a1i), (.bool a1j), (.bool a1k), (.int .i64 a1l)]), (.slice a2 a2n a2c)] u fun v_2 u_2 =>
    ∃ (x19p : Option Addr) (x19pn x19pc : Nat), ∃ (x19q : Bool), v_2 = (.tuple #[(.slice x19p x19pn x19pc), (.bool x19q)]) ∧
    CIf (!x19q)
    (CIf ((((x19pn : Nat) : Int) : Int) == (0))
      (CallF Try.prog 11 #[] u_2 fun v_3 u_3 =>
        ∃ (x28 : Bool), v_3 = (.bool x28) ∧
        R (.bool x28) u_3)
      (R (.bool false) u_2))
    (CIf (decide ((((x19pn : Nat) : Int) : Int) < ((a2n : Nat) : Int)))
      (R (.bool false) u_2)
      (noSpot x19p ∧ (0 : Int) ≤ (0 : Int) ∧ (0 : Int) ≤ ((a2n : Nat) : Int) ∧ ((a2n : Nat) : Int) ≤ ((x19pc : Nat) : Int) ∧ ((x19pc : Nat) : Int) ≤ ((x19pc : Nat) : Int) ∧
        CallF Try.prog 16 #[(.slice (slA x19p (Int.toNat (0 : Int)) (Int.toNat ((x19pc : Nat) : Int)) 4) (Int.toNat ((a2n : Nat) : Int) - Int.toNat (0 : Int)) (Int.toNat ((x19pc : Nat) : Int) - Int.toNat (0 : Int))), (.slice a2 a2n a2c)] u_2 fun v_4 u_4 =>
        ∃ (x41 : Bool), v_4 = (.bool x41) ∧
        CIf (!x41)
        (R (.bool false) u_4)
        (CallF Try.prog 20 #[(.agg #[(.int .i64 a0a), (.bool a0b), (.string a0c), (.slice a0d a0dn a0dc), (.slice a0e a0en a0ec), (.bool a0f), (.slice a0g a0gn a0gc)]), (.agg #[(.int .i64 a1a), (.string a1b), (.int .i64 a1c), (.int .i64 a1d), (.string a1e), (.int .i64 a1f), (.int .i64 a1g), (.string a1h), (.int .i64 a1i), (.bool a1j), (.bool a1k), (.int .i64 a1l)]), (.slice x19p x19pn x19pc)] u_4 fun v_5 u_5 =>
          ∃ (x48p : Option Addr) (x48pn x48pc : Nat), ∃ (x48q : Bool), v_5 = (.tuple #[(.slice x48p x48pn x48pc), (.bool x48q)]) ∧
          CIf x48q
          (CallF Try.prog 16 #[(.slice x19p x19pn x19pc), (.slice x48p x48pn x48pc)] u_5 fun v_6 u_6 =>
            ∃ (x55 : Bool), v_6 = (.bool x55) ∧
            CIf x55
            (CallF Try.prog 11 #[] u_6 fun v_7 u_7 =>
              ∃ (x58 : Bool), v_7 = (.bool x58) ∧
              R (.bool x58) u_7)
            (R (.bool false) u_6))
          (R (.bool false) u_5)))))

theorem G_ponderlaw09_TestStays.ok (a0a : Int) (a0b : Bool) (a0c : ByteArray) (a0d : Option Addr) (a0dn a0dc : Nat) (a0e : Option Addr) (a0en a0ec : Nat) (a0f : Bool) (a0g : Option Addr) (a0gn a0gc : Nat) (a1a : Int) (a1b : ByteArray) (a1c : Int) (a1d : Int) (a1e : ByteArray) (a1f : Int) (a1g : Int) (a1h : ByteArray) (a1i : Int) (a1j : Bool) (a1k : Bool) (a1l : Int) (a2 : Option Addr) (a2n a2c : Nat) (u0 : UW) (R : Value → UW → Prop) : G_ponderlaw09_TestStays.sh a0a a0b a0c a0d a0dn a0dc a0e a0en a0ec a0f a0g a0gn a0gc a1a a1b a1c a1d a1e a1f a1g a1h a1i a1j a1k a1l a2 a2n a2c u0 R = WF Try.prog 60 [3, 4] [] [] ((Try.f7.body).getD .skip) [.tmp 6] [(.agg #[(.int .i64 a0a), (.bool a0b), (.string a0c), (.slice a0d a0dn a0dc), (.slice a0e a0en a0ec), (.bool a0f), (.slice a0g a0gn a0gc)]), (.agg #[(.int .i64 a1a), (.string a1b), (.int .i64 a1c), (.int .i64 a1d), (.string a1e), (.int .i64 a1f), (.int .i64 a1g), (.string a1h), (.int .i64 a1i), (.bool a1j), (.bool a1k), (.int .i64 a1l)]), (.slice a2 a2n a2c)] u0 R := by kernel_rfl

theorem G_ponderlaw09_TestStays.fn (a0a : Int) (a0b : Bool) (a0c : ByteArray) (a0d : Option Addr) (a0dn a0dc : Nat) (a0e : Option Addr) (a0en a0ec : Nat) (a0f : Bool) (a0g : Option Addr) (a0gn a0gc : Nat) (a1a : Int) (a1b : ByteArray) (a1c : Int) (a1d : Int) (a1e : ByteArray) (a1f : Int) (a1g : Int) (a1h : ByteArray) (a1i : Int) (a1j : Bool) (a1k : Bool) (a1l : Int) (a2 : Option Addr) (a2n a2c : Nat) (w : World) (F : Nat → Prop) (R : Value → UW → Prop) (hF : ∀ b, F b → b < w.heap.size) (h : G_ponderlaw09_TestStays.sh a0a a0b a0c a0d a0dn a0dc a0e a0en a0ec a0f a0g a0gn a0gc a1a a1b a1c a1d a1e a1f a1g a1h a1i a1j a1k a1l a2 a2n a2c ⟨w, F⟩ R) : FnB Try.prog 7 #[(.agg #[(.int .i64 a0a), (.bool a0b), (.string a0c), (.slice a0d a0dn a0dc), (.slice a0e a0en a0ec), (.bool a0f), (.slice a0g a0gn a0gc)]), (.agg #[(.int .i64 a1a), (.string a1b), (.int .i64 a1c), (.int .i64 a1d), (.string a1e), (.int .i64 a1f), (.int .i64 a1g), (.string a1h), (.int .i64 a1i), (.bool a1j), (.bool a1k), (.int .i64 a1l)]), (.slice a2 a2n a2c)] w F fun v lo w' => ∃ pub, (∀ b, pub b → F b ∨ lo ≤ b) ∧ R v ⟨w', pub⟩ :=
  WF_sound Try.func7 rfl rfl rfl (by kernel_rfl) hF (G_ponderlaw09_TestStays.ok a0a a0b a0c a0d a0dn a0dc a0e a0en a0ec a0f a0g a0gn a0gc a1a a1b a1c a1d a1e a1f a1g a1h a1i a1j a1k a1l a2 a2n a2c ⟨w, F⟩ R ▸ h)

theorem G_ponderlaw09_TestStays.a (a0a : Int) (a0b : Bool) (a0c : ByteArray) (a0d : Option Addr) (a0dn a0dc : Nat) (a0e : Option Addr) (a0en a0ec : Nat) (a0f : Bool) (a0g : Option Addr) (a0gn a0gc : Nat) (a1a : Int) (a1b : ByteArray) (a1c : Int) (a1d : Int) (a1e : ByteArray) (a1f : Int) (a1g : Int) (a1h : ByteArray) (a1i : Int) (a1j : Bool) (a1k : Bool) (a1l : Int) (a2 : Option Addr) (a2n a2c : Nat) (w : World) (K : Value → World → Prop) (h : G_ponderlaw09_TestStays.sh a0a a0b a0c a0d a0dn a0dc a0e a0en a0ec a0f a0g a0gn a0gc a1a a1b a1c a1d a1e a1f a1g a1h a1i a1j a1k a1l a2 a2n a2c ⟨w, fun _ => False⟩ fun v u => K v u.toWorld) : FnA Try.prog 7 #[(.agg #[(.int .i64 a0a), (.bool a0b), (.string a0c), (.slice a0d a0dn a0dc), (.slice a0e a0en a0ec), (.bool a0f), (.slice a0g a0gn a0gc)]), (.agg #[(.int .i64 a1a), (.string a1b), (.int .i64 a1c), (.int .i64 a1d), (.string a1e), (.int .i64 a1f), (.int .i64 a1g), (.string a1h), (.int .i64 a1i), (.bool a1j), (.bool a1k), (.int .i64 a1l)]), (.slice a2 a2n a2c)] w K :=
  FnA.of Try.func7 rfl rfl rfl (by kernel_rfl) (G_ponderlaw09_TestStays.ok a0a a0b a0c a0d a0dn a0dc a0e a0en a0ec a0f a0g a0gn a0gc a1a a1b a1c a1d a1e a1f a1g a1h a1i a1j a1k a1l a2 a2n a2c ⟨w, fun _ => False⟩ _ ▸ h)


/-- ponder/ponderkeep.Copy[ponder/api.Bind] -/
def G_ponderkeep_Copy_api_Bind.sh (a0 : Option Addr) (a0n a0c : Nat) (u0 : UW) (R : Value → UW → Prop) : Prop :=
  cApp Try.prog 34 none 0 0 a0 a0n u0 fun s4 s4n s4c u =>
  R (.slice s4 s4n s4c) u

theorem G_ponderkeep_Copy_api_Bind.ok (a0 : Option Addr) (a0n a0c : Nat) (u0 : UW) (R : Value → UW → Prop) : G_ponderkeep_Copy_api_Bind.sh a0 a0n a0c u0 R = WF Try.prog 5 [] [] [] ((Try.f13.body).getD .skip) [.tmp 2] [(.slice a0 a0n a0c)] u0 R := by kernel_rfl

theorem G_ponderkeep_Copy_api_Bind.fn (a0 : Option Addr) (a0n a0c : Nat) (w : World) (F : Nat → Prop) (R : Value → UW → Prop) (hF : ∀ b, F b → b < w.heap.size) (h : G_ponderkeep_Copy_api_Bind.sh a0 a0n a0c ⟨w, F⟩ R) : FnB Try.prog 13 #[(.slice a0 a0n a0c)] w F fun v lo w' => ∃ pub, (∀ b, pub b → F b ∨ lo ≤ b) ∧ R v ⟨w', pub⟩ :=
  WF_sound Try.func13 rfl rfl rfl (by kernel_rfl) hF (G_ponderkeep_Copy_api_Bind.ok a0 a0n a0c ⟨w, F⟩ R ▸ h)

theorem G_ponderkeep_Copy_api_Bind.a (a0 : Option Addr) (a0n a0c : Nat) (w : World) (K : Value → World → Prop) (h : G_ponderkeep_Copy_api_Bind.sh a0 a0n a0c ⟨w, fun _ => False⟩ fun v u => K v u.toWorld) : FnA Try.prog 13 #[(.slice a0 a0n a0c)] w K :=
  FnA.of Try.func13 rfl rfl rfl (by kernel_rfl) (G_ponderkeep_Copy_api_Bind.ok a0 a0n a0c ⟨w, fun _ => False⟩ _ ▸ h)


-- 8 ponder/ponderlaw09.TestSome: rangeFunc
/-- ponder/test.Some -/
def G_test_Some.sh (a0a : Int) (a0b : Bool) (a0c : ByteArray) (a0d : Option Addr) (a0dn a0dc : Nat) (a0e : Option Addr) (a0en a0ec : Nat) (a0f : Bool) (a0g : Option Addr) (a0gn a0gc : Nat) (a1 : Fn) (a1a a1b : Array Value) (a2 : Option Addr) (a2n a2c : Nat) (u0 : UW) (R : Value → UW → Prop) : Prop :=
  ∀ (b3 : Nat) (w : World), Born u0.toWorld w b3 (.cells #[(.int .i64 a0a), (.bool a0b), (.string a0c), (.slice a0d a0dn a0dc), (.slice a0e a0en a0ec), (.bool a0f), (.slice a0g a0gn a0gc)] 45 (0, 0)) →
  ∀ (b4 : Nat) (w_1 : World), Born (UW.born u0 b3 w).toWorld w_1 b4 (.cells #[(.func a1 a1a a1b)] 57 (0, 0)) →
  ∀ (b5 : Nat) (w_2 : World), Born (UW.born (UW.born u0 b3 w) b4 w_1).toWorld w_2 b5 (.cells #[(.slice a2 a2n a2c)] 31 (0, 0)) →
  ∃ (x7 : Option Addr) (x7n x7c : Nat), rd (UW.born (UW.born (UW.born u0 b3 w) b4 w_1) b5 w_2).heap b5 0 1 = some [(.slice x7 x7n x7c)] ∧
  CallF Try.prog 28 #[(.slice x7 x7n x7c)] (UW.born (UW.born (UW.born u0 b3 w) b4 w_1) b5 w_2) fun v u =>
  ∃ (x8 : Option Addr) (x8n x8c : Nat), v = (.slice x8 x8n x8c) ∧
  cStore b5 0 [(.slice x8 x8n x8c)] u fun u_1 =>
  R (.func (.func 34) #[] #[(.pointer (some ⟨b4, 0, none⟩)), (.pointer (some ⟨b3, 0, none⟩)), (.pointer (some ⟨b5, 0, none⟩))]) u_1

theorem G_test_Some.ok (a0a : Int) (a0b : Bool) (a0c : ByteArray) (a0d : Option Addr) (a0dn a0dc : Nat) (a0e : Option Addr) (a0en a0ec : Nat) (a0f : Bool) (a0g : Option Addr) (a0gn a0gc : Nat) (a1 : Fn) (a1a a1b : Array Value) (a2 : Option Addr) (a2n a2c : Nat) (u0 : UW) (R : Value → UW → Prop) : G_test_Some.sh a0a a0b a0c a0d a0dn a0dc a0e a0en a0ec a0f a0g a0gn a0gc a1 a1a a1b a2 a2n a2c u0 R = WF Try.prog 10 [] [] [] ((Try.f22.body).getD .skip) [.tmp 6] [(.agg #[(.int .i64 a0a), (.bool a0b), (.string a0c), (.slice a0d a0dn a0dc), (.slice a0e a0en a0ec), (.bool a0f), (.slice a0g a0gn a0gc)]), (.func a1 a1a a1b), (.slice a2 a2n a2c)] u0 R := by kernel_rfl

theorem G_test_Some.fn (a0a : Int) (a0b : Bool) (a0c : ByteArray) (a0d : Option Addr) (a0dn a0dc : Nat) (a0e : Option Addr) (a0en a0ec : Nat) (a0f : Bool) (a0g : Option Addr) (a0gn a0gc : Nat) (a1 : Fn) (a1a a1b : Array Value) (a2 : Option Addr) (a2n a2c : Nat) (w : World) (F : Nat → Prop) (R : Value → UW → Prop) (hF : ∀ b, F b → b < w.heap.size) (h : G_test_Some.sh a0a a0b a0c a0d a0dn a0dc a0e a0en a0ec a0f a0g a0gn a0gc a1 a1a a1b a2 a2n a2c ⟨w, F⟩ R) : FnB Try.prog 22 #[(.agg #[(.int .i64 a0a), (.bool a0b), (.string a0c), (.slice a0d a0dn a0dc), (.slice a0e a0en a0ec), (.bool a0f), (.slice a0g a0gn a0gc)]), (.func a1 a1a a1b), (.slice a2 a2n a2c)] w F fun v lo w' => ∃ pub, (∀ b, pub b → F b ∨ lo ≤ b) ∧ R v ⟨w', pub⟩ :=
  WF_sound Try.func22 rfl rfl rfl (by kernel_rfl) hF (G_test_Some.ok a0a a0b a0c a0d a0dn a0dc a0e a0en a0ec a0f a0g a0gn a0gc a1 a1a a1b a2 a2n a2c ⟨w, F⟩ R ▸ h)

theorem G_test_Some.a (a0a : Int) (a0b : Bool) (a0c : ByteArray) (a0d : Option Addr) (a0dn a0dc : Nat) (a0e : Option Addr) (a0en a0ec : Nat) (a0f : Bool) (a0g : Option Addr) (a0gn a0gc : Nat) (a1 : Fn) (a1a a1b : Array Value) (a2 : Option Addr) (a2n a2c : Nat) (w : World) (K : Value → World → Prop) (h : G_test_Some.sh a0a a0b a0c a0d a0dn a0dc a0e a0en a0ec a0f a0g a0gn a0gc a1 a1a a1b a2 a2n a2c ⟨w, fun _ => False⟩ fun v u => K v u.toWorld) : FnA Try.prog 22 #[(.agg #[(.int .i64 a0a), (.bool a0b), (.string a0c), (.slice a0d a0dn a0dc), (.slice a0e a0en a0ec), (.bool a0f), (.slice a0g a0gn a0gc)]), (.func a1 a1a a1b), (.slice a2 a2n a2c)] w K :=
  FnA.of Try.func22 rfl rfl rfl (by kernel_rfl) (G_test_Some.ok a0a a0b a0c a0d a0dn a0dc a0e a0en a0ec a0f a0g a0gn a0gc a1 a1a a1b a2 a2n a2c ⟨w, fun _ => False⟩ _ ▸ h)


/-- ponder/ponderkeep.Of[ponder/api.Elem] -/
def G_ponderkeep_Of_api_Elem.sh (a0 : Option Addr) (a0n a0c : Nat) (u0 : UW) (R : Value → UW → Prop) : Prop :=
  ∀ (b1 : Nat) (w : World), Born u0.toWorld w b1 (.cells #[(.slice a0 a0n a0c)] 51 (0, 0)) →
  R (.func (.func 35) #[] #[(.pointer (some ⟨b1, 0, none⟩))]) (UW.born u0 b1 w)

theorem G_ponderkeep_Of_api_Elem.ok (a0 : Option Addr) (a0n a0c : Nat) (u0 : UW) (R : Value → UW → Prop) : G_ponderkeep_Of_api_Elem.sh a0 a0n a0c u0 R = WF Try.prog 4 [] [] [] ((Try.f23.body).getD .skip) [.tmp 2] [(.slice a0 a0n a0c)] u0 R := by kernel_rfl

theorem G_ponderkeep_Of_api_Elem.fn (a0 : Option Addr) (a0n a0c : Nat) (w : World) (F : Nat → Prop) (R : Value → UW → Prop) (hF : ∀ b, F b → b < w.heap.size) (h : G_ponderkeep_Of_api_Elem.sh a0 a0n a0c ⟨w, F⟩ R) : FnB Try.prog 23 #[(.slice a0 a0n a0c)] w F fun v lo w' => ∃ pub, (∀ b, pub b → F b ∨ lo ≤ b) ∧ R v ⟨w', pub⟩ :=
  WF_sound Try.func23 rfl rfl rfl (by kernel_rfl) hF (G_ponderkeep_Of_api_Elem.ok a0 a0n a0c ⟨w, F⟩ R ▸ h)

theorem G_ponderkeep_Of_api_Elem.a (a0 : Option Addr) (a0n a0c : Nat) (w : World) (K : Value → World → Prop) (h : G_ponderkeep_Of_api_Elem.sh a0 a0n a0c ⟨w, fun _ => False⟩ fun v u => K v u.toWorld) : FnA Try.prog 23 #[(.slice a0 a0n a0c)] w K :=
  FnA.of Try.func23 rfl rfl rfl (by kernel_rfl) (G_ponderkeep_Of_api_Elem.ok a0 a0n a0c ⟨w, fun _ => False⟩ _ ▸ h)


-- 34 ponder/test.Some$1: rangeFunc
-- 35 ponder/ponderkeep.Of[ponder/api.Elem]$1: address ('tuple', [])
end Go.Proofs.Ytfliaomdedfleaa
