import Derived.Test.YtfjemjnbemdkgaaQ06
import Derived.Test.YtfjemjnbemdkgaaChecked
import Derived.KernelRfl
/- What functions of the program ask of plain values: printed, and held against the code by the kernel. -/
namespace Go.Proofs.Ytfjemjnbemdkgaa
open Go.Eng
set_option maxRecDepth 100000
set_option linter.unusedVariables false

/-- ponder/ponderlaw06.ShapeForms -/
def G_ponderlaw06_ShapeForms.sh (a0a : ByteArray) (a0bf : Fl) (a0b : List (List PV)) (a0cf : Fl) (a0c : List (List PV)) (u0 : Mem) (R : PV → Mem → Prop) : Prop :=
  CallP Try.prog 11 [(.agg [(pS a0a), (.list 7 .sh a0b), (.list 19 .sh a0c)])] u0 fun v u =>
  ∃ (x8 : Bool), v = (pB x8) ∧
  CIf x8
  (CallP Try.prog 12 [] u fun v_1 u_1 =>
    ∃ (x9 : Bool), v_1 = (pB x9) ∧
    R (pB x9) u_1)
  (CallP Try.prog 13 [(.agg [(pS a0a), (.list 7 .sh a0b), (.list 19 .sh a0c)])] u fun v_2 u_2 =>
    ∃ (x12p : Int), ∃ (x12q : Int), v_2 = (.tup [(pI x12p), (pI x12q)]) ∧
    CallP Try.prog 14 [(.agg [(pS a0a), (.list 7 .sh a0b), (.list 19 .sh a0c)])] u_2 fun v_3 u_3 =>
    ∃ (x17p : Int), ∃ (x17q : Int), v_3 = (.tup [(pI x17p), (pI x17q)]) ∧
    CIf ((x12p : Int) == x17p)
    (CIf ((x12q : Int) == x17q)
      (CallP Try.prog 12 [] u_3 fun v_4 u_4 =>
        ∃ (x29 : Bool), v_4 = (pB x29) ∧
        R (pB x29) u_4)
      (R (pB false) u_3))
    (R (pB false) u_3))

theorem G_ponderlaw06_ShapeForms.ok (a0a : ByteArray) (a0bf : Fl) (a0b : List (List PV)) (a0cf : Fl) (a0c : List (List PV)) (u0 : Mem) (R : PV → Mem → Prop) : G_ponderlaw06_ShapeForms.sh a0a a0bf a0b a0cf a0c u0 R = VF ⟨Try.prog, 31, [1], [], [], [], [], [], []⟩ ((Try.f3.body).getD .skip) [.tmp 2] [(.agg [(pS a0a), (.list 7 a0bf a0b), (.list 19 a0cf a0c)])] u0 R := by kernel_rfl

theorem G_ponderlaw06_ShapeForms.c {a0a : ByteArray} {a0bf : Fl} {a0b : List (List PV)} {a0cf : Fl} {a0c : List (List PV)} {u0 : Mem} {K : PV → Mem → Prop} (h : G_ponderlaw06_ShapeForms.sh a0a a0bf a0b a0cf a0c u0 K) : CallP Try.prog 3 [(.agg [(pS a0a), (.list 7 a0bf a0b), (.list 19 a0cf a0c)])] u0 K :=
  VF_sound (E := ⟨Try.prog, 31, [1], [], [], [], [], [], []⟩) (rs := [.tmp 2]) Try.func3 rfl rfl rfl (by kernel_rfl) (by kernel_rfl) (G_ponderlaw06_ShapeForms.ok a0a a0bf a0b a0cf a0c u0 K ▸ h)


/-- ponder/ponderlaw06.ShapeChecks -/
def G_ponderlaw06_ShapeChecks.sh (a0a : ByteArray) (a0bf : Fl) (a0b : List (List PV)) (a0cf : Fl) (a0c : List (List PV)) (u0 : Mem) (R : PV → Mem → Prop) : Prop :=
  CallP Try.prog 11 [(.agg [(pS a0a), (.list 7 .sh a0b), (.list 19 .sh a0c)])] u0 fun v u =>
  ∃ (x9 : Bool), v = (pB x9) ∧
  CIf x9
  (CallP Try.prog 12 [] u fun v_1 u_1 =>
    ∃ (x10 : Bool), v_1 = (pB x10) ∧
    R (pB x10) u_1)
  (CallP Try.prog 15 [(.agg [(pS a0a), (.list 7 .sh a0b), (.list 19 .sh a0c)])] u fun v_2 u_2 =>
    ∃ (x12a : ByteArray), ∃ (x12bf : Fl) (x12b : List (List PV)), ∃ (x12cf : Fl) (x12c : List (List PV)), v_2 = (.agg [(pS x12a), (.list 7 x12bf x12b), (.list 19 x12cf x12c)]) ∧
    CallP Try.prog 16 [(.agg [(pS x12a), (.list 7 .sh x12b), (.list 19 .sh x12c)])] u_2 fun v_3 u_3 =>
    ∃ (x15p : Int), ∃ (x15q : Int), v_3 = (.tup [(pI x15p), (pI x15q)]) ∧
    CallP Try.prog 17 [(.agg [(pS a0a), (.list 7 .sh a0b), (.list 19 .sh a0c)])] u_3 fun v_4 u_4 =>
    ∃ (x20p : Int), ∃ (x20q : Int), v_4 = (.tup [(pI x20p), (pI x20q)]) ∧
    CIf ((x15p : Int) == x20p)
    (CIf ((x15q : Int) == x20q)
      (CallP Try.prog 18 [(.agg [(pS a0a), (.list 7 .sh a0b), (.list 19 .sh a0c)]), (.agg [(pS x12a), (.list 7 .sh x12b), (.list 19 .sh x12c)])] u_4 fun v_5 u_5 =>
        ∃ (x34 : Bool), v_5 = (pB x34) ∧
        CIf x34
        (CallP Try.prog 12 [] u_5 fun v_6 u_6 =>
          ∃ (x37 : Bool), v_6 = (pB x37) ∧
          R (pB x37) u_6)
        (R (pB false) u_5))
      (R (pB false) u_4))
    (R (pB false) u_4))

theorem G_ponderlaw06_ShapeChecks.ok (a0a : ByteArray) (a0bf : Fl) (a0b : List (List PV)) (a0cf : Fl) (a0c : List (List PV)) (u0 : Mem) (R : PV → Mem → Prop) : G_ponderlaw06_ShapeChecks.sh a0a a0bf a0b a0cf a0c u0 R = VF ⟨Try.prog, 39, [1, 3], [], [], [], [], [], []⟩ ((Try.f4.body).getD .skip) [.tmp 2] [(.agg [(pS a0a), (.list 7 a0bf a0b), (.list 19 a0cf a0c)])] u0 R := by kernel_rfl

theorem G_ponderlaw06_ShapeChecks.c {a0a : ByteArray} {a0bf : Fl} {a0b : List (List PV)} {a0cf : Fl} {a0c : List (List PV)} {u0 : Mem} {K : PV → Mem → Prop} (h : G_ponderlaw06_ShapeChecks.sh a0a a0bf a0b a0cf a0c u0 K) : CallP Try.prog 4 [(.agg [(pS a0a), (.list 7 a0bf a0b), (.list 19 a0cf a0c)])] u0 K :=
  VF_sound (E := ⟨Try.prog, 39, [1, 3], [], [], [], [], [], []⟩) (rs := [.tmp 2]) Try.func4 rfl rfl rfl (by kernel_rfl) (by kernel_rfl) (G_ponderlaw06_ShapeChecks.ok a0a a0bf a0b a0cf a0c u0 K ▸ h)


/-- ponder/ponderlaw06.ShapeEdges -/
def G_ponderlaw06_ShapeEdges.sh (a0 : Int) (a1 : Int) (u0 : Mem) (R : PV → Mem → Prop) : Prop :=
  CallP Try.prog 19 [] u0 fun v u =>
  ∃ (x19a : ByteArray), ∃ (x19b : Option Addr) (x19bn x19bc : Nat), ∃ (x19c : Option Addr) (x19cn x19cc : Nat), v = (.agg [(pS x19a), (.raw (.slice x19b x19bn x19bc)), (.raw (.slice x19c x19cn x19cc))]) ∧
  CallP Try.prog 20 [(pI a1), (pI (30))] u fun v_1 u_1 =>
  ∃ (x21 : Int), v_1 = (pI x21) ∧
  CJoin (α := Option Addr × Option Addr) (fun J =>
    withSl x19b fun b o =>
    (0 : Int) ≤ (0) ∧ (0) < ((x19bn : Nat) : Int) ∧
    ∃ (x25a : Int), ∃ (x25b : Bool), ∃ (x25c : ByteArray), ∃ (x25df : Fl) (x25d : List (List PV)), ∃ (x25ef : Fl) (x25e : List (List PV)), ∃ (x25f : Bool), ∃ (x25gf : Fl) (x25g : List (List PV)), rdM u_1 b (o + Int.toNat (0) * 7) 7 = some [(pI x25a), (pB x25b), (pS x25c), (.list 6 x25df x25d), (.list 6 x25ef x25e), (pB x25f), (.list 7 x25gf x25g)] ∧
    withSl x19c fun b_1 o_1 =>
    (0 : Int) ≤ (0) ∧ (0) < ((x19cn : Nat) : Int) ∧
    ∃ (x29a : ByteArray), ∃ (x29b : ByteArray), ∃ (x29c : Int), ∃ (x29d : ByteArray), ∃ (x29e : Int), ∃ (x29f : Int), ∃ (x29g : ByteArray), ∃ (x29h : Int), ∃ (x29i : ByteArray), ∃ (x29j : Int), ∃ (x29k : ByteArray), ∃ (x29l : Int), ∃ (x29m : ByteArray), ∃ (x29n : Int), ∃ (x29o : Int), ∃ (x29p : ByteArray), ∃ (x29q : Int), ∃ (x29r : ByteArray), ∃ (x29s : Int), rdM u_1 b_1 (o_1 + Int.toNat (0) * 19) 19 = some [(pS x29a), (pS x29b), (pI x29c), (pS x29d), (pI x29e), (pI x29f), (pS x29g), (pI x29h), (pS x29i), (pI x29j), (pS x29k), (pI x29l), (pS x29m), (pI x29n), (pI x29o), (pS x29p), (pI x29q), (pS x29r), (pI x29s)] ∧
    (∀ (b8 : Nat), u_1 b8 = none →
      ∀ (b9 : Nat), (Mem.set u_1 b8 (some (.cells 37 [(pI (0)), (pB false), (pS ⟨#[]⟩), (.list 6 .nil []), (.list 6 .nil []), (pB false), (.list 7 .nil [])]))) b9 = none →
      u_1 b8 = none ∧
      stM b8 0 [(pI x25a), (pB x25b), (pS x25c), (.list 6 x25df x25d), (.list 6 x25ef x25e), (pB x25f), (.list 7 x25gf x25g)] (Mem.set (Mem.set u_1 b8 (some (.cells 37 [(pI (0)), (pB false), (pS ⟨#[]⟩), (.list 6 .nil []), (.list 6 .nil []), (pB false), (.list 7 .nil [])]))) b9 (some (.cells 45 [(pS ⟨#[]⟩), (pS ⟨#[]⟩), (pI (0)), (pS ⟨#[]⟩), (pI (0)), (pI (0)), (pS ⟨#[]⟩), (pI (0)), (pS ⟨#[]⟩), (pI (0)), (pS ⟨#[]⟩), (pI (0)), (pS ⟨#[]⟩), (pI (0)), (pI (0)), (pS ⟨#[]⟩), (pI (0)), (pS ⟨#[]⟩), (pI (0))]))) fun u_3 =>
      stM b9 0 [(pS x29a), (pS x29b), (pI x29c), (pS x29d), (pI x29e), (pI x29f), (pS x29g), (pI x29h), (pS x29i), (pI x29j), (pS x29k), (pI x29l), (pS x29m), (pI x29n), (pI x29o), (pS x29p), (pI x29q), (pS x29r), (pI x29s)] u_3 fun u_4 =>
      J ((some ⟨b8, 0, none⟩), (some ⟨b9, 0, none⟩)) u_4) ∧
    (∀ (b9_1 : Nat), u_1 b9_1 = none →
      ∀ (b8_1 : Nat), (Mem.set u_1 b9_1 (some (.cells 45 [(pS ⟨#[]⟩), (pS ⟨#[]⟩), (pI (0)), (pS ⟨#[]⟩), (pI (0)), (pI (0)), (pS ⟨#[]⟩), (pI (0)), (pS ⟨#[]⟩), (pI (0)), (pS ⟨#[]⟩), (pI (0)), (pS ⟨#[]⟩), (pI (0)), (pI (0)), (pS ⟨#[]⟩), (pI (0)), (pS ⟨#[]⟩), (pI (0))]))) b8_1 = none →
      u_1 b8_1 = none ∧
      stM b8_1 0 [(pI x25a), (pB x25b), (pS x25c), (.list 6 x25df x25d), (.list 6 x25ef x25e), (pB x25f), (.list 7 x25gf x25g)] (Mem.set (Mem.set u_1 b9_1 (some (.cells 45 [(pS ⟨#[]⟩), (pS ⟨#[]⟩), (pI (0)), (pS ⟨#[]⟩), (pI (0)), (pI (0)), (pS ⟨#[]⟩), (pI (0)), (pS ⟨#[]⟩), (pI (0)), (pS ⟨#[]⟩), (pI (0)), (pS ⟨#[]⟩), (pI (0)), (pI (0)), (pS ⟨#[]⟩), (pI (0)), (pS ⟨#[]⟩), (pI (0))]))) b8_1 (some (.cells 37 [(pI (0)), (pB false), (pS ⟨#[]⟩), (.list 6 .nil []), (.list 6 .nil []), (pB false), (.list 7 .nil [])]))) fun u_5 =>
      stM b9_1 0 [(pS x29a), (pS x29b), (pI x29c), (pS x29d), (pI x29e), (pI x29f), (pS x29g), (pI x29h), (pS x29i), (pI x29j), (pS x29k), (pI x29l), (pS x29m), (pI x29n), (pI x29o), (pS x29p), (pI x29q), (pS x29r), (pI x29s)] u_5 fun u_6 =>
      J ((some ⟨b8_1, 0, none⟩), (some ⟨b9_1, 0, none⟩)) u_6))
  (fun s u_2 =>
    CJoin (α := (ByteArray × (Option Addr × Nat × Nat) × (Option Addr × Nat × Nat)) × Int × Int) (fun J_1 =>
      CallP Try.prog 20 [(pI a0), (pI (5))] u_2 fun v_2 u_8 =>
      ∃ (x31 : Int), v_2 = (pI x31) ∧
      CIf ((x31 : Int) == (0))
      (LoopI (α := (ByteArray × (Option Addr × Nat × Nat) × (Option Addr × Nat × Nat)) × Int) (fun next s_2 u_9 =>
          CIf (decide ((s_2.2 : Int) < x21))
          (withPtrP (.raw (.pointer s.1)) fun b_2 o_2 =>
            ∃ (x61a : Int), ∃ (x61b : Bool), ∃ (x61c : ByteArray), ∃ (x61df : Fl) (x61d : List (List PV)), ∃ (x61ef : Fl) (x61e : List (List PV)), ∃ (x61f : Bool), ∃ (x61gf : Fl) (x61g : List (List PV)), rdM u_9 b_2 o_2 7 = some [(pI x61a), (pB x61b), (pS x61c), (.list 6 x61df x61d), (.list 6 x61ef x61e), (pB x61f), (.list 7 x61gf x61g)] ∧
            appR 7 112 37 s_2.1.2.1.1 s_2.1.2.1.2.1 s_2.1.2.1.2.2 (.list 7 .nr [[(pI x61a), (pB x61b), (pS x61c), (.list 6 .sh x61d), (.list 6 .sh x61e), (pB x61f), (.list 7 .sh x61g)]]) u_9 fun s63 s63n s63c u_10 =>
            next ((s_2.1.1, (s63, s63n, s63c), (s_2.1.2.2.1, s_2.1.2.2.2.1, s_2.1.2.2.2.2)), (IntKind.wrap .i64 (s_2.2 + (1)))) u_10)
          (CIf (decide ((x21 : Int) < (1)))
            (J_1 ((s_2.1.1, (s_2.1.2.1.1, s_2.1.2.1.2.1, s_2.1.2.1.2.2), (s_2.1.2.2.1, s_2.1.2.2.2.1, s_2.1.2.2.2.2)), (7), (-1)) u_9)
            (CIf (decide ((x21 : Int) > (16)))
              (J_1 ((s_2.1.1, (s_2.1.2.1.1, s_2.1.2.1.2.1, s_2.1.2.1.2.2), (s_2.1.2.2.1, s_2.1.2.2.2.1, s_2.1.2.2.2.2)), (7), (-1)) u_9)
              (J_1 ((s_2.1.1, (s_2.1.2.1.1, s_2.1.2.1.2.1, s_2.1.2.1.2.2), (s_2.1.2.2.1, s_2.1.2.2.2.1, s_2.1.2.2.2.2)), (0), (-1)) u_9))))
        ((x19a, (none, 0, 0), (x19c, x19cn, x19cc)), (0)) u_8)
      (CIf ((x31 : Int) == (1))
        (LoopI (α := (ByteArray × (Option Addr × Nat × Nat) × (Option Addr × Nat × Nat)) × Int) (fun next_1 s_3 u_11 =>
            CIf (decide ((s_3.2 : Int) < x21))
            (withPtrP (.raw (.pointer s.2)) fun b_3 o_3 =>
              ∃ (x81a : ByteArray), ∃ (x81b : ByteArray), ∃ (x81c : Int), ∃ (x81d : ByteArray), ∃ (x81e : Int), ∃ (x81f : Int), ∃ (x81g : ByteArray), ∃ (x81h : Int), ∃ (x81i : ByteArray), ∃ (x81j : Int), ∃ (x81k : ByteArray), ∃ (x81l : Int), ∃ (x81m : ByteArray), ∃ (x81n : Int), ∃ (x81o : Int), ∃ (x81p : ByteArray), ∃ (x81q : Int), ∃ (x81r : ByteArray), ∃ (x81s : Int), rdM u_11 b_3 o_3 19 = some [(pS x81a), (pS x81b), (pI x81c), (pS x81d), (pI x81e), (pI x81f), (pS x81g), (pI x81h), (pS x81i), (pI x81j), (pS x81k), (pI x81l), (pS x81m), (pI x81n), (pI x81o), (pS x81p), (pI x81q), (pS x81r), (pI x81s)] ∧
              appR 19 224 45 s_3.1.2.2.1 s_3.1.2.2.2.1 s_3.1.2.2.2.2 (.list 19 .nr [[(pS x81a), (pS x81b), (pI x81c), (pS x81d), (pI x81e), (pI x81f), (pS x81g), (pI x81h), (pS x81i), (pI x81j), (pS x81k), (pI x81l), (pS x81m), (pI x81n), (pI x81o), (pS x81p), (pI x81q), (pS x81r), (pI x81s)]]) u_11 fun s83 s83n s83c u_12 =>
              next_1 ((s_3.1.1, (s_3.1.2.1.1, s_3.1.2.1.2.1, s_3.1.2.1.2.2), (s83, s83n, s83c)), (IntKind.wrap .i64 (s_3.2 + (1)))) u_12)
            (CIf (decide ((x21 : Int) < (1)))
              (J_1 ((s_3.1.1, (s_3.1.2.1.1, s_3.1.2.1.2.1, s_3.1.2.1.2.2), (s_3.1.2.2.1, s_3.1.2.2.2.1, s_3.1.2.2.2.2)), (7), (-1)) u_11)
              (CIf (decide ((x21 : Int) > (16)))
                (J_1 ((s_3.1.1, (s_3.1.2.1.1, s_3.1.2.1.2.1, s_3.1.2.1.2.2), (s_3.1.2.2.1, s_3.1.2.2.2.1, s_3.1.2.2.2.2)), (7), (-1)) u_11)
                (J_1 ((s_3.1.1, (s_3.1.2.1.1, s_3.1.2.1.2.1, s_3.1.2.1.2.2), (s_3.1.2.2.1, s_3.1.2.2.2.1, s_3.1.2.2.2.2)), (0), (-1)) u_11))))
          ((x19a, (x19b, x19bn, x19bc), (none, 0, 0)), (0)) u_8)
        (CIf ((x31 : Int) == (2))
          (withSl x19b fun b_4 o_4 =>
            (0 : Int) ≤ (0) ∧ (0) < ((x19bn : Nat) : Int) ∧
            stM b_4 ((o_4 + Int.toNat (0) * 7) + 4) [(.raw (.slice none 0 0))] u_8 fun u_13 =>
            LoopI (α := Int) (fun next_2 s_4 u_14 =>
              CIf (decide ((s_4 : Int) < x21))
              (((withSl x19b fun b_5 o_5 =>
                    (0 : Int) ≤ (0) ∧ (0) < ((x19bn : Nat) : Int) ∧
                    (∃ (x108 : Option Addr) (x108n x108c : Nat), rdM u_14 b_5 ((o_5 + Int.toNat (0) * 7) + 4) 1 = some [(.raw (.slice x108 x108n x108c))] ∧
                      (CallP Try.prog 21 [(pI s_4)] u_14 fun v_3 u_15 =>
                        ∃ (x110a : Int), ∃ (x110b : ByteArray), ∃ (x110c : Int), v_3 = (.agg [(pI x110a), (pS x110b), (pI x110c)]) ∧
                        ((appR 6 80 49 x108 x108n x108c (.list 6 .nr [[(pI (2)), (pS ⟨#[]⟩), (pI x110a), (pS x110b), (pI x110c), (.list 3 .sh [])]]) u_15 fun s113 s113n s113c u_16 =>
                        withSl x19b fun b_6 o_6 =>
                        (0 : Int) ≤ (0) ∧ (0) < ((x19bn : Nat) : Int) ∧
                        (stM b_6 ((o_6 + Int.toNat (0) * 7) + 4) [(.raw (.slice s113 s113n s113c))] u_16 fun u_17 =>
                        next_2 (IntKind.wrap .i64 (s_4 + (1))) u_17) ∧
                        True) ∧
                        True) ∧
                        True) ∧
                      True) ∧
                    (CallP Try.prog 21 [(pI s_4)] u_14 fun v_4 u_18 =>
                      ∃ (x110a_1 : Int), ∃ (x110b_1 : ByteArray), ∃ (x110c_1 : Int), v_4 = (.agg [(pI x110a_1), (pS x110b_1), (pI x110c_1)]) ∧
                      ∃ (x108_1 : Option Addr) (x108_1n x108_1c : Nat), rdM u_18 b_5 ((o_5 + Int.toNat (0) * 7) + 4) 1 = some [(.raw (.slice x108_1 x108_1n x108_1c))] ∧
                      ((appR 6 80 49 x108_1 x108_1n x108_1c (.list 6 .nr [[(pI (2)), (pS ⟨#[]⟩), (pI x110a_1), (pS x110b_1), (pI x110c_1), (.list 3 .sh [])]]) u_18 fun s113_1 s113_1n s113_1c u_19 =>
                        withSl x19b fun b_7 o_7 =>
                        (0 : Int) ≤ (0) ∧ (0) < ((x19bn : Nat) : Int) ∧
                        (stM b_7 ((o_7 + Int.toNat (0) * 7) + 4) [(.raw (.slice s113_1 s113_1n s113_1c))] u_19 fun u_20 =>
                        next_2 (IntKind.wrap .i64 (s_4 + (1))) u_20) ∧
                        True) ∧
                        True) ∧
                      True) ∧
                    True) ∧
                  (CallP Try.prog 21 [(pI s_4)] u_14 fun v_5 u_21 =>
                    ∃ (x110a_2 : Int), ∃ (x110b_2 : ByteArray), ∃ (x110c_2 : Int), v_5 = (.agg [(pI x110a_2), (pS x110b_2), (pI x110c_2)]) ∧
                    withSl x19b fun b_8 o_8 =>
                    (0 : Int) ≤ (0) ∧ (0) < ((x19bn : Nat) : Int) ∧
                    ∃ (x108_2 : Option Addr) (x108_2n x108_2c : Nat), rdM u_21 b_8 ((o_8 + Int.toNat (0) * 7) + 4) 1 = some [(.raw (.slice x108_2 x108_2n x108_2c))] ∧
                    ((appR 6 80 49 x108_2 x108_2n x108_2c (.list 6 .nr [[(pI (2)), (pS ⟨#[]⟩), (pI x110a_2), (pS x110b_2), (pI x110c_2), (.list 3 .sh [])]]) u_21 fun s113_2 s113_2n s113_2c u_22 =>
                        withSl x19b fun b_9 o_9 =>
                        (0 : Int) ≤ (0) ∧ (0) < ((x19bn : Nat) : Int) ∧
                        (stM b_9 ((o_9 + Int.toNat (0) * 7) + 4) [(.raw (.slice s113_2 s113_2n s113_2c))] u_22 fun u_23 =>
                        next_2 (IntKind.wrap .i64 (s_4 + (1))) u_23) ∧
                        True) ∧
                      True) ∧
                    True) ∧
                  True) ∧
                (withSl x19b fun b_10 o_10 =>
                  (0 : Int) ≤ (0) ∧ (0) < ((x19bn : Nat) : Int) ∧
                  (∃ (x108_3 : Option Addr) (x108_3n x108_3c : Nat), rdM u_14 b_10 ((o_10 + Int.toNat (0) * 7) + 4) 1 = some [(.raw (.slice x108_3 x108_3n x108_3c))] ∧
                    (CallP Try.prog 21 [(pI s_4)] u_14 fun v_6 u_24 =>
                      ∃ (x110a_3 : Int), ∃ (x110b_3 : ByteArray), ∃ (x110c_3 : Int), v_6 = (.agg [(pI x110a_3), (pS x110b_3), (pI x110c_3)]) ∧
                      (((appR 6 80 49 x108_3 x108_3n x108_3c (.list 6 .nr [[(pI (2)), (pS ⟨#[]⟩), (pI x110a_3), (pS x110b_3), (pI x110c_3), (.list 3 .sh [])]]) u_24 fun s113_3 s113_3n s113_3c u_25 =>
                        withSl x19b fun b_11 o_11 =>
                        (0 : Int) ≤ (0) ∧ (0) < ((x19bn : Nat) : Int) ∧
                        (stM b_11 ((o_11 + Int.toNat (0) * 7) + 4) [(.raw (.slice s113_3 s113_3n s113_3c))] u_25 fun u_26 =>
                        next_2 (IntKind.wrap .i64 (s_4 + (1))) u_26) ∧
                        True) ∧
                        True) ∧
                        True) ∧
                      ((appR 6 80 49 x108_3 x108_3n x108_3c (.list 6 .nr [[(pI (2)), (pS ⟨#[]⟩), (pI x110a_3), (pS x110b_3), (pI x110c_3), (.list 3 .sh [])]]) u_24 fun s113_4 s113_4n s113_4c u_27 =>
                        withSl x19b fun b_12 o_12 =>
                        (0 : Int) ≤ (0) ∧ (0) < ((x19bn : Nat) : Int) ∧
                        (stM b_12 ((o_12 + Int.toNat (0) * 7) + 4) [(.raw (.slice s113_4 s113_4n s113_4c))] u_27 fun u_28 =>
                        next_2 (IntKind.wrap .i64 (s_4 + (1))) u_28) ∧
                        True) ∧
                        True) ∧
                      True) ∧
                    True) ∧
                  (CallP Try.prog 21 [(pI s_4)] u_14 fun v_7 u_29 =>
                    ∃ (x110a_4 : Int), ∃ (x110b_4 : ByteArray), ∃ (x110c_4 : Int), v_7 = (.agg [(pI x110a_4), (pS x110b_4), (pI x110c_4)]) ∧
                    ∃ (x108_4 : Option Addr) (x108_4n x108_4c : Nat), rdM u_29 b_10 ((o_10 + Int.toNat (0) * 7) + 4) 1 = some [(.raw (.slice x108_4 x108_4n x108_4c))] ∧
                    (((appR 6 80 49 x108_4 x108_4n x108_4c (.list 6 .nr [[(pI (2)), (pS ⟨#[]⟩), (pI x110a_4), (pS x110b_4), (pI x110c_4), (.list 3 .sh [])]]) u_29 fun s113_5 s113_5n s113_5c u_30 =>
                        withSl x19b fun b_13 o_13 =>
                        (0 : Int) ≤ (0) ∧ (0) < ((x19bn : Nat) : Int) ∧
                        (stM b_13 ((o_13 + Int.toNat (0) * 7) + 4) [(.raw (.slice s113_5 s113_5n s113_5c))] u_30 fun u_31 =>
                        next_2 (IntKind.wrap .i64 (s_4 + (1))) u_31) ∧
                        True) ∧
                        True) ∧
                      True) ∧
                    ((appR 6 80 49 x108_4 x108_4n x108_4c (.list 6 .nr [[(pI (2)), (pS ⟨#[]⟩), (pI x110a_4), (pS x110b_4), (pI x110c_4), (.list 3 .sh [])]]) u_29 fun s113_6 s113_6n s113_6c u_32 =>
                        withSl x19b fun b_14 o_14 =>
                        (0 : Int) ≤ (0) ∧ (0) < ((x19bn : Nat) : Int) ∧
                        (stM b_14 ((o_14 + Int.toNat (0) * 7) + 4) [(.raw (.slice s113_6 s113_6n s113_6c))] u_32 fun u_33 =>
                        next_2 (IntKind.wrap .i64 (s_4 + (1))) u_33) ∧
                        True) ∧
                      True) ∧
                    True) ∧
                  True) ∧
                (CallP Try.prog 21 [(pI s_4)] u_14 fun v_8 u_34 =>
                  ∃ (x110a_5 : Int), ∃ (x110b_5 : ByteArray), ∃ (x110c_5 : Int), v_8 = (.agg [(pI x110a_5), (pS x110b_5), (pI x110c_5)]) ∧
                  withSl x19b fun b_15 o_15 =>
                  (0 : Int) ≤ (0) ∧ (0) < ((x19bn : Nat) : Int) ∧
                  ∃ (x108_5 : Option Addr) (x108_5n x108_5c : Nat), rdM u_34 b_15 ((o_15 + Int.toNat (0) * 7) + 4) 1 = some [(.raw (.slice x108_5 x108_5n x108_5c))] ∧
                  (((appR 6 80 49 x108_5 x108_5n x108_5c (.list 6 .nr [[(pI (2)), (pS ⟨#[]⟩), (pI x110a_5), (pS x110b_5), (pI x110c_5), (.list 3 .sh [])]]) u_34 fun s113_7 s113_7n s113_7c u_35 =>
                        withSl x19b fun b_16 o_16 =>
                        (0 : Int) ≤ (0) ∧ (0) < ((x19bn : Nat) : Int) ∧
                        (stM b_16 ((o_16 + Int.toNat (0) * 7) + 4) [(.raw (.slice s113_7 s113_7n s113_7c))] u_35 fun u_36 =>
                        next_2 (IntKind.wrap .i64 (s_4 + (1))) u_36) ∧
                        True) ∧
                      True) ∧
                    True) ∧
                  ((appR 6 80 49 x108_5 x108_5n x108_5c (.list 6 .nr [[(pI (2)), (pS ⟨#[]⟩), (pI x110a_5), (pS x110b_5), (pI x110c_5), (.list 3 .sh [])]]) u_34 fun s113_8 s113_8n s113_8c u_37 =>
                      withSl x19b fun b_17 o_17 =>
                      (0 : Int) ≤ (0) ∧ (0) < ((x19bn : Nat) : Int) ∧
                      (stM b_17 ((o_17 + Int.toNat (0) * 7) + 4) [(.raw (.slice s113_8 s113_8n s113_8c))] u_37 fun u_38 =>
                        next_2 (IntKind.wrap .i64 (s_4 + (1))) u_38) ∧
                      True) ∧
                    True) ∧
                  True) ∧
                True)
              (CIf (decide ((x21 : Int) > (4)))
                (J_1 ((x19a, (x19b, x19bn, x19bc), (x19c, x19cn, x19cc)), (7), (0)) u_14)
                (J_1 ((x19a, (x19b, x19bn, x19bc), (x19c, x19cn, x19cc)), (0), (-1)) u_14)))
            (0) u_13)
          (CIf ((x31 : Int) == (3))
            ((0 : Int) ≤ x21 ∧ x21 ≤ x21 ∧ x21 < (4611686018427387904 : Int) ∧ Int.toNat x21 * 32 ≤ 140737488355328 ∧
              ∀ (b121 : Nat), u_8 b121 = none →
              LoopI (α := Int) (fun next_3 s_5 u_39 =>
                CIf (decide ((s_5 : Int) < x21))
                (CallP Try.prog 21 [(pI s_5)] u_39 fun v_9 u_40 =>
                  ∃ (x130a : Int), ∃ (x130b : ByteArray), ∃ (x130c : Int), v_9 = (.agg [(pI x130a), (pS x130b), (pI x130c)]) ∧
                  (0 : Int) ≤ s_5 ∧ s_5 < (((Int.toNat x21) : Nat) : Int) ∧
                  stM b121 (0 + Int.toNat s_5 * 3) [(pI x130a), (pS x130b), (pI x130c)] u_40 fun u_41 =>
                  next_3 (IntKind.wrap .i64 (s_5 + (1))) u_41)
                (∀ (b136 : Nat), u_39 b136 = none →
                  withSl x19b fun b_18 o_18 =>
                  (0 : Int) ≤ (0) ∧ (0) < ((x19bn : Nat) : Int) ∧
                  stM b_18 ((o_18 + Int.toNat (0) * 7) + 4) [(.raw (.slice (some ⟨b136, 0, none⟩) 1 1))] (Mem.set u_39 b136 (some (.cells 49 [(pI (8)), (pS ⟨#[]⟩), (pI (0)), (pS ⟨#[]⟩), (pI (0)), (.raw (.slice (some ⟨b121, 0, none⟩) (Int.toNat x21) (Int.toNat x21)))]))) fun u_42 =>
                  CIf (decide ((x21 : Int) < (1)))
                  (J_1 ((x19a, (x19b, x19bn, x19bc), (x19c, x19cn, x19cc)), (9), (0)) u_42)
                  (CIf (decide ((x21 : Int) > (8)))
                    (J_1 ((x19a, (x19b, x19bn, x19bc), (x19c, x19cn, x19cc)), (9), (0)) u_42)
                    (J_1 ((x19a, (x19b, x19bn, x19bc), (x19c, x19cn, x19cc)), (0), (-1)) u_42))))
              (0) (Mem.set u_8 b121 (some (.cells 39 (List.flatten (List.replicate (Int.toNat x21) [(pI (0)), (pS ⟨#[]⟩), (pI (0))]))))))
            (withPtrP (.raw (.pointer s.1)) fun b_19 o_19 =>
              ∃ (x32a : Int), ∃ (x32b : Bool), ∃ (x32c : ByteArray), ∃ (x32df : Fl) (x32d : List (List PV)), ∃ (x32ef : Fl) (x32e : List (List PV)), ∃ (x32f : Bool), ∃ (x32gf : Fl) (x32g : List (List PV)), rdM u_8 b_19 o_19 7 = some [(pI x32a), (pB x32b), (pS x32c), (.list 6 x32df x32d), (.list 6 x32ef x32e), (pB x32f), (.list 7 x32gf x32g)] ∧
              LoopI (α := (Fl × List (List PV)) × Int) (fun next_4 s_6 u_43 =>
                CIf (decide ((s_6.2 : Int) < x21))
                (next_4 ((.nr, [[(pI (3)), (pB false), (pS ⟨#[]⟩), (.list 6 .sh []), (.list 6 .sh []), (pB false), (.list 7 .sh s_6.1.2)]]), (IntKind.wrap .i64 (s_6.2 + (1)))) u_43)
                (withPtrP (.raw (.pointer s.1)) fun b_20 o_20 =>
                  ∃ (x42a : Int), ∃ (x42b : Bool), ∃ (x42c : ByteArray), ∃ (x42df : Fl) (x42d : List (List PV)), ∃ (x42ef : Fl) (x42e : List (List PV)), ∃ (x42f : Bool), ∃ (x42gf : Fl) (x42g : List (List PV)), rdM u_43 b_20 o_20 7 = some [(pI x42a), (pB x42b), (pS x42c), (.list 6 x42df x42d), (.list 6 x42ef x42e), (pB x42f), (.list 7 x42gf x42g)] ∧
                  ∀ (b43 : Nat), u_43 b43 = none →
                  appR 7 112 37 (some ⟨b43, 0, none⟩) 1 1 (.list 7 s_6.1.1 s_6.1.2) (Mem.set u_43 b43 (some (.cells 37 [(pI x42a), (pB x42b), (pS x42c), (.list 6 .sh x42d), (.list 6 .sh x42e), (pB x42f), (.list 7 .sh x42g)]))) fun s45 s45n s45c u_44 =>
                  CIf (decide ((x21 : Int) > (14)))
                  (J_1 ((x19a, (s45, s45n, s45c), (x19c, x19cn, x19cc)), (7), (-1)) u_44)
                  (CIf (decide ((x21 : Int) > (3)))
                    (J_1 ((x19a, (s45, s45n, s45c), (x19c, x19cn, x19cc)), (8), (4)) u_44)
                    (J_1 ((x19a, (s45, s45n, s45c), (x19c, x19cn, x19cc)), (0), (-1)) u_44))))
              ((.nr, [[(pI x32a), (pB x32b), (pS x32c), (.list 6 .sh x32d), (.list 6 .sh x32e), (pB x32f), (.list 7 .sh x32g)]]), (0)) u_8)))))
    (fun s_1 u_7 =>
      CallP Try.prog 16 [(.agg [(pS s_1.1.1), (.raw (.slice s_1.1.2.1.1 s_1.1.2.1.2.1 s_1.1.2.1.2.2)), (.raw (.slice s_1.1.2.2.1 s_1.1.2.2.2.1 s_1.1.2.2.2.2))])] u_7 fun v_10 u_45 =>
      ∃ (x147p : Int), ∃ (x147q : Int), v_10 = (.tup [(pI x147p), (pI x147q)]) ∧
      CIf ((x147p : Int) == s_1.2.2)
      (CIf ((x147q : Int) == s_1.2.1)
        (CallP Try.prog 12 [] u_45 fun v_11 u_46 =>
          ∃ (x159 : Bool), v_11 = (pB x159) ∧
          R (pB x159) u_46)
        (R (pB false) u_45))
      (R (pB false) u_45)))

theorem G_ponderlaw06_ShapeEdges.ok (a0 : Int) (a1 : Int) (u0 : Mem) (R : PV → Mem → Prop) : G_ponderlaw06_ShapeEdges.sh a0 a1 u0 R = VF ⟨Try.prog, 161, [5, 1000037], [(8, ⟨[(15, .one (.list 7)), (16, .one (.raw (.int .i64)))], []⟩), (19, ⟨[(5, .box [.raw .str, .raw .slice, .raw .slice]), (10, .one (.raw (.int .i64)))], []⟩), (27, ⟨[(5, .box [.raw .str, .raw .slice, .raw .slice]), (11, .one (.raw (.int .i64)))], []⟩), (35, ⟨[(12, .one (.raw (.int .i64)))], []⟩), (43, ⟨[(14, .one (.raw (.int .i64)))], []⟩)], [(5, ⟨[(8, .one (.raw .ptr)), (9, .one (.raw .ptr))], []⟩), (49, ⟨[(5, .box [.raw .str, .raw .slice, .raw .slice]), (6, .one (.raw (.int .i64))), (7, .one (.raw (.int .i64)))], []⟩)], [], [], [43, 136], [5, 13, 19, 23, 27, 60, 63, 80, 83, 94, 96, 103, 105, 108, 113, 121, 127, 133, 134, 146]⟩ ((Try.f5.body).getD .skip) [.tmp 4] [(pI a0), (pI a1)] u0 R := by kernel_rfl

theorem G_ponderlaw06_ShapeEdges.c {a0 : Int} {a1 : Int} {u0 : Mem} {K : PV → Mem → Prop} (h : G_ponderlaw06_ShapeEdges.sh a0 a1 u0 K) : CallP Try.prog 5 [(pI a0), (pI a1)] u0 K :=
  VF_sound (E := ⟨Try.prog, 161, [5, 1000037], [(8, ⟨[(15, .one (.list 7)), (16, .one (.raw (.int .i64)))], []⟩), (19, ⟨[(5, .box [.raw .str, .raw .slice, .raw .slice]), (10, .one (.raw (.int .i64)))], []⟩), (27, ⟨[(5, .box [.raw .str, .raw .slice, .raw .slice]), (11, .one (.raw (.int .i64)))], []⟩), (35, ⟨[(12, .one (.raw (.int .i64)))], []⟩), (43, ⟨[(14, .one (.raw (.int .i64)))], []⟩)], [(5, ⟨[(8, .one (.raw .ptr)), (9, .one (.raw .ptr))], []⟩), (49, ⟨[(5, .box [.raw .str, .raw .slice, .raw .slice]), (6, .one (.raw (.int .i64))), (7, .one (.raw (.int .i64)))], []⟩)], [], [], [43, 136], [5, 13, 19, 23, 27, 60, 63, 80, 83, 94, 96, 103, 105, 108, 113, 121, 127, 133, 134, 146]⟩) (rs := [.tmp 4]) Try.func5 rfl rfl rfl (by kernel_rfl) (by kernel_rfl) (G_ponderlaw06_ShapeEdges.ok a0 a1 u0 K ▸ h)


/-- ponder/ponderlaw06.ShapeVars -/
def G_ponderlaw06_ShapeVars.sh (a0a : ByteArray) (a0bf : Fl) (a0b : List (List PV)) (a0cf : Fl) (a0c : List (List PV)) (u0 : Mem) (R : PV → Mem → Prop) : Prop :=
  CallP Try.prog 11 [(.agg [(pS a0a), (.list 7 .sh a0b), (.list 19 .sh a0c)])] u0 fun v u =>
  ∃ (x6 : Bool), v = (pB x6) ∧
  CIf x6
  (CallP Try.prog 12 [] u fun v_1 u_1 =>
    ∃ (x7 : Bool), v_1 = (pB x7) ∧
    R (pB x7) u_1)
  (CallP Try.prog 22 [(.agg [(pS a0a), (.list 7 .sh a0b), (.list 19 .sh a0c)])] u fun v_2 u_2 =>
    ∃ (x9 : Option Addr) (x9n x9c : Nat), v_2 = (.raw (.slice x9 x9n x9c)) ∧
    CallP Try.prog 24 [(.agg [(pS a0a), (.list 7 .sh a0b), (.list 19 .sh a0c)])] u_2 fun v_3 u_3 =>
    ∃ (x12f : Fl) (x12 : List (List PV)), v_3 = (.list 1 x12f x12) ∧
    CallP Try.prog 23 [(.raw (.slice x9 x9n x9c)), (.list 1 x12f x12)] u_3 fun v_4 u_4 =>
    ∃ (x13 : Bool), v_4 = (pB x13) ∧
    CIf (!x13)
    (R (pB false) u_4)
    (LoopI (α := Int) (fun next s u_5 =>
        CIf (decide ((s : Int) < ((x9n : Nat) : Int)))
        (withSl x9 fun b o =>
          (0 : Int) ≤ s ∧ s < ((x9n : Nat) : Int) ∧
          stM b (o + Int.toNat s * 1) [(pS ⟨#[103, 111, 110, 101]⟩)] u_5 fun u_6 =>
          next (IntKind.wrap .i64 (s + (1))) u_6)
        (CallQ Try.prog 22 [(.agg [(pS a0a), (.list 7 .sh a0b), (.list 19 .sh a0c)])] u_5 fun v_5 u_7 =>
          ∃ (x25f : Fl) (x25 : List (List PV)), v_5 = (.list 1 x25f x25) ∧
          CallP Try.prog 24 [(.agg [(pS a0a), (.list 7 .sh a0b), (.list 19 .sh a0c)])] (Mem.or u_5 u_7) fun v_6 u_8 =>
          ∃ (x27f : Fl) (x27 : List (List PV)), v_6 = (.list 1 x27f x27) ∧
          CallP Try.prog 23 [(.list 1 x25f x25), (.list 1 x27f x27)] u_8 fun v_7 u_9 =>
          ∃ (x28 : Bool), v_7 = (pB x28) ∧
          CIf x28
          (CallP Try.prog 12 [] u_9 fun v_8 u_10 =>
            ∃ (x30 : Bool), v_8 = (pB x30) ∧
            R (pB x30) u_10)
          (R (pB false) u_9)))
      (0) u_4))

theorem G_ponderlaw06_ShapeVars.ok (a0a : ByteArray) (a0bf : Fl) (a0b : List (List PV)) (a0cf : Fl) (a0c : List (List PV)) (u0 : Mem) (R : PV → Mem → Prop) : G_ponderlaw06_ShapeVars.sh a0a a0bf a0b a0cf a0c u0 R = VF ⟨Try.prog, 32, [1], [(7, ⟨[(4, .one (.raw (.int .i64)))], []⟩)], [], [], [], [], [9]⟩ ((Try.f6.body).getD .skip) [.tmp 2] [(.agg [(pS a0a), (.list 7 a0bf a0b), (.list 19 a0cf a0c)])] u0 R := by kernel_rfl

theorem G_ponderlaw06_ShapeVars.c {a0a : ByteArray} {a0bf : Fl} {a0b : List (List PV)} {a0cf : Fl} {a0c : List (List PV)} {u0 : Mem} {K : PV → Mem → Prop} (h : G_ponderlaw06_ShapeVars.sh a0a a0bf a0b a0cf a0c u0 K) : CallP Try.prog 6 [(.agg [(pS a0a), (.list 7 a0bf a0b), (.list 19 a0cf a0c)])] u0 K :=
  VF_sound (E := ⟨Try.prog, 32, [1], [(7, ⟨[(4, .one (.raw (.int .i64)))], []⟩)], [], [], [], [], [9]⟩) (rs := [.tmp 2]) Try.func6 rfl rfl rfl (by kernel_rfl) (by kernel_rfl) (G_ponderlaw06_ShapeVars.ok a0a a0bf a0b a0cf a0c u0 K ▸ h)


/-- ponder/ponderlaw06.ShapeNames -/
def G_ponderlaw06_ShapeNames.sh (a0a : ByteArray) (a0bf : Fl) (a0b : List (List PV)) (a0cf : Fl) (a0c : List (List PV)) (u0 : Mem) (R : PV → Mem → Prop) : Prop :=
  CallP Try.prog 11 [(.agg [(pS a0a), (.list 7 .sh a0b), (.list 19 .sh a0c)])] u0 fun v u =>
  ∃ (x16 : Bool), v = (pB x16) ∧
  CIf x16
  (CallP Try.prog 12 [] u fun v_1 u_1 =>
    ∃ (x17 : Bool), v_1 = (pB x17) ∧
    R (pB x17) u_1)
  (CallP Try.prog 13 [(.agg [(pS a0a), (.list 7 .sh a0b), (.list 19 .sh a0c)])] u fun v_2 u_2 =>
    ∃ (x20p : Int), ∃ (x20q : Int), v_2 = (.tup [(pI x20p), (pI x20q)]) ∧
    CIf ((x20q : Int) != (0))
    (CallP Try.prog 12 [] u_2 fun v_3 u_3 =>
      ∃ (x25 : Bool), v_3 = (pB x25) ∧
      R (pB x25) u_3)
    (CallP Try.prog 15 [(.agg [(pS a0a), (.list 7 .sh a0b), (.list 19 .sh a0c)])] u_2 fun v_4 u_4 =>
      ∃ (x27a : ByteArray), ∃ (x27b : Option Addr) (x27bn x27bc : Nat), ∃ (x27c : Option Addr) (x27cn x27cc : Nat), v_4 = (.agg [(pS x27a), (.raw (.slice x27b x27bn x27bc)), (.raw (.slice x27c x27cn x27cc))]) ∧
      CallP Try.prog 25 [(.raw (.slice x27b x27bn x27bc))] u_4 fun v_5 u_5 =>
       v_5 = (.tup []) ∧
      LoopI (α := Int) (fun next s u_6 =>
        CIf (decide ((s : Int) < ((x27cn : Nat) : Int)))
        (withSl x27c fun b o =>
          (0 : Int) ≤ s ∧ s < ((x27cn : Nat) : Int) ∧
          ∃ (x46 : ByteArray), rdM u_6 b (o + Int.toNat s * 19) 1 = some [(pS x46)] ∧
          CallP Try.prog 26 [(pS x46)] u_6 fun v_6 u_7 =>
          ∃ (x47 : ByteArray), v_6 = (pS x47) ∧
          stM b (o + Int.toNat s * 19) [(pS x47)] u_7 fun u_8 =>
          ∃ (x55 : ByteArray), rdM u_8 b ((o + Int.toNat s * 19) + 1) 1 = some [(pS x55)] ∧
          CallP Try.prog 26 [(pS x55)] u_8 fun v_7 u_9 =>
          ∃ (x56 : ByteArray), v_7 = (pS x56) ∧
          stM b ((o + Int.toNat s * 19) + 1) [(pS x56)] u_9 fun u_10 =>
          ∃ (x66 : ByteArray), rdM u_10 b (((o + Int.toNat s * 19) + 5) + 1) 1 = some [(pS x66)] ∧
          CallP Try.prog 26 [(pS x66)] u_10 fun v_8 u_11 =>
          ∃ (x67 : ByteArray), v_8 = (pS x67) ∧
          stM b (((o + Int.toNat s * 19) + 5) + 1) [(pS x67)] u_11 fun u_12 =>
          ∃ (x78 : ByteArray), rdM u_12 b (((o + Int.toNat s * 19) + 5) + 5) 1 = some [(pS x78)] ∧
          CallP Try.prog 26 [(pS x78)] u_12 fun v_9 u_13 =>
          ∃ (x79 : ByteArray), v_9 = (pS x79) ∧
          stM b (((o + Int.toNat s * 19) + 5) + 5) [(pS x79)] u_13 fun u_14 =>
          ∃ (x89 : ByteArray), rdM u_14 b ((o + Int.toNat s * 19) + 15) 1 = some [(pS x89)] ∧
          CallP Try.prog 26 [(pS x89)] u_14 fun v_10 u_15 =>
          ∃ (x90 : ByteArray), v_10 = (pS x90) ∧
          stM b ((o + Int.toNat s * 19) + 15) [(pS x90)] u_15 fun u_16 =>
          next (IntKind.wrap .i64 (s + (1))) u_16)
        (CallP Try.prog 16 [(.agg [(pS a0a), (.list 7 .sh a0b), (.list 19 .sh a0c)])] u_6 fun v_11 u_17 =>
          ∃ (x96p : Int), ∃ (x96q : Int), v_11 = (.tup [(pI x96p), (pI x96q)]) ∧
          CallP Try.prog 16 [(.agg [(pS x27a), (.raw (.slice x27b x27bn x27bc)), (.raw (.slice x27c x27cn x27cc))])] u_17 fun v_12 u_18 =>
          ∃ (x101p : Int), ∃ (x101q : Int), v_12 = (.tup [(pI x101p), (pI x101q)]) ∧
          CallQ Try.prog 22 [(.agg [(pS a0a), (.list 7 .sh a0b), (.list 19 .sh a0c)])] u_18 fun v_13 u_19 =>
          ∃ (x105f : Fl) (x105 : List (List PV)), v_13 = (.list 1 x105f x105) ∧
          CallP Try.prog 22 [(.agg [(pS x27a), (.raw (.slice x27b x27bn x27bc)), (.raw (.slice x27c x27cn x27cc))])] (Mem.or u_18 u_19) fun v_14 u_20 =>
          ∃ (x107f : Fl) (x107 : List (List PV)), v_14 = (.list 1 x107f x107) ∧
          CIf ((x96p : Int) != x101p)
          (R (pB false) u_20)
          (CIf ((x96q : Int) != x101q)
            (R (pB false) u_20)
            (CIf ((((List.length x105 : Nat) : Int) : Int) != ((List.length x107 : Nat) : Int))
              (R (pB false) u_20)
              (LoopI (α := Int) (fun next_1 s_1 u_21 =>
                  CIf (decide ((s_1 : Int) < ((List.length x105 : Nat) : Int)))
                  ((0 : Int) ≤ s_1 ∧ ∃ (r131 : List PV), (x105)[Int.toNat s_1]? = some r131 ∧
                    ∃ (x132 : ByteArray), rowM r131 0 1 = some [(pS x132)] ∧
                    (0 : Int) ≤ s_1 ∧ ∃ (r136 : List PV), (x107)[Int.toNat s_1]? = some r136 ∧
                    ∃ (x137 : ByteArray), rowM r136 0 1 = some [(pS x137)] ∧
                    CallQ Try.prog 26 [(pS x132)] u_21 fun v_15 u_22 =>
                    ∃ (x133 : ByteArray), v_15 = (pS x133) ∧
                    CIf (!strEq x133 x137)
                    (R (pB false) (Mem.or u_21 u_22))
                    (next_1 (IntKind.wrap .i64 (s_1 + (1))) (Mem.or u_21 u_22)))
                  (CallP Try.prog 12 [] u_21 fun v_16 u_23 =>
                    ∃ (x139 : Bool), v_16 = (pB x139) ∧
                    R (pB x139) u_23))
                (0) u_20)))))
      (0) u_5))

theorem G_ponderlaw06_ShapeNames.ok (a0a : ByteArray) (a0bf : Fl) (a0b : List (List PV)) (a0cf : Fl) (a0c : List (List PV)) (u0 : Mem) (R : PV → Mem → Prop) : G_ponderlaw06_ShapeNames.sh a0a a0bf a0b a0cf a0c u0 R = VF ⟨Try.prog, 140, [1, 5], [(9, ⟨[(6, .one (.raw (.int .i64)))], []⟩), (23, ⟨[(14, .one (.raw (.int .i64)))], []⟩)], [], [], [], [], [5, 27, 29, 33, 39, 100, 106]⟩ ((Try.f7.body).getD .skip) [.tmp 2] [(.agg [(pS a0a), (.list 7 a0bf a0b), (.list 19 a0cf a0c)])] u0 R := by kernel_rfl

theorem G_ponderlaw06_ShapeNames.c {a0a : ByteArray} {a0bf : Fl} {a0b : List (List PV)} {a0cf : Fl} {a0c : List (List PV)} {u0 : Mem} {K : PV → Mem → Prop} (h : G_ponderlaw06_ShapeNames.sh a0a a0bf a0b a0cf a0c u0 K) : CallP Try.prog 7 [(.agg [(pS a0a), (.list 7 a0bf a0b), (.list 19 a0cf a0c)])] u0 K :=
  VF_sound (E := ⟨Try.prog, 140, [1, 5], [(9, ⟨[(6, .one (.raw (.int .i64)))], []⟩), (23, ⟨[(14, .one (.raw (.int .i64)))], []⟩)], [], [], [], [], [5, 27, 29, 33, 39, 100, 106]⟩) (rs := [.tmp 2]) Try.func7 rfl rfl rfl (by kernel_rfl) (by kernel_rfl) (G_ponderlaw06_ShapeNames.ok a0a a0bf a0b a0cf a0c u0 K ▸ h)


/-- ponder/ponderlaw06.ShapeInside -/
def G_ponderlaw06_ShapeInside.sh (a0 : Int) (a1 : Int) (u0 : Mem) (R : PV → Mem → Prop) : Prop :=
  CallP Try.prog 19 [] u0 fun v u =>
  ∃ (x13a : ByteArray), ∃ (x13b : Option Addr) (x13bn x13bc : Nat), ∃ (x13c : Option Addr) (x13cn x13cc : Nat), v = (.agg [(pS x13a), (.raw (.slice x13b x13bn x13bc)), (.raw (.slice x13c x13cn x13cc))]) ∧
  CallP Try.prog 27 [(pS ⟨#[112]⟩)] u fun v_1 u_1 =>
  ∃ (x14a : Int), ∃ (x14b : ByteArray), ∃ (x14c : Int), v_1 = (.agg [(pI x14a), (pS x14b), (pI x14c)]) ∧
  CJoin (α := Int × Bool × ByteArray × (Fl × List (List PV)) × (Fl × List (List PV)) × Bool × (Fl × List (List PV))) (fun J =>
    CallP Try.prog 20 [(pI a0), (pI (3))] u_1 fun v_2 u_3 =>
    ∃ (x21 : Int), v_2 = (pI x21) ∧
    CIf ((x21 : Int) == (0))
    (J ((2), false, ⟨#[115]⟩, (.nr, [[(pI (1)), (pS ⟨#[]⟩), (pI x14a), (pS x14b), (pI x14c), (.list 3 .sh [])]]), (.nr, [[(pI (1)), (pS ⟨#[118]⟩), (pI (0)), (pS ⟨#[]⟩), (pI (0)), (.list 3 .sh [])]]), false, (.nil, [])) u_3)
    (CIf ((x21 : Int) == (1))
      (J ((3), false, ⟨#[]⟩, (.nil, []), (.nil, []), false, (.nr, [[(pI (1)), (pB false), (pS ⟨#[115]⟩), (.list 6 .sh [[(pI (1)), (pS ⟨#[]⟩), (pI x14a), (pS x14b), (pI x14c), (.list 3 .sh [])]]), (.list 6 .sh [[(pI (1)), (pS ⟨#[118]⟩), (pI (0)), (pS ⟨#[]⟩), (pI (0)), (.list 3 .sh [])]]), (pB false), (.list 7 .sh [])]])) u_3)
      (J ((1), false, ⟨#[115]⟩, (.nr, [[(pI (1)), (pS ⟨#[]⟩), (pI x14a), (pS x14b), (pI x14c), (.list 3 .sh [])]]), (.nr, [[(pI (1)), (pS ⟨#[118]⟩), (pI (0)), (pS ⟨#[]⟩), (pI (0)), (.list 3 .sh [])]]), false, (.nil, [])) u_3)))
  (fun s u_2 =>
    appR 7 112 37 x13b x13bn x13bc (.list 7 .nr [[(pI s.1), (pB s.2.1), (pS s.2.2.1), (.list 6 .sh s.2.2.2.1.2), (.list 6 .sh s.2.2.2.2.1.2), (pB s.2.2.2.2.2.1), (.list 7 .sh s.2.2.2.2.2.2.2)]]) u_2 fun s37 s37n s37c u_4 =>
    CallP Try.prog 27 [(pS ⟨#[113]⟩)] u_4 fun v_3 u_5 =>
    ∃ (x39a : Int), ∃ (x39b : ByteArray), ∃ (x39c : Int), v_3 = (.agg [(pI x39a), (pS x39b), (pI x39c)]) ∧
    noSpot s37 ∧ (0 : Int) ≤ (1) ∧ (1) ≤ ((s37n : Nat) : Int) ∧ ((s37n : Nat) : Int) ≤ ((s37c : Nat) : Int) ∧ ((s37c : Nat) : Int) ≤ ((s37c : Nat) : Int) ∧
    CallP Try.prog 28 [(.raw (.slice (slA s37 (Int.toNat (1)) (Int.toNat ((s37c : Nat) : Int)) 7) (Int.toNat ((s37n : Nat) : Int) - Int.toNat (1)) (Int.toNat ((s37c : Nat) : Int) - Int.toNat (1))))] u_5 fun v_4 u_6 =>
    ∃ (x46 : Int), v_4 = (pI x46) ∧
    CJoin (α := (Int × Bool × ByteArray × (Fl × List (List PV)) × (Fl × List (List PV)) × Bool × (Fl × List (List PV))) × Int × Int) (fun J_1 =>
      CallP Try.prog 20 [(pI a1), (pI (4))] u_6 fun v_5 u_8 =>
      ∃ (x49 : Int), v_5 = (pI x49) ∧
      CIf ((x49 : Int) == (0))
      (J_1 (((1), false, ⟨#[118]⟩, (.nr, [[(pI (1)), (pS ⟨#[]⟩), (pI x39a), (pS x39b), (pI x39c), (.list 3 .sh [])]]), (.nil, []), false, (.nil, [])), (IntKind.wrap .i64 ((1) + x46)), (6)) u_8)
      (CIf ((x49 : Int) == (1))
        (J_1 (((1), false, ⟨#[115]⟩, (.nr, [[(pI (1)), (pS ⟨#[]⟩), (pI x39a), (pS x39b), (pI x39c), (.list 3 .sh [])]]), (.nr, [[(pI (2)), (pS ⟨#[118]⟩), (pI (0)), (pS ⟨#[]⟩), (pI (0)), (.list 3 .sh [])]]), false, (.nil, [])), (IntKind.wrap .i64 ((1) + x46)), (6)) u_8)
        (CIf ((x49 : Int) == (2))
          (J_1 (((1), false, ⟨#[115]⟩, (.nr, [[(pI (1)), (pS ⟨#[]⟩), (pI x39a), (pS x39b), (pI x39c), (.list 3 .sh [])]]), (.nr, [[(pI (1)), (pS ⟨#[118]⟩), (pI (0)), (pS ⟨#[]⟩), (pI (0)), (.list 3 .sh [])]]), false, (.nil, [])), (IntKind.wrap .i64 ((1) + x46)), (0)) u_8)
          (withSl x13c fun b o =>
            (0 : Int) ≤ (0) ∧ (0) < ((x13cn : Nat) : Int) ∧
            stM b ((o + Int.toNat (0) * 19) + 1) [(pS ⟨#[118]⟩), (pI (0)), (pS ⟨#[]⟩), (pI (0))] u_8 fun u_9 =>
            J_1 (((1), false, ⟨#[115]⟩, (.nr, [[(pI (1)), (pS ⟨#[]⟩), (pI x39a), (pS x39b), (pI x39c), (.list 3 .sh [])]]), (.nil, []), false, (.nil, [])), (IntKind.wrap .i64 ((IntKind.wrap .i64 ((1) + x46)) + (1))), (6)) u_9))))
    (fun s_1 u_7 =>
      CJoin (α := Int) (fun J_2 =>
        CIf ((s.1 : Int) == (1))
        (J_2 (0) u_7)
        (J_2 s_1.2.2 u_7))
      (fun s_2 u_10 =>
        appR 7 112 37 s37 s37n s37c (.list 7 .nr [[(pI s_1.1.1), (pB s_1.1.2.1), (pS s_1.1.2.2.1), (.list 6 .sh s_1.1.2.2.2.1.2), (.list 6 .sh s_1.1.2.2.2.2.1.2), (pB s_1.1.2.2.2.2.2.1), (.list 7 .sh s_1.1.2.2.2.2.2.2.2)]]) u_10 fun s75 s75n s75c u_11 =>
        CallP Try.prog 16 [(.agg [(pS x13a), (.raw (.slice s75 s75n s75c)), (.raw (.slice x13c x13cn x13cc))])] u_11 fun v_6 u_12 =>
        ∃ (x79p : Int), ∃ (x79q : Int), v_6 = (.tup [(pI x79p), (pI x79q)]) ∧
        CIf ((s_2 : Int) == (0))
        (CIf ((x79p : Int) == (-1))
          (CIf ((x79q : Int) == (0))
            (CallP Try.prog 12 [] u_12 fun v_7 u_13 =>
              ∃ (x91 : Bool), v_7 = (pB x91) ∧
              R (pB x91) u_13)
            (R (pB false) u_12))
          (R (pB false) u_12))
        (CIf ((x79p : Int) == s_1.2.1)
          (CIf ((x79q : Int) == s_2)
            (CallP Try.prog 12 [] u_12 fun v_8 u_14 =>
              ∃ (x102 : Bool), v_8 = (pB x102) ∧
              R (pB x102) u_14)
            (R (pB false) u_12))
          (R (pB false) u_12)))))

theorem G_ponderlaw06_ShapeInside.ok (a0 : Int) (a1 : Int) (u0 : Mem) (R : PV → Mem → Prop) : G_ponderlaw06_ShapeInside.sh a0 a1 u0 R = VF ⟨Try.prog, 104, [5, 6, 8], [], [(8, ⟨[(6, .box [.raw (.int .i64), .raw .bool, .raw .str, .list 6, .list 6, .raw .bool, .list 7])], []⟩), (23, ⟨[(8, .box [.raw (.int .i64), .raw .bool, .raw .str, .list 6, .list 6, .raw .bool, .list 7]), (9, .one (.raw (.int .i64))), (10, .one (.raw (.int .i64)))], []⟩), (25, ⟨[(10, .one (.raw (.int .i64)))], []⟩)], [], [], [], [5, 13, 34, 44, 51, 72, 78]⟩ ((Try.f8.body).getD .skip) [.tmp 4] [(pI a0), (pI a1)] u0 R := by kernel_rfl

theorem G_ponderlaw06_ShapeInside.c {a0 : Int} {a1 : Int} {u0 : Mem} {K : PV → Mem → Prop} (h : G_ponderlaw06_ShapeInside.sh a0 a1 u0 K) : CallP Try.prog 8 [(pI a0), (pI a1)] u0 K :=
  VF_sound (E := ⟨Try.prog, 104, [5, 6, 8], [], [(8, ⟨[(6, .box [.raw (.int .i64), .raw .bool, .raw .str, .list 6, .list 6, .raw .bool, .list 7])], []⟩), (23, ⟨[(8, .box [.raw (.int .i64), .raw .bool, .raw .str, .list 6, .list 6, .raw .bool, .list 7]), (9, .one (.raw (.int .i64))), (10, .one (.raw (.int .i64)))], []⟩), (25, ⟨[(10, .one (.raw (.int .i64)))], []⟩)], [], [], [], [5, 13, 34, 44, 51, 72, 78]⟩) (rs := [.tmp 4]) Try.func8 rfl rfl rfl (by kernel_rfl) (by kernel_rfl) (G_ponderlaw06_ShapeInside.ok a0 a1 u0 K ▸ h)


/-- ponder/ponderlaw06.ShapeEach -/
def G_ponderlaw06_ShapeEach.sh (a0a : ByteArray) (a0bf : Fl) (a0b : List (List PV)) (a0cf : Fl) (a0c : List (List PV)) (a1 : Int) (u0 : Mem) (R : PV → Mem → Prop) : Prop :=
  CallP Try.prog 11 [(.agg [(pS a0a), (.list 7 .sh a0b), (.list 19 .sh a0c)])] u0 fun v u =>
  ∃ (x11 : Bool), v = (pB x11) ∧
  CIf x11
  (CallP Try.prog 12 [] u fun v_1 u_1 =>
    ∃ (x12 : Bool), v_1 = (pB x12) ∧
    R (pB x12) u_1)
  (CallP Try.prog 29 [(.list 7 a0bf a0b)] u fun v_2 u_2 =>
    ∃ (x15f : Fl) (x15 : List (List PV)), v_2 = (.list 7 x15f x15) ∧
    CallP Try.prog 20 [(pI a1), (pI (IntKind.wrap .i64 (((List.length x15 : Nat) : Int) + (1))))] u_2 fun v_3 u_3 =>
    ∃ (x20 : Int), v_3 = (pI x20) ∧
    CallP Try.prog 30 [(.list 7 a0bf a0b), (pI (1000))] u_3 fun v_4 u_4 =>
    ∃ (x25p : Option Addr) (x25pn x25pc : Nat), ∃ (x25q : Bool), v_4 = (.tup [(.raw (.slice x25p x25pn x25pc)), (pB x25q)]) ∧
    CallP Try.prog 30 [(.list 7 a0bf a0b), (pI (IntKind.wrap .i64 ((1) + x20)))] u_4 fun v_5 u_5 =>
    ∃ (x32p : Option Addr) (x32pn x32pc : Nat), ∃ (x32q : Bool), v_5 = (.tup [(.raw (.slice x32p x32pn x32pc)), (pB x32q)]) ∧
    CIf x25q
    (CIf x32q
      (CallP Try.prog 31 [(.raw (.slice x25p x25pn x25pc)), (.list 7 x15f x15)] u_5 fun v_6 u_6 =>
        ∃ (x42 : Bool), v_6 = (pB x42) ∧
        CIf x42
        ((0 : Int) ≤ (0 : Int) ∧ (0 : Int) ≤ (if ((List.length x15 : Nat) : Int) < (IntKind.wrap .i64 ((1) + x20)) then ((List.length x15 : Nat) : Int) else (IntKind.wrap .i64 ((1) + x20))) ∧ (if ((List.length x15 : Nat) : Int) < (IntKind.wrap .i64 ((1) + x20)) then ((List.length x15 : Nat) : Int) else (IntKind.wrap .i64 ((1) + x20))) ≤ ((List.length x15 : Nat) : Int) ∧ 
          CallP Try.prog 31 [(.raw (.slice x32p x32pn x32pc)), (.list 7 .sh (List.drop (Int.toNat (0 : Int)) (List.take (Int.toNat (if ((List.length x15 : Nat) : Int) < (IntKind.wrap .i64 ((1) + x20)) then ((List.length x15 : Nat) : Int) else (IntKind.wrap .i64 ((1) + x20)))) x15)))] u_6 fun v_7 u_7 =>
          ∃ (x52 : Bool), v_7 = (pB x52) ∧
          CIf x52
          (CallP Try.prog 28 [(.list 7 a0bf a0b)] u_7 fun v_8 u_8 =>
            ∃ (x57 : Int), v_8 = (pI x57) ∧
            CIf ((x57 : Int) == ((List.length x15 : Nat) : Int))
            (CallP Try.prog 12 [] u_8 fun v_9 u_9 =>
              ∃ (x63 : Bool), v_9 = (pB x63) ∧
              R (pB x63) u_9)
            (R (pB false) u_8))
          (R (pB false) u_7))
        (R (pB false) u_6))
      (R (pB false) u_5))
    (R (pB false) u_5))

theorem G_ponderlaw06_ShapeEach.ok (a0a : ByteArray) (a0bf : Fl) (a0b : List (List PV)) (a0cf : Fl) (a0c : List (List PV)) (a1 : Int) (u0 : Mem) (R : PV → Mem → Prop) : G_ponderlaw06_ShapeEach.sh a0a a0bf a0b a0cf a0c a1 u0 R = VF ⟨Try.prog, 65, [2], [], [], [], [], [], [25, 32]⟩ ((Try.f9.body).getD .skip) [.tmp 4] [(.agg [(pS a0a), (.list 7 a0bf a0b), (.list 19 a0cf a0c)]), (pI a1)] u0 R := by kernel_rfl

theorem G_ponderlaw06_ShapeEach.c {a0a : ByteArray} {a0bf : Fl} {a0b : List (List PV)} {a0cf : Fl} {a0c : List (List PV)} {a1 : Int} {u0 : Mem} {K : PV → Mem → Prop} (h : G_ponderlaw06_ShapeEach.sh a0a a0bf a0b a0cf a0c a1 u0 K) : CallP Try.prog 9 [(.agg [(pS a0a), (.list 7 a0bf a0b), (.list 19 a0cf a0c)]), (pI a1)] u0 K :=
  VF_sound (E := ⟨Try.prog, 65, [2], [], [], [], [], [], [25, 32]⟩) (rs := [.tmp 4]) Try.func9 rfl rfl rfl (by kernel_rfl) (by kernel_rfl) (G_ponderlaw06_ShapeEach.ok a0a a0bf a0b a0cf a0c a1 u0 K ▸ h)


/-- ponder/ponderlaw06.ShapeConsts -/
def G_ponderlaw06_ShapeConsts.sh (a0a : ByteArray) (a0bf : Fl) (a0b : List (List PV)) (a0cf : Fl) (a0c : List (List PV)) (u0 : Mem) (R : PV → Mem → Prop) : Prop :=
  CallP Try.prog 11 [(.agg [(pS a0a), (.list 7 .sh a0b), (.list 19 .sh a0c)])] u0 fun v u =>
  ∃ (x6 : Bool), v = (pB x6) ∧
  CIf x6
  (CallP Try.prog 12 [] u fun v_1 u_1 =>
    ∃ (x7 : Bool), v_1 = (pB x7) ∧
    R (pB x7) u_1)
  (CallP Try.prog 16 [(.agg [(pS a0a), (.list 7 .sh a0b), (.list 19 .sh a0c)])] u fun v_2 u_2 =>
    ∃ (x10p : Int), ∃ (x10q : Int), v_2 = (.tup [(pI x10p), (pI x10q)]) ∧
    CIf ((x10q : Int) != (0))
    (CallP Try.prog 12 [] u_2 fun v_3 u_3 =>
      ∃ (x15 : Bool), v_3 = (pB x15) ∧
      R (pB x15) u_3)
    (CallQ Try.prog 34 [(.agg [(pS a0a), (.list 7 .sh a0b), (.list 19 .sh a0c)])] u_2 fun v_4 u_4 =>
      ∃ (x17 : Fn) (x17a x17b : List PV), v_4 = (.fn x17 x17a x17b) ∧
      CallQ Try.prog 33 [(.fn x17 x17a x17b)] (Mem.or u_2 u_4) fun v_5 u_5 =>
      ∃ (x18f : Fl) (x18 : List (List PV)), v_5 = (.list 3 x18f x18) ∧
      CallP Try.prog 35 [(.agg [(pS a0a), (.list 7 .sh a0b), (.list 19 .sh a0c)])] (Mem.or (Mem.or u_2 u_4) u_5) fun v_6 u_6 =>
      ∃ (x20f : Fl) (x20 : List (List PV)), v_6 = (.list 3 x20f x20) ∧
      CallP Try.prog 32 [(.list 3 x18f x18), (.list 3 x20f x20)] u_6 fun v_7 u_7 =>
      ∃ (x21 : Bool), v_7 = (pB x21) ∧
      CIf x21
      (CallP Try.prog 12 [] u_7 fun v_8 u_8 =>
        ∃ (x23 : Bool), v_8 = (pB x23) ∧
        R (pB x23) u_8)
      (R (pB false) u_7)))

theorem G_ponderlaw06_ShapeConsts.ok (a0a : ByteArray) (a0bf : Fl) (a0b : List (List PV)) (a0cf : Fl) (a0c : List (List PV)) (u0 : Mem) (R : PV → Mem → Prop) : G_ponderlaw06_ShapeConsts.sh a0a a0bf a0b a0cf a0c u0 R = VF ⟨Try.prog, 25, [1], [], [], [], [], [], []⟩ ((Try.f10.body).getD .skip) [.tmp 2] [(.agg [(pS a0a), (.list 7 a0bf a0b), (.list 19 a0cf a0c)])] u0 R := by kernel_rfl

theorem G_ponderlaw06_ShapeConsts.c {a0a : ByteArray} {a0bf : Fl} {a0b : List (List PV)} {a0cf : Fl} {a0c : List (List PV)} {u0 : Mem} {K : PV → Mem → Prop} (h : G_ponderlaw06_ShapeConsts.sh a0a a0bf a0b a0cf a0c u0 K) : CallP Try.prog 10 [(.agg [(pS a0a), (.list 7 a0bf a0b), (.list 19 a0cf a0c)])] u0 K :=
  VF_sound (E := ⟨Try.prog, 25, [1], [], [], [], [], [], []⟩) (rs := [.tmp 2]) Try.func10 rfl rfl rfl (by kernel_rfl) (by kernel_rfl) (G_ponderlaw06_ShapeConsts.ok a0a a0bf a0b a0cf a0c u0 K ▸ h)


/-- ponder/ponderkeep.Heavy -/
def G_ponderkeep_Heavy.sh (a0a : ByteArray) (a0bf : Fl) (a0b : List (List PV)) (a0cf : Fl) (a0c : List (List PV)) (u0 : Mem) (R : PV → Mem → Prop) : Prop :=
  CallP Try.prog 36 [(.list 7 a0bf a0b), (pI (40)), (pI (0))] u0 fun v u =>
  ∃ (x5 : Int), v = (pI x5) ∧
  CIf (decide ((x5 : Int) > (40)))
  (R (pB true) u)
  (CIf (decide ((((List.length a0c : Nat) : Int) : Int) > (40)))
    (R (pB true) u)
    (CIf (decide ((((ByteArray.size a0a : Nat) : Int) : Int) > (100)))
      (R (pB true) u)
      (CallP Try.prog 37 [(.list 7 a0bf a0b)] u fun v_1 u_1 =>
        ∃ (x21 : Bool), v_1 = (pB x21) ∧
        R (pB x21) u_1)))

theorem G_ponderkeep_Heavy.ok (a0a : ByteArray) (a0bf : Fl) (a0b : List (List PV)) (a0cf : Fl) (a0c : List (List PV)) (u0 : Mem) (R : PV → Mem → Prop) : G_ponderkeep_Heavy.sh a0a a0bf a0b a0cf a0c u0 R = VF ⟨Try.prog, 22, [1], [], [], [], [], [], []⟩ ((Try.f11.body).getD .skip) [.tmp 2] [(.agg [(pS a0a), (.list 7 a0bf a0b), (.list 19 a0cf a0c)])] u0 R := by kernel_rfl

theorem G_ponderkeep_Heavy.c {a0a : ByteArray} {a0bf : Fl} {a0b : List (List PV)} {a0cf : Fl} {a0c : List (List PV)} {u0 : Mem} {K : PV → Mem → Prop} (h : G_ponderkeep_Heavy.sh a0a a0bf a0b a0cf a0c u0 K) : CallP Try.prog 11 [(.agg [(pS a0a), (.list 7 a0bf a0b), (.list 19 a0cf a0c)])] u0 K :=
  VF_sound (E := ⟨Try.prog, 22, [1], [], [], [], [], [], []⟩) (rs := [.tmp 2]) Try.func11 rfl rfl rfl (by kernel_rfl) (by kernel_rfl) (G_ponderkeep_Heavy.ok a0a a0bf a0b a0cf a0c u0 K ▸ h)


/-- ponder/ponderlaw06.wakes -/
def G_ponderlaw06_wakes.sh  (u0 : Mem) (R : PV → Mem → Prop) : Prop :=
  CallP Try.prog 19 [] u0 fun v u =>
  ∃ (x6a : ByteArray), ∃ (x6b : Option Addr) (x6bn x6bc : Nat), ∃ (x6c : Option Addr) (x6cn x6cc : Nat), v = (.agg [(pS x6a), (.raw (.slice x6b x6bn x6bc)), (.raw (.slice x6c x6cn x6cc))]) ∧
  CallP Try.prog 16 [(.agg [(pS x6a), (.raw (.slice x6b x6bn x6bc)), (.raw (.slice x6c x6cn x6cc))])] u fun v_1 u_1 =>
  ∃ (x9p : Int), ∃ (x9q : Int), v_1 = (.tup [(pI x9p), (pI x9q)]) ∧
  withSl x6b fun b o =>
  (0 : Int) ≤ (0) ∧ (0) < ((x6bn : Nat) : Int) ∧
  stM b ((o + Int.toNat (0) * 7) + 1) [(pB false)] u_1 fun u_2 =>
  CallP Try.prog 16 [(.agg [(pS x6a), (.raw (.slice x6b x6bn x6bc)), (.raw (.slice x6c x6cn x6cc))])] u_2 fun v_2 u_3 =>
  ∃ (x18p : Int), ∃ (x18q : Int), v_2 = (.tup [(pI x18p), (pI x18q)]) ∧
  CIf ((x9p : Int) == (-1))
  (CIf ((x9q : Int) == (0))
    (CIf ((x18p : Int) == (0))
      (R (pB ((x18q : Int) == (6))) u_3)
      (R (pB false) u_3))
    (R (pB false) u_3))
  (R (pB false) u_3)

theorem G_ponderlaw06_wakes.ok  (u0 : Mem) (R : PV → Mem → Prop) : G_ponderlaw06_wakes.sh  u0 R = VF ⟨Try.prog, 35, [1], [], [], [], [], [], [6, 13]⟩ ((Try.f12.body).getD .skip) [.tmp 0] [] u0 R := by kernel_rfl

theorem G_ponderlaw06_wakes.c  {u0 : Mem} {K : PV → Mem → Prop} (h : G_ponderlaw06_wakes.sh  u0 K) : CallP Try.prog 12 [] u0 K :=
  VF_sound (E := ⟨Try.prog, 35, [1], [], [], [], [], [], [6, 13]⟩) (rs := [.tmp 0]) Try.func12 rfl rfl rfl (by kernel_rfl) (by kernel_rfl) (G_ponderlaw06_wakes.ok  u0 K ▸ h)


/-- ponder/shape.Shape -/
def G_shape_Shape.sh (a0a : ByteArray) (a0bf : Fl) (a0b : List (List PV)) (a0cf : Fl) (a0c : List (List PV)) (u0 : Mem) (R : PV → Mem → Prop) : Prop :=
  CallP Try.prog 38 [(pS a0a)] u0 fun v u =>
  ∃ (x11 : Bool), v = (pB x11) ∧
  CIf (!x11)
  (R (.tup [(pI (-1)), (pI (2))]) u)
  (∀ (b4 : Nat), u b4 = none →
    stM b4 0 [(pI (0))] (Mem.set u b4 (some (.cells 3 [(pI (0))]))) fun u_1 =>
    CallP Try.prog 39 [(.list 7 a0bf a0b), (pI (0)), (pI (0)), (.fn (.func 40) [] [(pP b4 0)])] u_1 fun v_1 u_2 =>
    ∃ (x16p : Int), ∃ (x16q : Bool), v_1 = (.tup [(pI x16p), (pB x16q)]) ∧
    ∃ (x17 : Int), rdM u_2 b4 0 1 = some [(pI x17)] ∧
    CIf (decide ((x17 : Int) < (1)))
    (R (.tup [(pI (-1)), (pI (7))]) u_2)
    (∃ (x20 : Int), rdM u_2 b4 0 1 = some [(pI x20)] ∧
      CIf (decide ((x20 : Int) > (16)))
      (R (.tup [(pI (-1)), (pI (7))]) u_2)
      (CIf (decide ((((List.length a0c : Nat) : Int) : Int) < (1)))
        (R (.tup [(pI (-1)), (pI (7))]) u_2)
        (CIf (decide ((((List.length a0c : Nat) : Int) : Int) > (16)))
          (R (.tup [(pI (-1)), (pI (7))]) u_2)
          (∀ (b5 : Nat), u_2 b5 = none →
            ∀ (b6 : Nat), (Mem.set u_2 b5 (some (.cells 3 [(pI (0))]))) b6 = none →
            stM b5 0 [(pI (-1))] (Mem.set (Mem.set u_2 b5 (some (.cells 3 [(pI (0))]))) b6 (some (.cells 28 [(pI (0))]))) fun u_3 =>
            stM b6 0 [(pI (0))] u_3 fun u_4 =>
            CallP Try.prog 39 [(.list 7 a0bf a0b), (pI (0)), (pI (0)), (.fn (.func 41) [] [(pP b6 0), (pP b5 0)])] u_4 fun v_2 u_5 =>
            ∃ (x38p : Int), ∃ (x38q : Bool), v_2 = (.tup [(pI x38p), (pB x38q)]) ∧
            ∃ (x39 : Int), rdM u_5 b6 0 1 = some [(pI x39)] ∧
            CIf ((x39 : Int) != (0))
            (∃ (x41 : Int), rdM u_5 b5 0 1 = some [(pI x41)] ∧
              ∃ (x42 : Int), rdM u_5 b6 0 1 = some [(pI x42)] ∧
              R (.tup [(pI x41), (pI x42)]) u_5)
            (LoopI (α := Int) (fun next s u_6 =>
                CIf (decide ((s : Int) < ((List.length a0c : Nat) : Int)))
                ((0 : Int) ≤ s ∧ ∃ (r49 : List PV), (a0c)[Int.toNat s]? = some r49 ∧
                  ∃ (x50a : ByteArray), ∃ (x50b : ByteArray), ∃ (x50c : Int), ∃ (x50d : ByteArray), ∃ (x50e : Int), ∃ (x50f : Int), ∃ (x50g : ByteArray), ∃ (x50h : Int), ∃ (x50i : ByteArray), ∃ (x50j : Int), ∃ (x50k : ByteArray), ∃ (x50l : Int), ∃ (x50m : ByteArray), ∃ (x50n : Int), ∃ (x50o : Int), ∃ (x50p : ByteArray), ∃ (x50q : Int), ∃ (x50r : ByteArray), ∃ (x50s : Int), rowM r49 0 19 = some [(pS x50a), (pS x50b), (pI x50c), (pS x50d), (pI x50e), (pI x50f), (pS x50g), (pI x50h), (pS x50i), (pI x50j), (pS x50k), (pI x50l), (pS x50m), (pI x50n), (pI x50o), (pS x50p), (pI x50q), (pS x50r), (pI x50s)] ∧
                  CallP Try.prog 43 [(.agg [(pS x50a), (pS x50b), (pI x50c), (pS x50d), (pI x50e), (pI x50f), (pS x50g), (pI x50h), (pS x50i), (pI x50j), (pS x50k), (pI x50l), (pS x50m), (pI x50n), (pI x50o), (pS x50p), (pI x50q), (pS x50r), (pI x50s)])] u_6 fun v_3 u_7 =>
                  ∃ (x52 : Bool), v_3 = (pB x52) ∧
                  CIf (!x52)
                  (∃ (x54 : Int), rdM u_7 b4 0 1 = some [(pI x54)] ∧
                    R (.tup [(pI (IntKind.wrap .i64 (x54 + s))), (pI (9))]) u_7)
                  (next (IntKind.wrap .i64 (s + (1))) u_7))
                (R (.tup [(pI (-1)), (pI (0))]) u_6))
              (0) u_5))))))

theorem G_shape_Shape.ok (a0a : ByteArray) (a0bf : Fl) (a0b : List (List PV)) (a0cf : Fl) (a0c : List (List PV)) (u0 : Mem) (R : PV → Mem → Prop) : G_shape_Shape.sh a0a a0bf a0b a0cf a0c u0 R = VF ⟨Try.prog, 58, [1, 8], [(12, ⟨[(46, .one (.raw (.int .i64)))], []⟩)], [], [], [], [], []⟩ ((Try.f13.body).getD .skip) [.tmp 2, .tmp 3] [(.agg [(pS a0a), (.list 7 a0bf a0b), (.list 19 a0cf a0c)])] u0 R := by kernel_rfl

theorem G_shape_Shape.c {a0a : ByteArray} {a0bf : Fl} {a0b : List (List PV)} {a0cf : Fl} {a0c : List (List PV)} {u0 : Mem} {K : PV → Mem → Prop} (h : G_shape_Shape.sh a0a a0bf a0b a0cf a0c u0 K) : CallP Try.prog 13 [(.agg [(pS a0a), (.list 7 a0bf a0b), (.list 19 a0cf a0c)])] u0 K :=
  VF_sound (E := ⟨Try.prog, 58, [1, 8], [(12, ⟨[(46, .one (.raw (.int .i64)))], []⟩)], [], [], [], [], []⟩) (rs := [.tmp 2, .tmp 3]) Try.func13 rfl rfl rfl (by kernel_rfl) (by kernel_rfl) (G_shape_Shape.ok a0a a0bf a0b a0cf a0c u0 K ▸ h)


/-- ponder/ponderref06.Shape -/
def G_ponderref06_Shape.sh (a0a : ByteArray) (a0bf : Fl) (a0b : List (List PV)) (a0cf : Fl) (a0c : List (List PV)) (u0 : Mem) (R : PV → Mem → Prop) : Prop :=
  CallP Try.prog 44 [(pS a0a)] u0 fun v u =>
  ∃ (x10 : Bool), v = (pB x10) ∧
  CIf (!x10)
  (R (.tup [(pI (-1)), (pI (2))]) u)
  (CallP Try.prog 45 [(.list 7 a0bf a0b)] u fun v_1 u_1 =>
    ∃ (x14 : Int), v_1 = (pI x14) ∧
    CIf (decide ((x14 : Int) < (1)))
    (R (.tup [(pI (-1)), (pI (7))]) u_1)
    (CIf (decide ((x14 : Int) > (16)))
      (R (.tup [(pI (-1)), (pI (7))]) u_1)
      (CIf (decide ((((List.length a0c : Nat) : Int) : Int) < (1)))
        (R (.tup [(pI (-1)), (pI (7))]) u_1)
        (CIf (decide ((((List.length a0c : Nat) : Int) : Int) > (16)))
          (R (.tup [(pI (-1)), (pI (7))]) u_1)
          (CallP Try.prog 46 [(.list 7 a0bf a0b), (pI (0)), (pI (0))] u_1 fun v_2 u_2 =>
            ∃ (x36p : Int), ∃ (x36q : Int), v_2 = (.tup [(pI x36p), (pI x36q)]) ∧
            CIf ((x36q : Int) != (0))
            (R (.tup [(pI x36p), (pI x36q)]) u_2)
            (LoopI (α := Int) (fun next s u_3 =>
                CIf (decide ((s : Int) < ((List.length a0c : Nat) : Int)))
                ((0 : Int) ≤ s ∧ ∃ (r53 : List PV), (a0c)[Int.toNat s]? = some r53 ∧
                  ∃ (x54a : ByteArray), ∃ (x54b : ByteArray), ∃ (x54c : Int), ∃ (x54d : ByteArray), ∃ (x54e : Int), ∃ (x54f : Int), ∃ (x54g : ByteArray), ∃ (x54h : Int), ∃ (x54i : ByteArray), ∃ (x54j : Int), ∃ (x54k : ByteArray), ∃ (x54l : Int), ∃ (x54m : ByteArray), ∃ (x54n : Int), ∃ (x54o : Int), ∃ (x54p : ByteArray), ∃ (x54q : Int), ∃ (x54r : ByteArray), ∃ (x54s : Int), rowM r53 0 19 = some [(pS x54a), (pS x54b), (pI x54c), (pS x54d), (pI x54e), (pI x54f), (pS x54g), (pI x54h), (pS x54i), (pI x54j), (pS x54k), (pI x54l), (pS x54m), (pI x54n), (pI x54o), (pS x54p), (pI x54q), (pS x54r), (pI x54s)] ∧
                  CallP Try.prog 47 [(.agg [(pS x54a), (pS x54b), (pI x54c), (pS x54d), (pI x54e), (pI x54f), (pS x54g), (pI x54h), (pS x54i), (pI x54j), (pS x54k), (pI x54l), (pS x54m), (pI x54n), (pI x54o), (pS x54p), (pI x54q), (pS x54r), (pI x54s)])] u_3 fun v_3 u_4 =>
                  ∃ (x55 : Bool), v_3 = (pB x55) ∧
                  CIf (!x55)
                  (R (.tup [(pI (IntKind.wrap .i64 (x14 + s))), (pI (9))]) u_4)
                  (next (IntKind.wrap .i64 (s + (1))) u_4))
                (R (.tup [(pI (-1)), (pI (0))]) u_3))
              (0) u_2))))))

theorem G_ponderref06_Shape.ok (a0a : ByteArray) (a0bf : Fl) (a0b : List (List PV)) (a0cf : Fl) (a0c : List (List PV)) (u0 : Mem) (R : PV → Mem → Prop) : G_ponderref06_Shape.sh a0a a0bf a0b a0cf a0c u0 R = VF ⟨Try.prog, 60, [1], [(10, ⟨[(7, .one (.raw (.int .i64)))], []⟩)], [], [], [], [], []⟩ ((Try.f14.body).getD .skip) [.tmp 2, .tmp 3] [(.agg [(pS a0a), (.list 7 a0bf a0b), (.list 19 a0cf a0c)])] u0 R := by kernel_rfl

theorem G_ponderref06_Shape.c {a0a : ByteArray} {a0bf : Fl} {a0b : List (List PV)} {a0cf : Fl} {a0c : List (List PV)} {u0 : Mem} {K : PV → Mem → Prop} (h : G_ponderref06_Shape.sh a0a a0bf a0b a0cf a0c u0 K) : CallP Try.prog 14 [(.agg [(pS a0a), (.list 7 a0bf a0b), (.list 19 a0cf a0c)])] u0 K :=
  VF_sound (E := ⟨Try.prog, 60, [1], [(10, ⟨[(7, .one (.raw (.int .i64)))], []⟩)], [], [], [], [], []⟩) (rs := [.tmp 2, .tmp 3]) Try.func14 rfl rfl rfl (by kernel_rfl) (by kernel_rfl) (G_ponderref06_Shape.ok a0a a0bf a0b a0cf a0c u0 K ▸ h)


/-- ponder/ponderkeep.CopyProd -/
def G_ponderkeep_CopyProd.sh (a0a : ByteArray) (a0bf : Fl) (a0b : List (List PV)) (a0cf : Fl) (a0c : List (List PV)) (u0 : Mem) (R : PV → Mem → Prop) : Prop :=
  CallQ Try.prog 48 [(.list 7 a0bf a0b)] u0 fun v u =>
  ∃ (x7f : Fl) (x7 : List (List PV)), v = (.list 7 x7f x7) ∧
  CallQ Try.prog 49 [(.list 19 a0cf a0c)] (Mem.or u0 u) fun v_1 u_1 =>
  ∃ (x10f : Fl) (x10 : List (List PV)), v_1 = (.list 19 x10f x10) ∧
  R (.agg [(pS a0a), (.list 7 x7f x7), (.list 19 x10f x10)]) (Mem.or (Mem.or u0 u) u_1)

theorem G_ponderkeep_CopyProd.ok (a0a : ByteArray) (a0bf : Fl) (a0b : List (List PV)) (a0cf : Fl) (a0c : List (List PV)) (u0 : Mem) (R : PV → Mem → Prop) : G_ponderkeep_CopyProd.sh a0a a0bf a0b a0cf a0c u0 R = VF ⟨Try.prog, 12, [1, 2], [], [], [], [], [], []⟩ ((Try.f15.body).getD .skip) [.cell 2 25] [(.agg [(pS a0a), (.list 7 a0bf a0b), (.list 19 a0cf a0c)])] u0 R := by kernel_rfl

theorem G_ponderkeep_CopyProd.c {a0a : ByteArray} {a0bf : Fl} {a0b : List (List PV)} {a0cf : Fl} {a0c : List (List PV)} {u0 : Mem} {K : PV → Mem → Prop} (h : G_ponderkeep_CopyProd.sh a0a a0bf a0b a0cf a0c u0 K) : CallP Try.prog 15 [(.agg [(pS a0a), (.list 7 a0bf a0b), (.list 19 a0cf a0c)])] u0 K :=
  VF_sound (E := ⟨Try.prog, 12, [1, 2], [], [], [], [], [], []⟩) (rs := [.cell 2 25]) Try.func15 rfl rfl rfl (by kernel_rfl) (by kernel_rfl) (G_ponderkeep_CopyProd.ok a0a a0bf a0b a0cf a0c u0 K ▸ h)


/-- ponder/ponderkeep.CopyProd -/
def G_ponderkeep_CopyProd_w.sh (a0a : ByteArray) (a0bf : Fl) (a0b : List (List PV)) (a0cf : Fl) (a0c : List (List PV)) (u0 : Mem) (R : PV → Mem → Prop) : Prop :=
  CallQ Try.prog 48 [(.list 7 a0bf a0b)] u0 fun v u =>
  ∃ (x7 : Option Addr) (x7n x7c : Nat), v = (.raw (.slice x7 x7n x7c)) ∧
  CallQ Try.prog 49 [(.list 19 a0cf a0c)] (Mem.or u0 u) fun v_1 u_1 =>
  ∃ (x10 : Option Addr) (x10n x10c : Nat), v_1 = (.raw (.slice x10 x10n x10c)) ∧
  R (.agg [(pS a0a), (.raw (.slice x7 x7n x7c)), (.raw (.slice x10 x10n x10c))]) (Mem.or (Mem.or u0 u) u_1)

theorem G_ponderkeep_CopyProd_w.ok (a0a : ByteArray) (a0bf : Fl) (a0b : List (List PV)) (a0cf : Fl) (a0c : List (List PV)) (u0 : Mem) (R : PV → Mem → Prop) : G_ponderkeep_CopyProd_w.sh a0a a0bf a0b a0cf a0c u0 R = VF ⟨Try.prog, 12, [1, 2], [], [], [], [], [], [2, 7, 10, 11]⟩ ((Try.f15.body).getD .skip) [.cell 2 25] [(.agg [(pS a0a), (.list 7 a0bf a0b), (.list 19 a0cf a0c)])] u0 R := by kernel_rfl

theorem G_ponderkeep_CopyProd_w.c {a0a : ByteArray} {a0bf : Fl} {a0b : List (List PV)} {a0cf : Fl} {a0c : List (List PV)} {u0 : Mem} {K : PV → Mem → Prop} (h : G_ponderkeep_CopyProd_w.sh a0a a0bf a0b a0cf a0c u0 K) : CallP Try.prog 15 [(.agg [(pS a0a), (.list 7 a0bf a0b), (.list 19 a0cf a0c)])] u0 K :=
  VF_sound (E := ⟨Try.prog, 12, [1, 2], [], [], [], [], [], [2, 7, 10, 11]⟩) (rs := [.cell 2 25]) Try.func15 rfl rfl rfl (by kernel_rfl) (by kernel_rfl) (G_ponderkeep_CopyProd_w.ok a0a a0bf a0b a0cf a0c u0 K ▸ h)


/-- ponder/ponderkeep.CopyProd -/
def G_ponderkeep_CopyProd_s.sh (a0a : ByteArray) (a0bf : Fl) (a0b : List (List PV)) (a0cf : Fl) (a0c : List (List PV)) (u0 : Mem) (R : PV → Mem → Prop) : Prop :=
  CallQ Try.prog 48 [(.list 7 a0bf a0b)] u0 fun v u =>
  ∃ (x7 : Option Addr) (x7n x7c : Nat), v = (.raw (.slice x7 x7n x7c)) ∧
  CallQ Try.prog 49 [(.list 19 a0cf a0c)] (Mem.or u0 u) fun v_1 u_1 =>
  ∃ (x10 : Option Addr) (x10n x10c : Nat), v_1 = (.raw (.slice x10 x10n x10c)) ∧
  R (.agg [(pS a0a), (.raw (.slice x7 x7n x7c)), (.raw (.slice x10 x10n x10c))]) (Mem.or (Mem.or u0 u) u_1)

theorem G_ponderkeep_CopyProd_s.ok (a0a : ByteArray) (a0bf : Fl) (a0b : List (List PV)) (a0cf : Fl) (a0c : List (List PV)) (u0 : Mem) (R : PV → Mem → Prop) : G_ponderkeep_CopyProd_s.sh a0a a0bf a0b a0cf a0c u0 R = VF ⟨Try.prog, 12, [1, 2], [], [], [], [], [], [2, 7, 10, 11]⟩ ((Try.f15.body).getD .skip) [.cell 2 25] [(.agg [(pS a0a), (.list 7 a0bf a0b), (.list 19 a0cf a0c)])] u0 R := by kernel_rfl

theorem G_ponderkeep_CopyProd_s.c {a0a : ByteArray} {a0bf : Fl} {a0b : List (List PV)} {a0cf : Fl} {a0c : List (List PV)} {u0 : Mem} {K : PV → Mem → Prop} (h : G_ponderkeep_CopyProd_s.sh a0a a0bf a0b a0cf a0c u0 K) : CallP Try.prog 15 [(.agg [(pS a0a), (.list 7 a0bf a0b), (.list 19 a0cf a0c)])] u0 K :=
  VF_sound (E := ⟨Try.prog, 12, [1, 2], [], [], [], [], [], [2, 7, 10, 11]⟩) (rs := [.cell 2 25]) Try.func15 rfl rfl rfl (by kernel_rfl) (by kernel_rfl) (G_ponderkeep_CopyProd_s.ok a0a a0bf a0b a0cf a0c u0 K ▸ h)


/-- ponder/shape.Check -/
def G_shape_Check.sh (a0a : ByteArray) (a0bf : Fl) (a0b : List (List PV)) (a0cf : Fl) (a0c : List (List PV)) (u0 : Mem) (R : PV → Mem → Prop) : Prop :=
  CallP Try.prog 50 [(.agg [(pS a0a), (.list 7 .sh a0b), (.list 19 .sh a0c)])] u0 fun v u =>
  ∃ (x9p : Int), ∃ (x9q : Int), ∃ (x9rf : Fl) (x9r : List (List PV)), v = (.tup [(pI x9p), (pI x9q), (.list 1 x9rf x9r)]) ∧
  R (.tup [(pI x9p), (pI x9q)]) u

theorem G_shape_Check.ok (a0a : ByteArray) (a0bf : Fl) (a0b : List (List PV)) (a0cf : Fl) (a0c : List (List PV)) (u0 : Mem) (R : PV → Mem → Prop) : G_shape_Check.sh a0a a0bf a0b a0cf a0c u0 R = VF ⟨Try.prog, 15, [1], [], [], [], [], [], []⟩ ((Try.f16.body).getD .skip) [.tmp 2, .tmp 3] [(.agg [(pS a0a), (.list 7 a0bf a0b), (.list 19 a0cf a0c)])] u0 R := by kernel_rfl

theorem G_shape_Check.c {a0a : ByteArray} {a0bf : Fl} {a0b : List (List PV)} {a0cf : Fl} {a0c : List (List PV)} {u0 : Mem} {K : PV → Mem → Prop} (h : G_shape_Check.sh a0a a0bf a0b a0cf a0c u0 K) : CallP Try.prog 16 [(.agg [(pS a0a), (.list 7 a0bf a0b), (.list 19 a0cf a0c)])] u0 K :=
  VF_sound (E := ⟨Try.prog, 15, [1], [], [], [], [], [], []⟩) (rs := [.tmp 2, .tmp 3]) Try.func16 rfl rfl rfl (by kernel_rfl) (by kernel_rfl) (G_shape_Check.ok a0a a0bf a0b a0cf a0c u0 K ▸ h)


/-- ponder/ponderref06.Check -/
def G_ponderref06_Check.sh (a0a : ByteArray) (a0bf : Fl) (a0b : List (List PV)) (a0cf : Fl) (a0c : List (List PV)) (u0 : Mem) (R : PV → Mem → Prop) : Prop :=
  CallP Try.prog 14 [(.agg [(pS a0a), (.list 7 .sh a0b), (.list 19 .sh a0c)])] u0 fun v u =>
  ∃ (x13p : Int), ∃ (x13q : Int), v = (.tup [(pI x13p), (pI x13q)]) ∧
  CIf ((x13q : Int) != (0))
  (R (.tup [(pI x13p), (pI x13q)]) u)
  ((0 : Int) ≤ (0) ∧ ∃ (r22 : List PV), (a0b)[Int.toNat (0)]? = some r22 ∧
    ∃ (x24 : Int), rowM r22 0 1 = some [(pI x24)] ∧
    CIf ((x24 : Int) != (1))
    (R (.tup [(pI (0)), (pI (9))]) u)
    (CallP Try.prog 51 [(.list 7 a0bf a0b), (pI (0)), (.list 1 .nil [])] u fun v_1 u_1 =>
      ∃ (x29pf : Fl) (x29p : List (List PV)), ∃ (x29q : Int), ∃ (x29r : Bool), v_1 = (.tup [(.list 1 x29pf x29p), (pI x29q), (pB x29r)]) ∧
      CIf (!x29r)
      (R (.tup [(pI x29q), (pI (6))]) u_1)
      (CallP Try.prog 45 [(.list 7 a0bf a0b)] u_1 fun v_2 u_2 =>
        ∃ (x38 : Int), v_2 = (pI x38) ∧
        LoopI (α := Int) (fun next s u_3 =>
          CIf (decide ((s : Int) < ((List.length a0c : Nat) : Int)))
          ((0 : Int) ≤ s ∧ ∃ (r49 : List PV), (a0c)[Int.toNat s]? = some r49 ∧
            ∃ (x50a : ByteArray), ∃ (x50b : ByteArray), ∃ (x50c : Int), ∃ (x50d : ByteArray), ∃ (x50e : Int), ∃ (x50f : Int), ∃ (x50g : ByteArray), ∃ (x50h : Int), ∃ (x50i : ByteArray), ∃ (x50j : Int), ∃ (x50k : ByteArray), ∃ (x50l : Int), ∃ (x50m : ByteArray), ∃ (x50n : Int), ∃ (x50o : Int), ∃ (x50p : ByteArray), ∃ (x50q : Int), ∃ (x50r : ByteArray), ∃ (x50s : Int), rowM r49 0 19 = some [(pS x50a), (pS x50b), (pI x50c), (pS x50d), (pI x50e), (pI x50f), (pS x50g), (pI x50h), (pS x50i), (pI x50j), (pS x50k), (pI x50l), (pS x50m), (pI x50n), (pI x50o), (pS x50p), (pI x50q), (pS x50r), (pI x50s)] ∧
            CallP Try.prog 52 [(.agg [(pS x50b), (pI x50c), (pS x50d), (pI x50e)]), (.list 1 x29pf x29p)] u_3 fun v_3 u_4 =>
            ∃ (x54 : Bool), v_3 = (pB x54) ∧
            CIf (!x54)
            (R (.tup [(pI (IntKind.wrap .i64 (x38 + s))), (pI (6))]) u_4)
            (CIf ((x50f : Int) != (0))
              (CallP Try.prog 52 [(.agg [(pS x50g), (pI x50h), (pS x50i), (pI x50j)]), (.list 1 x29pf x29p)] u_4 fun v_4 u_5 =>
                ∃ (x66 : Bool), v_4 = (pB x66) ∧
                CIf (!x66)
                (R (.tup [(pI (IntKind.wrap .i64 (x38 + s))), (pI (6))]) u_5)
                (CallP Try.prog 52 [(.agg [(pS x50k), (pI x50l), (pS x50m), (pI x50n)]), (.list 1 x29pf x29p)] u_5 fun v_5 u_6 =>
                  ∃ (x73 : Bool), v_5 = (pB x73) ∧
                  CIf (!x73)
                  (R (.tup [(pI (IntKind.wrap .i64 (x38 + s))), (pI (6))]) u_6)
                  (next (IntKind.wrap .i64 (s + (1))) u_6)))
              (next (IntKind.wrap .i64 (s + (1))) u_4)))
          (R (.tup [(pI (-1)), (pI (0))]) u_3))
        (0) u_2)))

theorem G_ponderref06_Check.ok (a0a : ByteArray) (a0bf : Fl) (a0b : List (List PV)) (a0cf : Fl) (a0c : List (List PV)) (u0 : Mem) (R : PV → Mem → Prop) : G_ponderref06_Check.sh a0a a0bf a0b a0cf a0c u0 R = VF ⟨Try.prog, 81, [1, 10], [(11, ⟨[(9, .one (.raw (.int .i64)))], []⟩)], [], [], [], [], []⟩ ((Try.f17.body).getD .skip) [.tmp 2, .tmp 3] [(.agg [(pS a0a), (.list 7 a0bf a0b), (.list 19 a0cf a0c)])] u0 R := by kernel_rfl

theorem G_ponderref06_Check.c {a0a : ByteArray} {a0bf : Fl} {a0b : List (List PV)} {a0cf : Fl} {a0c : List (List PV)} {u0 : Mem} {K : PV → Mem → Prop} (h : G_ponderref06_Check.sh a0a a0bf a0b a0cf a0c u0 K) : CallP Try.prog 17 [(.agg [(pS a0a), (.list 7 a0bf a0b), (.list 19 a0cf a0c)])] u0 K :=
  VF_sound (E := ⟨Try.prog, 81, [1, 10], [(11, ⟨[(9, .one (.raw (.int .i64)))], []⟩)], [], [], [], [], []⟩) (rs := [.tmp 2, .tmp 3]) Try.func17 rfl rfl rfl (by kernel_rfl) (by kernel_rfl) (G_ponderref06_Check.ok a0a a0bf a0b a0cf a0c u0 K ▸ h)


/-- ponder/ponderkeep.Prod -/
def G_ponderkeep_Prod.sh (a0a : ByteArray) (a0bf : Fl) (a0b : List (List PV)) (a0cf : Fl) (a0c : List (List PV)) (a1a : ByteArray) (a1bf : Fl) (a1b : List (List PV)) (a1cf : Fl) (a1c : List (List PV)) (u0 : Mem) (R : PV → Mem → Prop) : Prop :=
  CIf (strEq a0a a1a)
  (CallP Try.prog 31 [(.list 7 a0bf a0b), (.list 7 a1bf a1b)] u0 fun v u =>
    ∃ (x15 : Bool), v = (pB x15) ∧
    CIf x15
    (CallP Try.prog 53 [(.list 19 a0cf a0c), (.list 19 a1cf a1c)] u fun v_1 u_1 =>
      ∃ (x22 : Bool), v_1 = (pB x22) ∧
      R (pB x22) u_1)
    (R (pB false) u))
  (R (pB false) u0)

theorem G_ponderkeep_Prod.ok (a0a : ByteArray) (a0bf : Fl) (a0b : List (List PV)) (a0cf : Fl) (a0c : List (List PV)) (a1a : ByteArray) (a1bf : Fl) (a1b : List (List PV)) (a1cf : Fl) (a1c : List (List PV)) (u0 : Mem) (R : PV → Mem → Prop) : G_ponderkeep_Prod.sh a0a a0bf a0b a0cf a0c a1a a1bf a1b a1cf a1c u0 R = VF ⟨Try.prog, 24, [2, 3], [], [], [], [], [], []⟩ ((Try.f18.body).getD .skip) [.tmp 4] [(.agg [(pS a0a), (.list 7 a0bf a0b), (.list 19 a0cf a0c)]), (.agg [(pS a1a), (.list 7 a1bf a1b), (.list 19 a1cf a1c)])] u0 R := by kernel_rfl

theorem G_ponderkeep_Prod.c {a0a : ByteArray} {a0bf : Fl} {a0b : List (List PV)} {a0cf : Fl} {a0c : List (List PV)} {a1a : ByteArray} {a1bf : Fl} {a1b : List (List PV)} {a1cf : Fl} {a1c : List (List PV)} {u0 : Mem} {K : PV → Mem → Prop} (h : G_ponderkeep_Prod.sh a0a a0bf a0b a0cf a0c a1a a1bf a1b a1cf a1c u0 K) : CallP Try.prog 18 [(.agg [(pS a0a), (.list 7 a0bf a0b), (.list 19 a0cf a0c)]), (.agg [(pS a1a), (.list 7 a1bf a1b), (.list 19 a1cf a1c)])] u0 K :=
  VF_sound (E := ⟨Try.prog, 24, [2, 3], [], [], [], [], [], []⟩) (rs := [.tmp 4]) Try.func18 rfl rfl rfl (by kernel_rfl) (by kernel_rfl) (G_ponderkeep_Prod.ok a0a a0bf a0b a0cf a0c a1a a1bf a1b a1cf a1c u0 K ▸ h)


/-- ponder/ponderlaw06.One -/
def G_ponderlaw06_One.sh  (u0 : Mem) (R : PV → Mem → Prop) : Prop :=
  CallP Try.prog 27 [(pS ⟨#[120]⟩)] u0 fun v u =>
  ∃ (x1a : Int), ∃ (x1b : ByteArray), ∃ (x1c : Int), v = (.agg [(pI x1a), (pS x1b), (pI x1c)]) ∧
  CallP Try.prog 21 [(pI (1))] u fun v_1 u_1 =>
  ∃ (x4a : Int), ∃ (x4b : ByteArray), ∃ (x4c : Int), v_1 = (.agg [(pI x4a), (pS x4b), (pI x4c)]) ∧
  ∀ (b8 : Nat), u_1 b8 = none →
  CallP Try.prog 27 [(pS ⟨#[121]⟩)] (Mem.set u_1 b8 (some (.cells 37 [(pI (1)), (pB true), (pS ⟨#[115]⟩), (.list 6 .sh [[(pI (1)), (pS ⟨#[]⟩), (pI x1a), (pS x1b), (pI x1c), (.list 3 .sh [])]]), (.list 6 .sh [[(pI (1)), (pS ⟨#[]⟩), (pI x4a), (pS x4b), (pI x4c), (.list 3 .sh [])]]), (pB false), (.list 7 .sh [])]))) fun v_2 u_2 =>
  ∃ (x9a : Int), ∃ (x9b : ByteArray), ∃ (x9c : Int), v_2 = (.agg [(pI x9a), (pS x9b), (pI x9c)]) ∧
  CallP Try.prog 21 [(pI (2))] u_2 fun v_3 u_3 =>
  ∃ (x11a : Int), ∃ (x11b : ByteArray), ∃ (x11c : Int), v_3 = (.agg [(pI x11a), (pS x11b), (pI x11c)]) ∧
  ∀ (b15 : Nat), u_3 b15 = none →
  R (.agg [(pS ⟨#[97]⟩), (.raw (.slice (some ⟨b8, 0, none⟩) 1 1)), (.raw (.slice (some ⟨b15, 0, none⟩) 1 1))]) (Mem.set u_3 b15 (some (.cells 45 [(pS ⟨#[115]⟩), (pS ⟨#[]⟩), (pI x9a), (pS x9b), (pI x9c), (pI (0)), (pS ⟨#[]⟩), (pI x11a), (pS x11b), (pI x11c), (pS ⟨#[]⟩), (pI (0)), (pS ⟨#[]⟩), (pI (0)), (pI (1)), (pS ⟨#[]⟩), (pI (0)), (pS ⟨#[]⟩), (pI (0))])))

theorem G_ponderlaw06_One.ok  (u0 : Mem) (R : PV → Mem → Prop) : G_ponderlaw06_One.sh  u0 R = VF ⟨Try.prog, 17, [0], [], [], [], [], [8, 15], []⟩ ((Try.f19.body).getD .skip) [.cell 0 25] [] u0 R := by kernel_rfl

theorem G_ponderlaw06_One.c  {u0 : Mem} {K : PV → Mem → Prop} (h : G_ponderlaw06_One.sh  u0 K) : CallP Try.prog 19 [] u0 K :=
  VF_sound (E := ⟨Try.prog, 17, [0], [], [], [], [], [8, 15], []⟩) (rs := [.cell 0 25]) Try.func19 rfl rfl rfl (by kernel_rfl) (by kernel_rfl) (G_ponderlaw06_One.ok  u0 K ▸ h)


/-- ponder/ponderkeep.Within -/
def G_ponderkeep_Within.sh (a0 : Int) (a1 : Int) (u0 : Mem) (R : PV → Mem → Prop) : Prop :=
  CIf (decide ((a1 : Int) < (1)))
  (R (pI (0)) u0)
  ((a1 : Int) ≠ 0 ∧
    CIf (decide (((Int.tmod a0 a1) : Int) < (0)))
    (R (pI (IntKind.wrap .i64 ((Int.tmod a0 a1) + a1))) u0)
    (R (pI (Int.tmod a0 a1)) u0))

theorem G_ponderkeep_Within.ok (a0 : Int) (a1 : Int) (u0 : Mem) (R : PV → Mem → Prop) : G_ponderkeep_Within.sh a0 a1 u0 R = VF ⟨Try.prog, 17, [], [], [], [], [], [], []⟩ ((Try.f20.body).getD .skip) [.tmp 4] [(pI a0), (pI a1)] u0 R := by kernel_rfl

theorem G_ponderkeep_Within.c {a0 : Int} {a1 : Int} {u0 : Mem} {K : PV → Mem → Prop} (h : G_ponderkeep_Within.sh a0 a1 u0 K) : CallP Try.prog 20 [(pI a0), (pI a1)] u0 K :=
  VF_sound (E := ⟨Try.prog, 17, [], [], [], [], [], [], []⟩) (rs := [.tmp 4]) Try.func20 rfl rfl rfl (by kernel_rfl) (by kernel_rfl) (G_ponderkeep_Within.ok a0 a1 u0 K ▸ h)


/-- ponder/ponderlaw06.N -/
def G_ponderlaw06_N.sh (a0 : Int) (u0 : Mem) (R : PV → Mem → Prop) : Prop :=
  R (.agg [(pI (2)), (pS ⟨#[]⟩), (pI a0)]) u0

theorem G_ponderlaw06_N.ok (a0 : Int) (u0 : Mem) (R : PV → Mem → Prop) : G_ponderlaw06_N.sh a0 u0 R = VF ⟨Try.prog, 5, [2], [], [], [], [], [], []⟩ ((Try.f21.body).getD .skip) [.cell 2 39] [(pI a0)] u0 R := by kernel_rfl

theorem G_ponderlaw06_N.c {a0 : Int} {u0 : Mem} {K : PV → Mem → Prop} (h : G_ponderlaw06_N.sh a0 u0 K) : CallP Try.prog 21 [(pI a0)] u0 K :=
  VF_sound (E := ⟨Try.prog, 5, [2], [], [], [], [], [], []⟩) (rs := [.cell 2 39]) Try.func21 rfl rfl rfl (by kernel_rfl) (by kernel_rfl) (G_ponderlaw06_N.ok a0 u0 K ▸ h)


/-- ponder/shape.Vars -/
def G_shape_Vars.sh (a0a : ByteArray) (a0bf : Fl) (a0b : List (List PV)) (a0cf : Fl) (a0c : List (List PV)) (u0 : Mem) (R : PV → Mem → Prop) : Prop :=
  CallP Try.prog 50 [(.agg [(pS a0a), (.list 7 .sh a0b), (.list 19 .sh a0c)])] u0 fun v u =>
  ∃ (x8p : Int), ∃ (x8q : Int), ∃ (x8rf : Fl) (x8r : List (List PV)), v = (.tup [(pI x8p), (pI x8q), (.list 1 x8rf x8r)]) ∧
  R (.list 1 x8rf x8r) u

theorem G_shape_Vars.ok (a0a : ByteArray) (a0bf : Fl) (a0b : List (List PV)) (a0cf : Fl) (a0c : List (List PV)) (u0 : Mem) (R : PV → Mem → Prop) : G_shape_Vars.sh a0a a0bf a0b a0cf a0c u0 R = VF ⟨Try.prog, 13, [1], [], [], [], [], [], []⟩ ((Try.f22.body).getD .skip) [.tmp 2] [(.agg [(pS a0a), (.list 7 a0bf a0b), (.list 19 a0cf a0c)])] u0 R := by kernel_rfl

theorem G_shape_Vars.c {a0a : ByteArray} {a0bf : Fl} {a0b : List (List PV)} {a0cf : Fl} {a0c : List (List PV)} {u0 : Mem} {K : PV → Mem → Prop} (h : G_shape_Vars.sh a0a a0bf a0b a0cf a0c u0 K) : CallP Try.prog 22 [(.agg [(pS a0a), (.list 7 a0bf a0b), (.list 19 a0cf a0c)])] u0 K :=
  VF_sound (E := ⟨Try.prog, 13, [1], [], [], [], [], [], []⟩) (rs := [.tmp 2]) Try.func22 rfl rfl rfl (by kernel_rfl) (by kernel_rfl) (G_shape_Vars.ok a0a a0bf a0b a0cf a0c u0 K ▸ h)


/-- ponder/shape.Vars -/
def G_shape_Vars_w.sh (a0a : ByteArray) (a0bf : Fl) (a0b : List (List PV)) (a0cf : Fl) (a0c : List (List PV)) (u0 : Mem) (R : PV → Mem → Prop) : Prop :=
  CallP Try.prog 50 [(.agg [(pS a0a), (.list 7 .sh a0b), (.list 19 .sh a0c)])] u0 fun v u =>
  ∃ (x8p : Int), ∃ (x8q : Int), ∃ (x8r : Option Addr) (x8rn x8rc : Nat), v = (.tup [(pI x8p), (pI x8q), (.raw (.slice x8r x8rn x8rc))]) ∧
  R (.raw (.slice x8r x8rn x8rc)) u

theorem G_shape_Vars_w.ok (a0a : ByteArray) (a0bf : Fl) (a0b : List (List PV)) (a0cf : Fl) (a0c : List (List PV)) (u0 : Mem) (R : PV → Mem → Prop) : G_shape_Vars_w.sh a0a a0bf a0b a0cf a0c u0 R = VF ⟨Try.prog, 13, [1], [], [], [], [], [], [8]⟩ ((Try.f22.body).getD .skip) [.tmp 2] [(.agg [(pS a0a), (.list 7 a0bf a0b), (.list 19 a0cf a0c)])] u0 R := by kernel_rfl

theorem G_shape_Vars_w.c {a0a : ByteArray} {a0bf : Fl} {a0b : List (List PV)} {a0cf : Fl} {a0c : List (List PV)} {u0 : Mem} {K : PV → Mem → Prop} (h : G_shape_Vars_w.sh a0a a0bf a0b a0cf a0c u0 K) : CallP Try.prog 22 [(.agg [(pS a0a), (.list 7 a0bf a0b), (.list 19 a0cf a0c)])] u0 K :=
  VF_sound (E := ⟨Try.prog, 13, [1], [], [], [], [], [], [8]⟩) (rs := [.tmp 2]) Try.func22 rfl rfl rfl (by kernel_rfl) (by kernel_rfl) (G_shape_Vars_w.ok a0a a0bf a0b a0cf a0c u0 K ▸ h)


/-- ponder/ponderkeep.Texts -/
def G_ponderkeep_Texts.sh (a0f : Fl) (a0 : List (List PV)) (a1f : Fl) (a1 : List (List PV)) (u0 : Mem) (R : PV → Mem → Prop) : Prop :=
  CIf ((((List.length a0 : Nat) : Int) : Int) != ((List.length a1 : Nat) : Int))
  (R (pB false) u0)
  (LoopI (α := Int) (fun next s u =>
      CIf (decide ((s : Int) < ((List.length a0 : Nat) : Int)))
      ((0 : Int) ≤ s ∧ ∃ (r19 : List PV), (a0)[Int.toNat s]? = some r19 ∧
        ∃ (x20 : ByteArray), rowM r19 0 1 = some [(pS x20)] ∧
        (0 : Int) ≤ s ∧ ∃ (r23 : List PV), (a1)[Int.toNat s]? = some r23 ∧
        ∃ (x24 : ByteArray), rowM r23 0 1 = some [(pS x24)] ∧
        CIf (!strEq x20 x24)
        (R (pB false) u)
        (next (IntKind.wrap .i64 (s + (1))) u))
      (R (pB true) u))
    (0) u0)

theorem G_ponderkeep_Texts.ok (a0f : Fl) (a0 : List (List PV)) (a1f : Fl) (a1 : List (List PV)) (u0 : Mem) (R : PV → Mem → Prop) : G_ponderkeep_Texts.sh a0f a0 a1f a1 u0 R = VF ⟨Try.prog, 26, [], [(4, ⟨[(5, .one (.raw (.int .i64)))], []⟩)], [], [], [], [], []⟩ ((Try.f23.body).getD .skip) [.tmp 4] [(.list 1 a0f a0), (.list 1 a1f a1)] u0 R := by kernel_rfl

theorem G_ponderkeep_Texts.c {a0f : Fl} {a0 : List (List PV)} {a1f : Fl} {a1 : List (List PV)} {u0 : Mem} {K : PV → Mem → Prop} (h : G_ponderkeep_Texts.sh a0f a0 a1f a1 u0 K) : CallP Try.prog 23 [(.list 1 a0f a0), (.list 1 a1f a1)] u0 K :=
  VF_sound (E := ⟨Try.prog, 26, [], [(4, ⟨[(5, .one (.raw (.int .i64)))], []⟩)], [], [], [], [], []⟩) (rs := [.tmp 4]) Try.func23 rfl rfl rfl (by kernel_rfl) (by kernel_rfl) (G_ponderkeep_Texts.ok a0f a0 a1f a1 u0 K ▸ h)


/-- ponder/ponderref06.Vars -/
def G_ponderref06_Vars.sh (a0a : ByteArray) (a0bf : Fl) (a0b : List (List PV)) (a0cf : Fl) (a0c : List (List PV)) (u0 : Mem) (R : PV → Mem → Prop) : Prop :=
  CallP Try.prog 17 [(.agg [(pS a0a), (.list 7 .sh a0b), (.list 19 .sh a0c)])] u0 fun v u =>
  ∃ (x7p : Int), ∃ (x7q : Int), v = (.tup [(pI x7p), (pI x7q)]) ∧
  CIf ((x7q : Int) != (0))
  (R (.list 1 .nil []) u)
  (CallP Try.prog 54 [(.agg [(pS a0a), (.list 7 .sh a0b), (.list 19 .sh a0c)]), (pI ((List.length a0b : Nat) : Int))] u fun v_1 u_1 =>
    ∃ (x16f : Fl) (x16 : List (List PV)), v_1 = (.list 1 x16f x16) ∧
    R (.list 1 x16f x16) u_1)

theorem G_ponderref06_Vars.ok (a0a : ByteArray) (a0bf : Fl) (a0b : List (List PV)) (a0cf : Fl) (a0c : List (List PV)) (u0 : Mem) (R : PV → Mem → Prop) : G_ponderref06_Vars.sh a0a a0bf a0b a0cf a0c u0 R = VF ⟨Try.prog, 17, [1], [], [], [], [], [], []⟩ ((Try.f24.body).getD .skip) [.tmp 2] [(.agg [(pS a0a), (.list 7 a0bf a0b), (.list 19 a0cf a0c)])] u0 R := by kernel_rfl

theorem G_ponderref06_Vars.c {a0a : ByteArray} {a0bf : Fl} {a0b : List (List PV)} {a0cf : Fl} {a0c : List (List PV)} {u0 : Mem} {K : PV → Mem → Prop} (h : G_ponderref06_Vars.sh a0a a0bf a0b a0cf a0c u0 K) : CallP Try.prog 24 [(.agg [(pS a0a), (.list 7 a0bf a0b), (.list 19 a0cf a0c)])] u0 K :=
  VF_sound (E := ⟨Try.prog, 17, [1], [], [], [], [], [], []⟩) (rs := [.tmp 2]) Try.func24 rfl rfl rfl (by kernel_rfl) (by kernel_rfl) (G_ponderref06_Vars.ok a0a a0bf a0b a0cf a0c u0 K ▸ h)


/-- ponder/ponderlaw06.other -/
def G_ponderlaw06_other.sh (a0 : Option Addr) (a0n a0c : Nat) (u0 : Mem) (R : PV → Mem → Prop) : Prop :=
  LoopI (α := Int) (fun next s u =>
    CIf (decide ((s : Int) < ((a0n : Nat) : Int)))
    (withSl a0 fun b o =>
      (0 : Int) ≤ s ∧ s < ((a0n : Nat) : Int) ∧
      ∃ (x19 : ByteArray), rdM u b ((o + Int.toNat s * 7) + 2) 1 = some [(pS x19)] ∧
      CallP Try.prog 26 [(pS x19)] u fun v u_1 =>
      ∃ (x20 : ByteArray), v = (pS x20) ∧
      stM b ((o + Int.toNat s * 7) + 2) [(pS x20)] u_1 fun u_2 =>
      LoopI (α := Int) (fun next_1 s_1 u_3 =>
        ∃ (x27 : Option Addr) (x27n x27c : Nat), rdM u_3 b ((o + Int.toNat s * 7) + 3) 1 = some [(.raw (.slice x27 x27n x27c))] ∧
        CIf (decide ((s_1 : Int) < ((x27n : Nat) : Int)))
        (∃ (x35 : Option Addr) (x35n x35c : Nat), rdM u_3 b ((o + Int.toNat s * 7) + 3) 1 = some [(.raw (.slice x35 x35n x35c))] ∧
          ∃ (x40 : Option Addr) (x40n x40c : Nat), rdM u_3 b ((o + Int.toNat s * 7) + 3) 1 = some [(.raw (.slice x40 x40n x40c))] ∧
          withSl x40 fun b_1 o_1 =>
          (0 : Int) ≤ s_1 ∧ s_1 < ((x40n : Nat) : Int) ∧
          ∃ (x44 : ByteArray), rdM u_3 b_1 ((o_1 + Int.toNat s_1 * 6) + 1) 1 = some [(pS x44)] ∧
          CallQ Try.prog 26 [(pS x44)] u_3 fun v_1 u_4 =>
          ∃ (x45 : ByteArray), v_1 = (pS x45) ∧
          withSl x35 fun b_2 o_2 =>
          (0 : Int) ≤ s_1 ∧ s_1 < ((x35n : Nat) : Int) ∧
          stM b_2 ((o_2 + Int.toNat s_1 * 6) + 1) [(pS x45)] (Mem.or u_3 u_4) fun u_5 =>
          next_1 (IntKind.wrap .i64 (s_1 + (1))) u_5)
        (LoopI (α := Int) (fun next_2 s_2 u_6 =>
            ∃ (x52 : Option Addr) (x52n x52c : Nat), rdM u_6 b ((o + Int.toNat s * 7) + 4) 1 = some [(.raw (.slice x52 x52n x52c))] ∧
            CIf (decide ((s_2 : Int) < ((x52n : Nat) : Int)))
            (∃ (x60 : Option Addr) (x60n x60c : Nat), rdM u_6 b ((o + Int.toNat s * 7) + 4) 1 = some [(.raw (.slice x60 x60n x60c))] ∧
              ∃ (x65 : Option Addr) (x65n x65c : Nat), rdM u_6 b ((o + Int.toNat s * 7) + 4) 1 = some [(.raw (.slice x65 x65n x65c))] ∧
              withSl x65 fun b_3 o_3 =>
              (0 : Int) ≤ s_2 ∧ s_2 < ((x65n : Nat) : Int) ∧
              ∃ (x69 : ByteArray), rdM u_6 b_3 ((o_3 + Int.toNat s_2 * 6) + 1) 1 = some [(pS x69)] ∧
              CallQ Try.prog 26 [(pS x69)] u_6 fun v_2 u_7 =>
              ∃ (x70 : ByteArray), v_2 = (pS x70) ∧
              withSl x60 fun b_4 o_4 =>
              (0 : Int) ≤ s_2 ∧ s_2 < ((x60n : Nat) : Int) ∧
              stM b_4 ((o_4 + Int.toNat s_2 * 6) + 1) [(pS x70)] (Mem.or u_6 u_7) fun u_8 =>
              next_2 (IntKind.wrap .i64 (s_2 + (1))) u_8)
            (∃ (x76 : Option Addr) (x76n x76c : Nat), rdM u_6 b ((o + Int.toNat s * 7) + 6) 1 = some [(.raw (.slice x76 x76n x76c))] ∧
              CallP Try.prog 25 [(.raw (.slice x76 x76n x76c))] u_6 fun v_3 u_9 =>
               v_3 = (.tup []) ∧
              next (IntKind.wrap .i64 (s + (1))) u_9))
          (0) u_3))
      (0) u_2)
    (R (.tup []) u))
  (0) u0

theorem G_ponderlaw06_other.ok (a0 : Option Addr) (a0n a0c : Nat) (u0 : Mem) (R : PV → Mem → Prop) : G_ponderlaw06_other.sh a0 a0n a0c u0 R = VF ⟨Try.prog, 78, [], [(1, ⟨[(2, .one (.raw (.int .i64)))], []⟩), (6, ⟨[(4, .one (.raw (.int .i64)))], []⟩), (10, ⟨[(5, .one (.raw (.int .i64)))], []⟩)], [], [], [], [], [0, 1, 2, 3, 4, 5, 6, 7, 8, 9, 10, 11, 12, 13, 14, 15, 16, 17, 18, 19, 20, 21, 22, 23, 24, 25, 26, 27, 28, 29, 30, 31, 32, 33, 34, 35, 36, 37, 38, 39, 40, 41, 42, 43, 44, 45, 46, 47, 48, 49, 50, 51, 52, 53, 54, 55, 56, 57, 58, 59, 60, 61, 62, 63, 64, 65, 66, 67, 68, 69, 70, 71, 72, 73, 74, 75, 76, 77]⟩ ((Try.f25.body).getD .skip) [] [(.raw (.slice a0 a0n a0c))] u0 R := by kernel_rfl

theorem G_ponderlaw06_other.c {a0 : Option Addr} {a0n a0c : Nat} {u0 : Mem} {K : PV → Mem → Prop} (h : G_ponderlaw06_other.sh a0 a0n a0c u0 K) : CallP Try.prog 25 [(.raw (.slice a0 a0n a0c))] u0 K :=
  VF_sound (E := ⟨Try.prog, 78, [], [(1, ⟨[(2, .one (.raw (.int .i64)))], []⟩), (6, ⟨[(4, .one (.raw (.int .i64)))], []⟩), (10, ⟨[(5, .one (.raw (.int .i64)))], []⟩)], [], [], [], [], [0, 1, 2, 3, 4, 5, 6, 7, 8, 9, 10, 11, 12, 13, 14, 15, 16, 17, 18, 19, 20, 21, 22, 23, 24, 25, 26, 27, 28, 29, 30, 31, 32, 33, 34, 35, 36, 37, 38, 39, 40, 41, 42, 43, 44, 45, 46, 47, 48, 49, 50, 51, 52, 53, 54, 55, 56, 57, 58, 59, 60, 61, 62, 63, 64, 65, 66, 67, 68, 69, 70, 71, 72, 73, 74, 75, 76, 77]⟩) (rs := []) Try.func25 rfl rfl rfl (by kernel_rfl) (by kernel_rfl) (G_ponderlaw06_other.ok a0 a0n a0c u0 K ▸ h)


/-- ponder/ponderlaw06.name -/
def G_ponderlaw06_name.sh (a0 : ByteArray) (u0 : Mem) (R : PV → Mem → Prop) : Prop :=
  CIf (strEq a0 ⟨#[]⟩)
  (R (pS ⟨#[]⟩) u0)
  ((0 : Int) ≤ (IntKind.wrap .i64 (((ByteArray.size a0 : Nat) : Int) - (1))) ∧ ∃ c9 : UInt8, a0[Int.toNat (IntKind.wrap .i64 (((ByteArray.size a0 : Nat) : Int) - (1)))]? = some c9 ∧
    CIf ((((UInt8.toNat c9 : Nat) : Int) : Int) == (113))
    ((0 : Int) ≤ (0 : Int) ∧ (0 : Int) ≤ (IntKind.wrap .i64 (((ByteArray.size a0 : Nat) : Int) - (1))) ∧ (IntKind.wrap .i64 (((ByteArray.size a0 : Nat) : Int) - (1))) ≤ ((ByteArray.size a0 : Nat) : Int) ∧
      (ByteArray.size (ByteArray.extract a0 (Int.toNat (0 : Int)) (Int.toNat (IntKind.wrap .i64 (((ByteArray.size a0 : Nat) : Int) - (1))))) + ByteArray.size ⟨#[122]⟩ < 9223372036854775808) ∧
      R (pS ((ByteArray.extract a0 (Int.toNat (0 : Int)) (Int.toNat (IntKind.wrap .i64 (((ByteArray.size a0 : Nat) : Int) - (1))))) ++ ⟨#[122]⟩)) u0)
    ((0 : Int) ≤ (IntKind.wrap .i64 (((ByteArray.size a0 : Nat) : Int) - (1))) ∧ ∃ c21 : UInt8, a0[Int.toNat (IntKind.wrap .i64 (((ByteArray.size a0 : Nat) : Int) - (1)))]? = some c21 ∧
      CIf ((((UInt8.toNat c21 : Nat) : Int) : Int) == (122))
      ((0 : Int) ≤ (0 : Int) ∧ (0 : Int) ≤ (IntKind.wrap .i64 (((ByteArray.size a0 : Nat) : Int) - (1))) ∧ (IntKind.wrap .i64 (((ByteArray.size a0 : Nat) : Int) - (1))) ≤ ((ByteArray.size a0 : Nat) : Int) ∧
        (ByteArray.size (ByteArray.extract a0 (Int.toNat (0 : Int)) (Int.toNat (IntKind.wrap .i64 (((ByteArray.size a0 : Nat) : Int) - (1))))) + ByteArray.size ⟨#[113]⟩ < 9223372036854775808) ∧
        R (pS ((ByteArray.extract a0 (Int.toNat (0 : Int)) (Int.toNat (IntKind.wrap .i64 (((ByteArray.size a0 : Nat) : Int) - (1))))) ++ ⟨#[113]⟩)) u0)
      (R (pS a0) u0)))

theorem G_ponderlaw06_name.ok (a0 : ByteArray) (u0 : Mem) (R : PV → Mem → Prop) : G_ponderlaw06_name.sh a0 u0 R = VF ⟨Try.prog, 30, [], [], [], [], [], [], []⟩ ((Try.f26.body).getD .skip) [.tmp 2] [(pS a0)] u0 R := by kernel_rfl

theorem G_ponderlaw06_name.c {a0 : ByteArray} {u0 : Mem} {K : PV → Mem → Prop} (h : G_ponderlaw06_name.sh a0 u0 K) : CallP Try.prog 26 [(pS a0)] u0 K :=
  VF_sound (E := ⟨Try.prog, 30, [], [], [], [], [], [], []⟩) (rs := [.tmp 2]) Try.func26 rfl rfl rfl (by kernel_rfl) (by kernel_rfl) (G_ponderlaw06_name.ok a0 u0 K ▸ h)


/-- ponder/ponderlaw06.W -/
def G_ponderlaw06_W.sh (a0 : ByteArray) (u0 : Mem) (R : PV → Mem → Prop) : Prop :=
  R (.agg [(pI (3)), (pS a0), (pI (0))]) u0

theorem G_ponderlaw06_W.ok (a0 : ByteArray) (u0 : Mem) (R : PV → Mem → Prop) : G_ponderlaw06_W.sh a0 u0 R = VF ⟨Try.prog, 5, [2], [], [], [], [], [], []⟩ ((Try.f27.body).getD .skip) [.cell 2 39] [(pS a0)] u0 R := by kernel_rfl

theorem G_ponderlaw06_W.c {a0 : ByteArray} {u0 : Mem} {K : PV → Mem → Prop} (h : G_ponderlaw06_W.sh a0 u0 K) : CallP Try.prog 27 [(pS a0)] u0 K :=
  VF_sound (E := ⟨Try.prog, 5, [2], [], [], [], [], [], []⟩) (rs := [.cell 2 39]) Try.func27 rfl rfl rfl (by kernel_rfl) (by kernel_rfl) (G_ponderlaw06_W.ok a0 u0 K ▸ h)


/-- ponder/shape.Size -/
def G_shape_Size.sh (a0f : Fl) (a0 : List (List PV)) (u0 : Mem) (R : PV → Mem → Prop) : Prop :=
  CallP Try.prog 39 [(.list 7 a0f a0), (pI (0)), (pI (0)), (.fn (.func 55) [] [])] u0 fun v u =>
  ∃ (x7p : Int), ∃ (x7q : Bool), v = (.tup [(pI x7p), (pB x7q)]) ∧
  R (pI x7p) u

theorem G_shape_Size.ok (a0f : Fl) (a0 : List (List PV)) (u0 : Mem) (R : PV → Mem → Prop) : G_shape_Size.sh a0f a0 u0 R = VF ⟨Try.prog, 11, [], [], [], [], [], [], []⟩ ((Try.f28.body).getD .skip) [.tmp 2] [(.list 7 a0f a0)] u0 R := by kernel_rfl

theorem G_shape_Size.c {a0f : Fl} {a0 : List (List PV)} {u0 : Mem} {K : PV → Mem → Prop} (h : G_shape_Size.sh a0f a0 u0 K) : CallP Try.prog 28 [(.list 7 a0f a0)] u0 K :=
  VF_sound (E := ⟨Try.prog, 11, [], [], [], [], [], [], []⟩) (rs := [.tmp 2]) Try.func28 rfl rfl rfl (by kernel_rfl) (by kernel_rfl) (G_shape_Size.ok a0f a0 u0 K ▸ h)


/-- ponder/ponderref06.Each -/
def G_ponderref06_Each.sh (a0f : Fl) (a0 : List (List PV)) (u0 : Mem) (R : PV → Mem → Prop) : Prop :=
  LoopI (α := (Fl × List (List PV)) × Int) (fun next s u =>
    CIf (decide ((s.2 : Int) < ((List.length a0 : Nat) : Int)))
    ((0 : Int) ≤ s.2 ∧ ∃ (r14 : List PV), (a0)[Int.toNat s.2]? = some r14 ∧
      ∃ (x15a : Int), ∃ (x15b : Bool), ∃ (x15c : ByteArray), ∃ (x15df : Fl) (x15d : List (List PV)), ∃ (x15ef : Fl) (x15e : List (List PV)), ∃ (x15f : Bool), ∃ (x15gf : Fl) (x15g : List (List PV)), rowM r14 0 7 = some [(pI x15a), (pB x15b), (pS x15c), (.list 6 x15df x15d), (.list 6 x15ef x15e), (pB x15f), (.list 7 x15gf x15g)] ∧
      appL false 7 112 s.1.1 s.1.2 [[(pI x15a), (pB x15b), (pS x15c), (.list 6 .sh x15d), (.list 6 .sh x15e), (pB x15f), (.list 7 .sh x15g)]] u fun f17 u_1 =>
      (0 : Int) ≤ s.2 ∧ ∃ (r21 : List PV), (a0)[Int.toNat s.2]? = some r21 ∧
      ∃ (x23f : Fl) (x23 : List (List PV)), rowM r21 6 1 = some [(.list 7 x23f x23)] ∧
      CallP Try.prog 29 [(.list 7 x23f x23)] u_1 fun v u_2 =>
      ∃ (x24f : Fl) (x24 : List (List PV)), v = (.list 7 x24f x24) ∧
      appL false 7 112 f17 (s.1.2 ++ [[(pI x15a), (pB x15b), (pS x15c), (.list 6 .sh x15d), (.list 6 .sh x15e), (pB x15f), (.list 7 .sh x15g)]]) x24 u_2 fun f25 u_3 =>
      next ((f25, ((s.1.2 ++ [[(pI x15a), (pB x15b), (pS x15c), (.list 6 .sh x15d), (.list 6 .sh x15e), (pB x15f), (.list 7 .sh x15g)]]) ++ x24)), (IntKind.wrap .i64 (s.2 + (1)))) u_3)
    (R (.list 7 s.1.1 s.1.2) u))
  ((.nil, []), (0)) u0

theorem G_ponderref06_Each.ok (a0f : Fl) (a0 : List (List PV)) (u0 : Mem) (R : PV → Mem → Prop) : G_ponderref06_Each.sh a0f a0 u0 R = VF ⟨Try.prog, 27, [], [(3, ⟨[(3, .one (.list 7)), (4, .one (.raw (.int .i64)))], []⟩)], [], [], [], [], []⟩ ((Try.f29.body).getD .skip) [.tmp 2] [(.list 7 a0f a0)] u0 R := by kernel_rfl

theorem G_ponderref06_Each.c {a0f : Fl} {a0 : List (List PV)} {u0 : Mem} {K : PV → Mem → Prop} (h : G_ponderref06_Each.sh a0f a0 u0 K) : CallP Try.prog 29 [(.list 7 a0f a0)] u0 K :=
  VF_sound (E := ⟨Try.prog, 27, [], [(3, ⟨[(3, .one (.list 7)), (4, .one (.raw (.int .i64)))], []⟩)], [], [], [], [], []⟩) (rs := [.tmp 2]) Try.func29 rfl rfl rfl (by kernel_rfl) (by kernel_rfl) (G_ponderref06_Each.ok a0f a0 u0 K ▸ h)


/-- ponder/ponderlaw06.conds -/
def G_ponderlaw06_conds.sh (a0f : Fl) (a0 : List (List PV)) (a1 : Int) (u0 : Mem) (R : PV → Mem → Prop) : Prop :=
  ∀ (b3 : Nat), u0 b3 = none →
  ∀ (b4 : Nat), (Mem.set u0 b3 (some (.cells 3 [(pI a1)]))) b4 = none →
  ∀ (b5 : Nat), (Mem.set (Mem.set u0 b3 (some (.cells 3 [(pI a1)]))) b4 (some (.cells 22 [(.raw (.slice none 0 0))]))) b5 = none →
  ∀ (b6 : Nat), (Mem.set (Mem.set (Mem.set u0 b3 (some (.cells 3 [(pI a1)]))) b4 (some (.cells 22 [(.raw (.slice none 0 0))]))) b5 (some (.cells 4 [(pB false)]))) b6 = none →
  CallP Try.prog 56 [(.list 7 a0f a0)] (Mem.set (Mem.set (Mem.set (Mem.set u0 b3 (some (.cells 3 [(pI a1)]))) b4 (some (.cells 22 [(.raw (.slice none 0 0))]))) b5 (some (.cells 4 [(pB false)]))) b6 (some (.cells 22 [(.raw (.slice none 0 0))]))) fun v u =>
  ∃ (x11 : Fn) (x11a x11b : List PV), v = (.fn x11 x11a x11b) ∧
  RangeP Try.prog (.fn x11 x11a x11b) (fun vs RR u_1 =>
    ∃ (x15 : Int), ∃ (x16a : Int), ∃ (x16b : Bool), ∃ (x16c : ByteArray), ∃ (x16df : Fl) (x16d : List (List PV)), ∃ (x16ef : Fl) (x16e : List (List PV)), ∃ (x16f : Bool), ∃ (x16gf : Fl) (x16g : List (List PV)), vs = [(pI x15), (.agg [(pI x16a), (pB x16b), (pS x16c), (.list 6 x16df x16d), (.list 6 x16ef x16e), (pB x16f), (.list 7 x16gf x16g)])] ∧
    ∃ (x18 : Option Addr) (x18n x18c : Nat), rdM u_1 b6 0 1 = some [(.raw (.slice x18 x18n x18c))] ∧
    CIf ((x15 : Int) != ((x18n : Nat) : Int))
    (stM b4 0 [(.raw (.slice none 0 0))] u_1 fun u_3 =>
      stM b5 0 [(pB false)] u_3 fun u_4 =>
      RR (some .ret) u_4)
    (∃ (x21 : Option Addr) (x21n x21c : Nat), rdM u_1 b6 0 1 = some [(.raw (.slice x21 x21n x21c))] ∧
      appR 7 112 37 x21 x21n x21c (.list 7 .nr [[(pI (0)), (pB false), (pS ⟨#[]⟩), (.list 6 .sh []), (.list 6 .sh []), (pB false), (.list 7 .sh [])]]) u_1 fun s25 s25n s25c u_5 =>
      withSl s25 fun b o =>
      (0 : Int) ≤ ((x21n : Nat) : Int) ∧ ((x21n : Nat) : Int) < ((s25n : Nat) : Int) ∧
      (stM b (o + Int.toNat ((x21n : Nat) : Int) * 7) [(pI x16a), (pB x16b), (pS x16c), (.list 6 x16df x16d), (.list 6 x16ef x16e), (pB x16f), (.list 7 x16gf x16g)] u_5 fun u_6 =>
        stM b6 0 [(.raw (.slice s25 s25n s25c))] u_6 fun u_7 =>
        ∃ (x27 : Option Addr) (x27n x27c : Nat), rdM u_7 b6 0 1 = some [(.raw (.slice x27 x27n x27c))] ∧
        ∃ (x29 : Int), rdM u_7 b3 0 1 = some [(pI x29)] ∧
        CIf (decide ((((x27n : Nat) : Int) : Int) ≥ x29))
        (RR (some (.exit 0)) u_7)
        (RR none u_7)) ∧
      (stM b6 0 [(.raw (.slice s25 s25n s25c))] u_5 fun u_8 =>
        stM b (o + Int.toNat ((x21n : Nat) : Int) * 7) [(pI x16a), (pB x16b), (pS x16c), (.list 6 x16df x16d), (.list 6 x16ef x16e), (pB x16f), (.list 7 x16gf x16g)] u_8 fun u_9 =>
        ∃ (x27_1 : Option Addr) (x27_1n x27_1c : Nat), rdM u_9 b6 0 1 = some [(.raw (.slice x27_1 x27_1n x27_1c))] ∧
        ∃ (x29_1 : Int), rdM u_9 b3 0 1 = some [(pI x29_1)] ∧
        CIf (decide ((((x27_1n : Nat) : Int) : Int) ≥ x29_1))
        (RR (some (.exit 0)) u_9)
        (RR none u_9))))
  (fun p u_2 =>
    PK p
    (∃ (x31 : Option Addr) (x31n x31c : Nat), rdM u_2 b6 0 1 = some [(.raw (.slice x31 x31n x31c))] ∧
      stM b4 0 [(.raw (.slice x31 x31n x31c))] u_2 fun u_10 =>
      stM b5 0 [(pB true)] u_10 fun u_11 =>
      ∃ (r0 : Option Addr) (r0n r0c : Nat), rdM u_11 b4 0 1 = some [(.raw (.slice r0 r0n r0c))] ∧
      ∃ (r1 : Bool), rdM u_11 b5 0 1 = some [(pB r1)] ∧
      R (.tup [(.raw (.slice r0 r0n r0c)), (pB r1)]) u_11)
    (∃ (r0_1 : Option Addr) (r0_1n r0_1c : Nat), rdM u_2 b4 0 1 = some [(.raw (.slice r0_1 r0_1n r0_1c))] ∧
      ∃ (r1_1 : Bool), rdM u_2 b5 0 1 = some [(pB r1_1)] ∧
      R (.tup [(.raw (.slice r0_1 r0_1n r0_1c)), (pB r1_1)]) u_2)
    [(0, (∃ (x31_1 : Option Addr) (x31_1n x31_1c : Nat), rdM u_2 b6 0 1 = some [(.raw (.slice x31_1 x31_1n x31_1c))] ∧
        stM b4 0 [(.raw (.slice x31_1 x31_1n x31_1c))] u_2 fun u_12 =>
        stM b5 0 [(pB true)] u_12 fun u_13 =>
        ∃ (r0_2 : Option Addr) (r0_2n r0_2c : Nat), rdM u_13 b4 0 1 = some [(.raw (.slice r0_2 r0_2n r0_2c))] ∧
        ∃ (r1_2 : Bool), rdM u_13 b5 0 1 = some [(pB r1_2)] ∧
        R (.tup [(.raw (.slice r0_2 r0_2n r0_2c)), (pB r1_2)]) u_13))])
  u

theorem G_ponderlaw06_conds.ok (a0f : Fl) (a0 : List (List PV)) (a1 : Int) (u0 : Mem) (R : PV → Mem → Prop) : G_ponderlaw06_conds.sh a0f a0 a1 u0 R = VF ⟨Try.prog, 32, [9], [], [], [(15, [3, 37])], [], [], [4, 6, 18, 21, 25, 27, 31]⟩ ((Try.f30.body).getD .skip) [.cell 4 22, .cell 5 4] [(.list 7 a0f a0), (pI a1)] u0 R := by kernel_rfl

theorem G_ponderlaw06_conds.c {a0f : Fl} {a0 : List (List PV)} {a1 : Int} {u0 : Mem} {K : PV → Mem → Prop} (h : G_ponderlaw06_conds.sh a0f a0 a1 u0 K) : CallP Try.prog 30 [(.list 7 a0f a0), (pI a1)] u0 K :=
  VF_sound (E := ⟨Try.prog, 32, [9], [], [], [(15, [3, 37])], [], [], [4, 6, 18, 21, 25, 27, 31]⟩) (rs := [.cell 4 22, .cell 5 4]) Try.func30 rfl rfl rfl (by kernel_rfl) (by kernel_rfl) (G_ponderlaw06_conds.ok a0f a0 a1 u0 K ▸ h)


/-- ponder/ponderkeep.Conds -/
def G_ponderkeep_Conds.sh (a0f : Fl) (a0 : List (List PV)) (a1f : Fl) (a1 : List (List PV)) (u0 : Mem) (R : PV → Mem → Prop) : Prop :=
  CIf ((((List.length a0 : Nat) : Int) : Int) != ((List.length a1 : Nat) : Int))
  (R (pB false) u0)
  (LoopI (α := Int) (fun next s u =>
      CIf (decide ((s : Int) < ((List.length a0 : Nat) : Int)))
      ((0 : Int) ≤ s ∧ ∃ (r19 : List PV), (a0)[Int.toNat s]? = some r19 ∧
        ∃ (x20a : Int), ∃ (x20b : Bool), ∃ (x20c : ByteArray), ∃ (x20df : Fl) (x20d : List (List PV)), ∃ (x20ef : Fl) (x20e : List (List PV)), ∃ (x20f : Bool), ∃ (x20gf : Fl) (x20g : List (List PV)), rowM r19 0 7 = some [(pI x20a), (pB x20b), (pS x20c), (.list 6 x20df x20d), (.list 6 x20ef x20e), (pB x20f), (.list 7 x20gf x20g)] ∧
        (0 : Int) ≤ s ∧ ∃ (r23 : List PV), (a1)[Int.toNat s]? = some r23 ∧
        ∃ (x24a : Int), ∃ (x24b : Bool), ∃ (x24c : ByteArray), ∃ (x24df : Fl) (x24d : List (List PV)), ∃ (x24ef : Fl) (x24e : List (List PV)), ∃ (x24f : Bool), ∃ (x24gf : Fl) (x24g : List (List PV)), rowM r23 0 7 = some [(pI x24a), (pB x24b), (pS x24c), (.list 6 x24df x24d), (.list 6 x24ef x24e), (pB x24f), (.list 7 x24gf x24g)] ∧
        CallP Try.prog 57 [(.agg [(pI x20a), (pB x20b), (pS x20c), (.list 6 .sh x20d), (.list 6 .sh x20e), (pB x20f), (.list 7 .sh x20g)]), (.agg [(pI x24a), (pB x24b), (pS x24c), (.list 6 .sh x24d), (.list 6 .sh x24e), (pB x24f), (.list 7 .sh x24g)])] u fun v u_1 =>
        ∃ (x25 : Bool), v = (pB x25) ∧
        CIf (!x25)
        (R (pB false) u_1)
        (next (IntKind.wrap .i64 (s + (1))) u_1))
      (R (pB true) u))
    (0) u0)

theorem G_ponderkeep_Conds.ok (a0f : Fl) (a0 : List (List PV)) (a1f : Fl) (a1 : List (List PV)) (u0 : Mem) (R : PV → Mem → Prop) : G_ponderkeep_Conds.sh a0f a0 a1f a1 u0 R = VF ⟨Try.prog, 27, [], [(4, ⟨[(5, .one (.raw (.int .i64)))], []⟩)], [], [], [], [], []⟩ ((Try.f31.body).getD .skip) [.tmp 4] [(.list 7 a0f a0), (.list 7 a1f a1)] u0 R := by kernel_rfl

theorem G_ponderkeep_Conds.c {a0f : Fl} {a0 : List (List PV)} {a1f : Fl} {a1 : List (List PV)} {u0 : Mem} {K : PV → Mem → Prop} (h : G_ponderkeep_Conds.sh a0f a0 a1f a1 u0 K) : CallP Try.prog 31 [(.list 7 a0f a0), (.list 7 a1f a1)] u0 K :=
  VF_sound (E := ⟨Try.prog, 27, [], [(4, ⟨[(5, .one (.raw (.int .i64)))], []⟩)], [], [], [], [], []⟩) (rs := [.tmp 4]) Try.func31 rfl rfl rfl (by kernel_rfl) (by kernel_rfl) (G_ponderkeep_Conds.ok a0f a0 a1f a1 u0 K ▸ h)


/-- ponder/ponderkeep.Syms -/
def G_ponderkeep_Syms.sh (a0f : Fl) (a0 : List (List PV)) (a1f : Fl) (a1 : List (List PV)) (u0 : Mem) (R : PV → Mem → Prop) : Prop :=
  CIf ((((List.length a0 : Nat) : Int) : Int) != ((List.length a1 : Nat) : Int))
  (R (pB false) u0)
  (LoopI (α := Int) (fun next s u =>
      CIf (decide ((s : Int) < ((List.length a0 : Nat) : Int)))
      ((0 : Int) ≤ s ∧ ∃ (r19 : List PV), (a0)[Int.toNat s]? = some r19 ∧
        ∃ (x20a : Int), ∃ (x20b : ByteArray), ∃ (x20c : Int), rowM r19 0 3 = some [(pI x20a), (pS x20b), (pI x20c)] ∧
        (0 : Int) ≤ s ∧ ∃ (r23 : List PV), (a1)[Int.toNat s]? = some r23 ∧
        ∃ (x24a : Int), ∃ (x24b : ByteArray), ∃ (x24c : Int), rowM r23 0 3 = some [(pI x24a), (pS x24b), (pI x24c)] ∧
        CIf (!((x20a == x24a) && (strEq x20b x24b && ((x20c == x24c) && true))))
        (R (pB false) u)
        (next (IntKind.wrap .i64 (s + (1))) u))
      (R (pB true) u))
    (0) u0)

theorem G_ponderkeep_Syms.ok (a0f : Fl) (a0 : List (List PV)) (a1f : Fl) (a1 : List (List PV)) (u0 : Mem) (R : PV → Mem → Prop) : G_ponderkeep_Syms.sh a0f a0 a1f a1 u0 R = VF ⟨Try.prog, 26, [], [(4, ⟨[(5, .one (.raw (.int .i64)))], []⟩)], [], [], [], [], []⟩ ((Try.f32.body).getD .skip) [.tmp 4] [(.list 3 a0f a0), (.list 3 a1f a1)] u0 R := by kernel_rfl

theorem G_ponderkeep_Syms.c {a0f : Fl} {a0 : List (List PV)} {a1f : Fl} {a1 : List (List PV)} {u0 : Mem} {K : PV → Mem → Prop} (h : G_ponderkeep_Syms.sh a0f a0 a1f a1 u0 K) : CallP Try.prog 32 [(.list 3 a0f a0), (.list 3 a1f a1)] u0 K :=
  VF_sound (E := ⟨Try.prog, 26, [], [(4, ⟨[(5, .one (.raw (.int .i64)))], []⟩)], [], [], [], [], []⟩) (rs := [.tmp 4]) Try.func32 rfl rfl rfl (by kernel_rfl) (by kernel_rfl) (G_ponderkeep_Syms.ok a0f a0 a1f a1 u0 K ▸ h)


/-- ponder/ponderkeep.List[ponder/api.Sym] -/
def G_ponderkeep_List_api_Sym.sh (a0 : Fn) (a0a a0b : List PV) (u0 : Mem) (R : PV → Mem → Prop) : Prop :=
  ∀ (b3 : Nat), u0 b3 = none →
  RangeP Try.prog (.fn a0 a0a a0b) (fun vs RR u =>
    ∃ (x8a : Int), ∃ (x8b : ByteArray), ∃ (x8c : Int), vs = [(.agg [(pI x8a), (pS x8b), (pI x8c)])] ∧
    ∃ (x9f : Fl) (x9 : List (List PV)), rdM u b3 0 1 = some [(.list 3 x9f x9)] ∧
    appL false 3 32 x9f x9 [[(pI x8a), (pS x8b), (pI x8c)]] u fun f12 u_2 =>
    stM b3 0 [(.list 3 f12 (x9 ++ [[(pI x8a), (pS x8b), (pI x8c)]]))] u_2 fun u_3 =>
    RR none u_3)
  (fun p u_1 =>
    PK p
    (∃ (x13f : Fl) (x13 : List (List PV)), rdM u_1 b3 0 1 = some [(.list 3 x13f x13)] ∧
      R (.list 3 x13f x13) u_1)
    (False)
    [])
  (Mem.set u0 b3 (some (.cells 47 [(.list 3 .nil [])])))

theorem G_ponderkeep_List_api_Sym.ok (a0 : Fn) (a0a a0b : List PV) (u0 : Mem) (R : PV → Mem → Prop) : G_ponderkeep_List_api_Sym.sh a0 a0a a0b u0 R = VF ⟨Try.prog, 14, [4], [], [], [(8, [39])], [], [], []⟩ ((Try.f33.body).getD .skip) [.tmp 2] [(.fn a0 a0a a0b)] u0 R := by kernel_rfl

theorem G_ponderkeep_List_api_Sym.c {a0 : Fn} {a0a a0b : List PV} {u0 : Mem} {K : PV → Mem → Prop} (h : G_ponderkeep_List_api_Sym.sh a0 a0a a0b u0 K) : CallP Try.prog 33 [(.fn a0 a0a a0b)] u0 K :=
  VF_sound (E := ⟨Try.prog, 14, [4], [], [], [(8, [39])], [], [], []⟩) (rs := [.tmp 2]) Try.func33 rfl rfl rfl (by kernel_rfl) (by kernel_rfl) (G_ponderkeep_List_api_Sym.ok a0 a0a a0b u0 K ▸ h)


/-- ponder/shape.Consts -/
def G_shape_Consts.sh (a0a : ByteArray) (a0bf : Fl) (a0b : List (List PV)) (a0cf : Fl) (a0c : List (List PV)) (u0 : Mem) (R : PV → Mem → Prop) : Prop :=
  R (.fn (.func 58) [] [(.fptr [(pS a0a), (.list 7 .sh a0b), (.list 19 .sh a0c)] 0)]) u0

theorem G_shape_Consts.ok (a0a : ByteArray) (a0bf : Fl) (a0b : List (List PV)) (a0cf : Fl) (a0c : List (List PV)) (u0 : Mem) (R : PV → Mem → Prop) : G_shape_Consts.sh a0a a0bf a0b a0cf a0c u0 R = VF ⟨Try.prog, 4, [], [], [], [], [1], [], []⟩ ((Try.f34.body).getD .skip) [.tmp 2] [(.agg [(pS a0a), (.list 7 a0bf a0b), (.list 19 a0cf a0c)])] u0 R := by kernel_rfl

theorem G_shape_Consts.c {a0a : ByteArray} {a0bf : Fl} {a0b : List (List PV)} {a0cf : Fl} {a0c : List (List PV)} {u0 : Mem} {K : PV → Mem → Prop} (h : G_shape_Consts.sh a0a a0bf a0b a0cf a0c u0 K) : CallP Try.prog 34 [(.agg [(pS a0a), (.list 7 a0bf a0b), (.list 19 a0cf a0c)])] u0 K :=
  VF_sound (E := ⟨Try.prog, 4, [], [], [], [], [1], [], []⟩) (rs := [.tmp 2]) Try.func34 rfl rfl rfl (by kernel_rfl) (by kernel_rfl) (G_shape_Consts.ok a0a a0bf a0b a0cf a0c u0 K ▸ h)


/-- ponder/ponderref06.Consts -/
def G_ponderref06_Consts.sh (a0a : ByteArray) (a0bf : Fl) (a0b : List (List PV)) (a0cf : Fl) (a0c : List (List PV)) (u0 : Mem) (R : PV → Mem → Prop) : Prop :=
  CallP Try.prog 29 [(.list 7 a0bf a0b)] u0 fun v u =>
  ∃ (x12f : Fl) (x12 : List (List PV)), v = (.list 7 x12f x12) ∧
  LoopI (α := (Fl × List (List PV)) × Int) (fun next s u_1 =>
    CIf (decide ((s.2 : Int) < ((List.length x12 : Nat) : Int)))
    ((0 : Int) ≤ s.2 ∧ ∃ (r22 : List PV), (x12)[Int.toNat s.2]? = some r22 ∧
      ∃ (x24f : Fl) (x24 : List (List PV)), rowM r22 3 1 = some [(.list 6 x24f x24)] ∧
      CallP Try.prog 62 [(.list 6 x24f x24)] u_1 fun v_1 u_2 =>
      ∃ (x25f : Fl) (x25 : List (List PV)), v_1 = (.list 3 x25f x25) ∧
      appL false 3 32 s.1.1 s.1.2 x25 u_2 fun f26 u_3 =>
      (0 : Int) ≤ s.2 ∧ ∃ (r30 : List PV), (x12)[Int.toNat s.2]? = some r30 ∧
      ∃ (x32f : Fl) (x32 : List (List PV)), rowM r30 4 1 = some [(.list 6 x32f x32)] ∧
      CallP Try.prog 62 [(.list 6 x32f x32)] u_3 fun v_2 u_4 =>
      ∃ (x33f : Fl) (x33 : List (List PV)), v_2 = (.list 3 x33f x33) ∧
      appL false 3 32 f26 (s.1.2 ++ x25) x33 u_4 fun f34 u_5 =>
      next ((f34, ((s.1.2 ++ x25) ++ x33)), (IntKind.wrap .i64 (s.2 + (1)))) u_5)
    (LoopI (α := (Fl × List (List PV)) × Int) (fun next_1 s_1 u_6 =>
        CIf (decide ((s_1.2 : Int) < ((List.length a0c : Nat) : Int)))
        ((0 : Int) ≤ s_1.2 ∧ ∃ (r45 : List PV), (a0c)[Int.toNat s_1.2]? = some r45 ∧
          ∃ (x46a : ByteArray), ∃ (x46b : ByteArray), ∃ (x46c : Int), ∃ (x46d : ByteArray), ∃ (x46e : Int), ∃ (x46f : Int), ∃ (x46g : ByteArray), ∃ (x46h : Int), ∃ (x46i : ByteArray), ∃ (x46j : Int), ∃ (x46k : ByteArray), ∃ (x46l : Int), ∃ (x46m : ByteArray), ∃ (x46n : Int), ∃ (x46o : Int), ∃ (x46p : ByteArray), ∃ (x46q : Int), ∃ (x46r : ByteArray), ∃ (x46s : Int), rowM r45 0 19 = some [(pS x46a), (pS x46b), (pI x46c), (pS x46d), (pI x46e), (pI x46f), (pS x46g), (pI x46h), (pS x46i), (pI x46j), (pS x46k), (pI x46l), (pS x46m), (pI x46n), (pI x46o), (pS x46p), (pI x46q), (pS x46r), (pI x46s)] ∧
          LoopI (α := (Fl × List (List PV)) × Int) (fun next_2 s_2 u_7 =>
            CIf (decide ((s_2.2 : Int) < ((List.length [[(pS x46b), (pI x46c), (pS x46d), (pI x46e)], [(pS x46g), (pI x46h), (pS x46i), (pI x46j)], [(pS x46k), (pI x46l), (pS x46m), (pI x46n)], [(pS x46p), (pI x46q), (pS x46r), (pI x46s)]] : Nat) : Int)))
            ((0 : Int) ≤ s_2.2 ∧ ∃ (r66 : List PV), ([[(pS x46b), (pI x46c), (pS x46d), (pI x46e)], [(pS x46g), (pI x46h), (pS x46i), (pI x46j)], [(pS x46k), (pI x46l), (pS x46m), (pI x46n)], [(pS x46p), (pI x46q), (pS x46r), (pI x46s)]])[Int.toNat s_2.2]? = some r66 ∧
              ∃ (x68 : ByteArray), rowM r66 0 1 = some [(pS x68)] ∧
              CIf (strEq x68 ⟨#[]⟩)
              ((0 : Int) ≤ s_2.2 ∧ ∃ (r73 : List PV), ([[(pS x46b), (pI x46c), (pS x46d), (pI x46e)], [(pS x46g), (pI x46h), (pS x46i), (pI x46j)], [(pS x46k), (pI x46l), (pS x46m), (pI x46n)], [(pS x46p), (pI x46q), (pS x46r), (pI x46s)]])[Int.toNat s_2.2]? = some r73 ∧
                ∃ (x75a : Int), ∃ (x75b : ByteArray), ∃ (x75c : Int), rowM r73 1 3 = some [(pI x75a), (pS x75b), (pI x75c)] ∧
                CIf (!((x75a == (0)) && (strEq x75b ⟨#[]⟩ && ((x75c == (0)) && true))))
                ((0 : Int) ≤ s_2.2 ∧ ∃ (r82 : List PV), ([[(pS x46b), (pI x46c), (pS x46d), (pI x46e)], [(pS x46g), (pI x46h), (pS x46i), (pI x46j)], [(pS x46k), (pI x46l), (pS x46m), (pI x46n)], [(pS x46p), (pI x46q), (pS x46r), (pI x46s)]])[Int.toNat s_2.2]? = some r82 ∧
                  ∃ (x84a : Int), ∃ (x84b : ByteArray), ∃ (x84c : Int), rowM r82 1 3 = some [(pI x84a), (pS x84b), (pI x84c)] ∧
                  appL false 3 32 s_2.1.1 s_2.1.2 [[(pI x84a), (pS x84b), (pI x84c)]] u_7 fun f86 u_8 =>
                  next_2 ((f86, (s_2.1.2 ++ [[(pI x84a), (pS x84b), (pI x84c)]])), (IntKind.wrap .i64 (s_2.2 + (1)))) u_8)
                (next_2 ((s_2.1.1, s_2.1.2), (IntKind.wrap .i64 (s_2.2 + (1)))) u_7))
              (next_2 ((s_2.1.1, s_2.1.2), (IntKind.wrap .i64 (s_2.2 + (1)))) u_7))
            (next_1 ((s_2.1.1, s_2.1.2), (IntKind.wrap .i64 (s_1.2 + (1)))) u_7))
          ((s_1.1.1, s_1.1.2), (0)) u_6)
        (R (.list 3 s_1.1.1 s_1.1.2) u_6))
      ((s.1.1, s.1.2), (0)) u_1))
  ((.nil, []), (0)) u

theorem G_ponderref06_Consts.ok (a0a : ByteArray) (a0bf : Fl) (a0b : List (List PV)) (a0cf : Fl) (a0c : List (List PV)) (u0 : Mem) (R : PV → Mem → Prop) : G_ponderref06_Consts.sh a0a a0bf a0b a0cf a0c u0 R = VF ⟨Try.prog, 88, [1, 7], [(4, ⟨[(3, .one (.list 3)), (5, .one (.raw (.int .i64)))], []⟩), (9, ⟨[(3, .one (.list 3)), (6, .one (.raw (.int .i64)))], []⟩), (14, ⟨[(3, .one (.list 3)), (9, .one (.raw (.int .i64)))], []⟩)], [], [], [], [], []⟩ ((Try.f35.body).getD .skip) [.tmp 2] [(.agg [(pS a0a), (.list 7 a0bf a0b), (.list 19 a0cf a0c)])] u0 R := by kernel_rfl

theorem G_ponderref06_Consts.c {a0a : ByteArray} {a0bf : Fl} {a0b : List (List PV)} {a0cf : Fl} {a0c : List (List PV)} {u0 : Mem} {K : PV → Mem → Prop} (h : G_ponderref06_Consts.sh a0a a0bf a0b a0cf a0c u0 K) : CallP Try.prog 35 [(.agg [(pS a0a), (.list 7 a0bf a0b), (.list 19 a0cf a0c)])] u0 K :=
  VF_sound (E := ⟨Try.prog, 88, [1, 7], [(4, ⟨[(3, .one (.list 3)), (5, .one (.raw (.int .i64)))], []⟩), (9, ⟨[(3, .one (.list 3)), (6, .one (.raw (.int .i64)))], []⟩), (14, ⟨[(3, .one (.list 3)), (9, .one (.raw (.int .i64)))], []⟩)], [], [], [], [], []⟩) (rs := [.tmp 2]) Try.func35 rfl rfl rfl (by kernel_rfl) (by kernel_rfl) (G_ponderref06_Consts.ok a0a a0bf a0b a0cf a0c u0 K ▸ h)


/-- ponder/ponderkeep.Size -/
def G_ponderkeep_Size.sh (a0f : Fl) (a0 : List (List PV)) (a1 : Int) (a2 : Int) (u0 : Mem) (R : PV → Mem → Prop) : Prop :=
  CIf (decide ((a2 : Int) > (20)))
  (R (pI (IntKind.wrap .i64 (a1 + (1)))) u0)
  (CJoin (α := Int) (fun J =>
      LoopI (α := Int × Int) (fun next s_1 u_1 =>
        CIf (decide ((s_1.2 : Int) < ((List.length a0 : Nat) : Int)))
        (CIf (decide ((s_1.1 : Int) ≤ a1))
          ((0 : Int) ≤ s_1.2 ∧ ∃ (r27 : List PV), (a0)[Int.toNat s_1.2]? = some r27 ∧
            ∃ (x29f : Fl) (x29 : List (List PV)), rowM r27 6 1 = some [(.list 7 x29f x29)] ∧
            CallP Try.prog 36 [(.list 7 x29f x29), (pI a1), (pI (IntKind.wrap .i64 (a2 + (1))))] u_1 fun v u_2 =>
            ∃ (x33 : Int), v = (pI x33) ∧
            next ((IntKind.wrap .i64 (s_1.1 + (IntKind.wrap .i64 ((1) + x33)))), (IntKind.wrap .i64 (s_1.2 + (1)))) u_2)
          (J s_1.1 u_1))
        (J s_1.1 u_1))
      ((0), (0)) u0)
    (fun s u =>
      R (pI (if (IntKind.wrap .i64 (a1 + (1))) < s then (IntKind.wrap .i64 (a1 + (1))) else s)) u))

theorem G_ponderkeep_Size.ok (a0f : Fl) (a0 : List (List PV)) (a1 : Int) (a2 : Int) (u0 : Mem) (R : PV → Mem → Prop) : G_ponderkeep_Size.sh a0f a0 a1 a2 u0 R = VF ⟨Try.prog, 40, [], [(5, ⟨[(7, .one (.raw (.int .i64))), (8, .one (.raw (.int .i64)))], []⟩)], [(8, ⟨[(7, .one (.raw (.int .i64)))], []⟩)], [], [], [], []⟩ ((Try.f36.body).getD .skip) [.tmp 6] [(.list 7 a0f a0), (pI a1), (pI a2)] u0 R := by kernel_rfl

theorem G_ponderkeep_Size.c {a0f : Fl} {a0 : List (List PV)} {a1 : Int} {a2 : Int} {u0 : Mem} {K : PV → Mem → Prop} (h : G_ponderkeep_Size.sh a0f a0 a1 a2 u0 K) : CallP Try.prog 36 [(.list 7 a0f a0), (pI a1), (pI a2)] u0 K :=
  VF_sound (E := ⟨Try.prog, 40, [], [(5, ⟨[(7, .one (.raw (.int .i64))), (8, .one (.raw (.int .i64)))], []⟩)], [(8, ⟨[(7, .one (.raw (.int .i64)))], []⟩)], [], [], [], []⟩) (rs := [.tmp 6]) Try.func36 rfl rfl rfl (by kernel_rfl) (by kernel_rfl) (G_ponderkeep_Size.ok a0f a0 a1 a2 u0 K ▸ h)


/-- ponder/ponderkeep.HeavyConds -/
def G_ponderkeep_HeavyConds.sh (a0f : Fl) (a0 : List (List PV)) (u0 : Mem) (R : PV → Mem → Prop) : Prop :=
  LoopI (α := Int) (fun next s u =>
    CIf (decide ((s : Int) < ((List.length a0 : Nat) : Int)))
    ((0 : Int) ≤ s ∧ ∃ (r13 : List PV), (a0)[Int.toNat s]? = some r13 ∧
      ∃ (x14a : Int), ∃ (x14b : Bool), ∃ (x14c : ByteArray), ∃ (x14df : Fl) (x14d : List (List PV)), ∃ (x14ef : Fl) (x14e : List (List PV)), ∃ (x14f : Bool), ∃ (x14gf : Fl) (x14g : List (List PV)), rowM r13 0 7 = some [(pI x14a), (pB x14b), (pS x14c), (.list 6 x14df x14d), (.list 6 x14ef x14e), (pB x14f), (.list 7 x14gf x14g)] ∧
      CIf (decide ((((ByteArray.size x14c : Nat) : Int) : Int) > (100)))
      (R (pB true) u)
      (CIf (decide ((((List.length x14d : Nat) : Int) : Int) > (10)))
        (R (pB true) u)
        (CIf (decide ((((List.length x14e : Nat) : Int) : Int) > (10)))
          (R (pB true) u)
          (CallP Try.prog 63 [(.list 6 x14df x14d)] u fun v u_1 =>
            ∃ (x34 : Bool), v = (pB x34) ∧
            CIf x34
            (R (pB true) u_1)
            (CallP Try.prog 63 [(.list 6 x14ef x14e)] u_1 fun v_1 u_2 =>
              ∃ (x39 : Bool), v_1 = (pB x39) ∧
              CIf x39
              (R (pB true) u_2)
              (CallP Try.prog 37 [(.list 7 x14gf x14g)] u_2 fun v_2 u_3 =>
                ∃ (x44 : Bool), v_2 = (pB x44) ∧
                CIf x44
                (R (pB true) u_3)
                (next (IntKind.wrap .i64 (s + (1))) u_3)))))))
    (R (pB false) u))
  (0) u0

theorem G_ponderkeep_HeavyConds.ok (a0f : Fl) (a0 : List (List PV)) (u0 : Mem) (R : PV → Mem → Prop) : G_ponderkeep_HeavyConds.sh a0f a0 u0 R = VF ⟨Try.prog, 46, [4], [(2, ⟨[(3, .one (.raw (.int .i64)))], []⟩)], [], [], [], [], []⟩ ((Try.f37.body).getD .skip) [.tmp 2] [(.list 7 a0f a0)] u0 R := by kernel_rfl

theorem G_ponderkeep_HeavyConds.c {a0f : Fl} {a0 : List (List PV)} {u0 : Mem} {K : PV → Mem → Prop} (h : G_ponderkeep_HeavyConds.sh a0f a0 u0 K) : CallP Try.prog 37 [(.list 7 a0f a0)] u0 K :=
  VF_sound (E := ⟨Try.prog, 46, [4], [(2, ⟨[(3, .one (.raw (.int .i64)))], []⟩)], [], [], [], [], []⟩) (rs := [.tmp 2]) Try.func37 rfl rfl rfl (by kernel_rfl) (by kernel_rfl) (G_ponderkeep_HeavyConds.ok a0f a0 u0 K ▸ h)


/-- ponder/sym.Word -/
def G_sym_Word.sh (a0 : ByteArray) (u0 : Mem) (R : PV → Mem → Prop) : Prop :=
  CIf (decide ((((ByteArray.size a0 : Nat) : Int) : Int) < (1)))
  (R (pB false) u0)
  (CIf (decide ((((ByteArray.size a0 : Nat) : Int) : Int) > (32)))
    (R (pB false) u0)
    ((0 : Int) ≤ (0) ∧ ∃ c14 : UInt8, a0[Int.toNat (0)]? = some c14 ∧
      CallP Try.prog 64 [(.raw (.int .u8 ((UInt8.toNat c14 : Nat) : Int)))] u0 fun v u =>
      ∃ (x15 : Bool), v = (pB x15) ∧
      CIf (!x15)
      (R (pB false) u)
      (LoopI (α := Int) (fun next s u_1 =>
          CIf (decide ((s : Int) < ((ByteArray.size a0 : Nat) : Int)))
          ((0 : Int) ≤ s ∧ ∃ c26 : UInt8, a0[Int.toNat s]? = some c26 ∧
            CallP Try.prog 64 [(.raw (.int .u8 ((UInt8.toNat c26 : Nat) : Int)))] u_1 fun v_1 u_2 =>
            ∃ (x27 : Bool), v_1 = (pB x27) ∧
            CIf (!x27)
            ((0 : Int) ≤ s ∧ ∃ c32 : UInt8, a0[Int.toNat s]? = some c32 ∧
              CallP Try.prog 65 [(.raw (.int .u8 ((UInt8.toNat c32 : Nat) : Int)))] u_2 fun v_2 u_3 =>
              ∃ (x33 : Bool), v_2 = (pB x33) ∧
              CIf (!x33)
              ((0 : Int) ≤ s ∧ ∃ c39 : UInt8, a0[Int.toNat s]? = some c39 ∧
                CIf ((((UInt8.toNat c39 : Nat) : Int) : Int) != (45))
                ((0 : Int) ≤ s ∧ ∃ c45 : UInt8, a0[Int.toNat s]? = some c45 ∧
                  CIf ((((UInt8.toNat c45 : Nat) : Int) : Int) != (95))
                  (R (pB false) u_3)
                  (next (IntKind.wrap .i64 (s + (1))) u_3))
                (next (IntKind.wrap .i64 (s + (1))) u_3))
              (next (IntKind.wrap .i64 (s + (1))) u_3))
            (next (IntKind.wrap .i64 (s + (1))) u_2))
          (R (pB true) u_1))
        (1) u)))

theorem G_sym_Word.ok (a0 : ByteArray) (u0 : Mem) (R : PV → Mem → Prop) : G_sym_Word.sh a0 u0 R = VF ⟨Try.prog, 48, [], [(4, ⟨[(3, .one (.raw (.int .i64)))], []⟩)], [], [], [], [], []⟩ ((Try.f38.body).getD .skip) [.tmp 2] [(pS a0)] u0 R := by kernel_rfl

theorem G_sym_Word.c {a0 : ByteArray} {u0 : Mem} {K : PV → Mem → Prop} (h : G_sym_Word.sh a0 u0 K) : CallP Try.prog 38 [(pS a0)] u0 K :=
  VF_sound (E := ⟨Try.prog, 48, [], [(4, ⟨[(3, .one (.raw (.int .i64)))], []⟩)], [], [], [], [], []⟩) (rs := [.tmp 2]) Try.func38 rfl rfl rfl (by kernel_rfl) (by kernel_rfl) (G_sym_Word.ok a0 u0 K ▸ h)


/-- ponder/shape.walk -/
def G_shape_walk.sh (a0f : Fl) (a0 : List (List PV)) (a1 : Int) (a2 : Int) (a3 : Fn) (a3a a3b : List PV) (u0 : Mem) (R : PV → Mem → Prop) : Prop :=
  LoopI (α := Int × Int) (fun next s u =>
    CIf (decide ((s.2 : Int) < ((List.length a0 : Nat) : Int)))
    ((0 : Int) ≤ s.2 ∧ ∃ (r17 : List PV), (a0)[Int.toNat s.2]? = some r17 ∧
      ∃ (x18a : Int), ∃ (x18b : Bool), ∃ (x18c : ByteArray), ∃ (x18df : Fl) (x18d : List (List PV)), ∃ (x18ef : Fl) (x18e : List (List PV)), ∃ (x18f : Bool), ∃ (x18gf : Fl) (x18g : List (List PV)), rowM r17 0 7 = some [(pI x18a), (pB x18b), (pS x18c), (.list 6 x18df x18d), (.list 6 x18ef x18e), (pB x18f), (.list 7 x18gf x18g)] ∧
      CallVP Try.prog (.fn a3 a3a a3b) [(pI s.1), (pI a2), (.agg [(pI x18a), (pB x18b), (pS x18c), (.list 6 .sh x18d), (.list 6 .sh x18e), (pB x18f), (.list 7 .sh x18g)])] u fun v u_1 =>
      ∃ (x23 : Bool), v = (pB x23) ∧
      CIf (!x23)
      (R (.tup [(pI s.1), (pB false)]) u_1)
      (CallP Try.prog 39 [(.list 7 x18gf x18g), (pI (IntKind.wrap .i64 (s.1 + (1)))), (pI (IntKind.wrap .i64 (a2 + (1)))), (.fn a3 a3a a3b)] u_1 fun v_1 u_2 =>
        ∃ (x34p : Int), ∃ (x34q : Bool), v_1 = (.tup [(pI x34p), (pB x34q)]) ∧
        CIf (!x34q)
        (R (.tup [(pI x34p), (pB false)]) u_2)
        (next (x34p, (IntKind.wrap .i64 (s.2 + (1)))) u_2)))
    (R (.tup [(pI s.1), (pB true)]) u))
  (a1, (0)) u0

theorem G_shape_walk.ok (a0f : Fl) (a0 : List (List PV)) (a1 : Int) (a2 : Int) (a3 : Fn) (a3a a3b : List PV) (u0 : Mem) (R : PV → Mem → Prop) : G_shape_walk.sh a0f a0 a1 a2 a3 a3a a3b u0 R = VF ⟨Try.prog, 42, [11], [(2, ⟨[(1, .one (.raw (.int .i64))), (15, .one (.raw (.int .i64)))], []⟩)], [], [], [], [], []⟩ ((Try.f39.body).getD .skip) [.tmp 8, .tmp 9] [(.list 7 a0f a0), (pI a1), (pI a2), (.fn a3 a3a a3b)] u0 R := by kernel_rfl

theorem G_shape_walk.c {a0f : Fl} {a0 : List (List PV)} {a1 : Int} {a2 : Int} {a3 : Fn} {a3a a3b : List PV} {u0 : Mem} {K : PV → Mem → Prop} (h : G_shape_walk.sh a0f a0 a1 a2 a3 a3a a3b u0 K) : CallP Try.prog 39 [(.list 7 a0f a0), (pI a1), (pI a2), (.fn a3 a3a a3b)] u0 K :=
  VF_sound (E := ⟨Try.prog, 42, [11], [(2, ⟨[(1, .one (.raw (.int .i64))), (15, .one (.raw (.int .i64)))], []⟩)], [], [], [], [], []⟩) (rs := [.tmp 8, .tmp 9]) Try.func39 rfl rfl rfl (by kernel_rfl) (by kernel_rfl) (G_shape_walk.ok a0f a0 a1 a2 a3 a3a a3b u0 K ▸ h)


/-- ponder/shape.Shape$1 -/
def G_shape_Shape_1.sh (a0 : Int) (a1 : Int) (a2a : Int) (a2b : Bool) (a2c : ByteArray) (a2df : Fl) (a2d : List (List PV)) (a2ef : Fl) (a2e : List (List PV)) (a2f : Bool) (a2gf : Fl) (a2g : List (List PV)) (c0 : Nat) (u0 : Mem) (R : PV → Mem → Prop) : Prop :=
  stM c0 0 [(pI (IntKind.wrap .i64 (a0 + (1))))] u0 fun u =>
  ∃ (x10 : Int), rdM u c0 0 1 = some [(pI x10)] ∧
  R (pB (decide ((x10 : Int) ≤ (16)))) u

theorem G_shape_Shape_1.ok (a0 : Int) (a1 : Int) (a2a : Int) (a2b : Bool) (a2c : ByteArray) (a2df : Fl) (a2d : List (List PV)) (a2ef : Fl) (a2e : List (List PV)) (a2f : Bool) (a2gf : Fl) (a2g : List (List PV)) (c0 : Nat) (u0 : Mem) (R : PV → Mem → Prop) : G_shape_Shape_1.sh a0 a1 a2a a2b a2c a2df a2d a2ef a2e a2f a2gf a2g c0 u0 R = VF ⟨Try.prog, 12, [6], [], [], [], [], [], []⟩ ((Try.f40.body).getD .skip) [.tmp 7] [(pI a0), (pI a1), (.agg [(pI a2a), (pB a2b), (pS a2c), (.list 6 a2df a2d), (.list 6 a2ef a2e), (pB a2f), (.list 7 a2gf a2g)]), (pP c0 0)] u0 R := by kernel_rfl

theorem G_shape_Shape_1.c {a0 : Int} {a1 : Int} {a2a : Int} {a2b : Bool} {a2c : ByteArray} {a2df : Fl} {a2d : List (List PV)} {a2ef : Fl} {a2e : List (List PV)} {a2f : Bool} {a2gf : Fl} {a2g : List (List PV)} {c0 : Nat} {u0 : Mem} {K : PV → Mem → Prop} (h : G_shape_Shape_1.sh a0 a1 a2a a2b a2c a2df a2d a2ef a2e a2f a2gf a2g c0 u0 K) : CallP Try.prog 40 [(pI a0), (pI a1), (.agg [(pI a2a), (pB a2b), (pS a2c), (.list 6 a2df a2d), (.list 6 a2ef a2e), (pB a2f), (.list 7 a2gf a2g)]), (pP c0 0)] u0 K :=
  VF_sound (E := ⟨Try.prog, 12, [6], [], [], [], [], [], []⟩) (rs := [.tmp 7]) Try.func40 rfl rfl rfl (by kernel_rfl) (by kernel_rfl) (G_shape_Shape_1.ok a0 a1 a2a a2b a2c a2df a2d a2ef a2e a2f a2gf a2g c0 u0 K ▸ h)


/-- ponder/shape.Shape$2 -/
def G_shape_Shape_2.sh (a0 : Int) (a1 : Int) (a2a : Int) (a2b : Bool) (a2c : ByteArray) (a2df : Fl) (a2d : List (List PV)) (a2ef : Fl) (a2e : List (List PV)) (a2f : Bool) (a2gf : Fl) (a2g : List (List PV)) (c0 : Nat) (c1 : Nat) (u0 : Mem) (R : PV → Mem → Prop) : Prop :=
  CallP Try.prog 42 [(.agg [(pI a2a), (pB a2b), (pS a2c), (.list 6 .sh a2d), (.list 6 .sh a2e), (pB a2f), (.list 7 .sh a2g)]), (pI a1)] u0 fun v u =>
  ∃ (x11 : Int), v = (pI x11) ∧
  stM c0 0 [(pI x11)] u fun u_1 =>
  ∃ (x12 : Int), rdM u_1 c0 0 1 = some [(pI x12)] ∧
  CIf ((x12 : Int) != (0))
  (stM c1 0 [(pI a0)] u_1 fun u_2 =>
    ∃ (x15 : Int), rdM u_2 c0 0 1 = some [(pI x15)] ∧
    R (pB ((x15 : Int) == (0))) u_2)
  (∃ (x15_1 : Int), rdM u_1 c0 0 1 = some [(pI x15_1)] ∧
    R (pB ((x15_1 : Int) == (0))) u_1)

theorem G_shape_Shape_2.ok (a0 : Int) (a1 : Int) (a2a : Int) (a2b : Bool) (a2c : ByteArray) (a2df : Fl) (a2d : List (List PV)) (a2ef : Fl) (a2e : List (List PV)) (a2f : Bool) (a2gf : Fl) (a2g : List (List PV)) (c0 : Nat) (c1 : Nat) (u0 : Mem) (R : PV → Mem → Prop) : G_shape_Shape_2.sh a0 a1 a2a a2b a2c a2df a2d a2ef a2e a2f a2gf a2g c0 c1 u0 R = VF ⟨Try.prog, 17, [7], [], [], [], [], [], []⟩ ((Try.f41.body).getD .skip) [.tmp 8] [(pI a0), (pI a1), (.agg [(pI a2a), (pB a2b), (pS a2c), (.list 6 a2df a2d), (.list 6 a2ef a2e), (pB a2f), (.list 7 a2gf a2g)]), (pP c0 0), (pP c1 0)] u0 R := by kernel_rfl

theorem G_shape_Shape_2.c {a0 : Int} {a1 : Int} {a2a : Int} {a2b : Bool} {a2c : ByteArray} {a2df : Fl} {a2d : List (List PV)} {a2ef : Fl} {a2e : List (List PV)} {a2f : Bool} {a2gf : Fl} {a2g : List (List PV)} {c0 : Nat} {c1 : Nat} {u0 : Mem} {K : PV → Mem → Prop} (h : G_shape_Shape_2.sh a0 a1 a2a a2b a2c a2df a2d a2ef a2e a2f a2gf a2g c0 c1 u0 K) : CallP Try.prog 41 [(pI a0), (pI a1), (.agg [(pI a2a), (pB a2b), (pS a2c), (.list 6 a2df a2d), (.list 6 a2ef a2e), (pB a2f), (.list 7 a2gf a2g)]), (pP c0 0), (pP c1 0)] u0 K :=
  VF_sound (E := ⟨Try.prog, 17, [7], [], [], [], [], [], []⟩) (rs := [.tmp 8]) Try.func41 rfl rfl rfl (by kernel_rfl) (by kernel_rfl) (G_shape_Shape_2.ok a0 a1 a2a a2b a2c a2df a2d a2ef a2e a2f a2gf a2g c0 c1 u0 K ▸ h)


/-- ponder/shape.cond -/
def G_shape_cond.sh (a0a : Int) (a0b : Bool) (a0c : ByteArray) (a0df : Fl) (a0d : List (List PV)) (a0ef : Fl) (a0e : List (List PV)) (a0f : Bool) (a0gf : Fl) (a0g : List (List PV)) (a1 : Int) (u0 : Mem) (R : PV → Mem → Prop) : Prop :=
  CJoin (α := Unit) (fun J =>
    CIf ((a0a : Int) == (3))
    (CIf a0b
      (R (pI (9)) u0)
      (CIf (!strEq a0c ⟨#[]⟩)
        (R (pI (9)) u0)
        (CIf (decide ((((List.length a0d : Nat) : Int) : Int) > (0)))
          (R (pI (9)) u0)
          (CIf (decide ((((List.length a0e : Nat) : Int) : Int) > (0)))
            (R (pI (9)) u0)
            (CIf a0f
              (R (pI (9)) u0)
              (CIf ((((List.length a0g : Nat) : Int) : Int) == (0))
                (R (pI (9)) u0)
                (CIf (decide ((a1 : Int) ≥ (3)))
                  (R (pI (8)) u0)
                  (R (pI (0)) u0))))))))
    (CIf ((a0a : Int) == (1))
      (CIf ((a0a : Int) == (1))
        (J () u0)
        (R (pI (9)) u0))
      (CIf ((a0a : Int) == (2))
        (J () u0)
        (R (pI (9)) u0))))
  (fun s u =>
    CIf (decide ((((List.length a0g : Nat) : Int) : Int) > (0)))
    (R (pI (9)) u)
    (CallP Try.prog 38 [(pS a0c)] u fun v u_1 =>
      ∃ (x51 : Bool), v = (pB x51) ∧
      CIf (!x51)
      (R (pI (9)) u_1)
      (CIf ((((List.length a0d : Nat) : Int) : Int) == (0))
        (R (pI (9)) u_1)
        (CIf (decide ((((List.length a0d : Nat) : Int) : Int) > (4)))
          (R (pI (7)) u_1)
          (CIf (decide ((((List.length a0e : Nat) : Int) : Int) > (4)))
            (R (pI (7)) u_1)
            (CallP Try.prog 66 [(.list 6 a0df a0d)] u_1 fun v_1 u_2 =>
              ∃ (x74 : Bool), v_1 = (pB x74) ∧
              CIf (!x74)
              (R (pI (9)) u_2)
              (CallP Try.prog 66 [(.list 6 a0ef a0e)] u_2 fun v_2 u_3 =>
                ∃ (x79 : Bool), v_2 = (pB x79) ∧
                CIf (!x79)
                (R (pI (9)) u_3)
                (R (pI (0)) u_3))))))))

theorem G_shape_cond.ok (a0a : Int) (a0b : Bool) (a0c : ByteArray) (a0df : Fl) (a0d : List (List PV)) (a0ef : Fl) (a0e : List (List PV)) (a0f : Bool) (a0gf : Fl) (a0g : List (List PV)) (a1 : Int) (u0 : Mem) (R : PV → Mem → Prop) : G_shape_cond.sh a0a a0b a0c a0df a0d a0ef a0e a0f a0gf a0g a1 u0 R = VF ⟨Try.prog, 82, [2], [], [(11, ⟨[], []⟩)], [], [], [], []⟩ ((Try.f42.body).getD .skip) [.tmp 4] [(.agg [(pI a0a), (pB a0b), (pS a0c), (.list 6 a0df a0d), (.list 6 a0ef a0e), (pB a0f), (.list 7 a0gf a0g)]), (pI a1)] u0 R := by kernel_rfl

theorem G_shape_cond.c {a0a : Int} {a0b : Bool} {a0c : ByteArray} {a0df : Fl} {a0d : List (List PV)} {a0ef : Fl} {a0e : List (List PV)} {a0f : Bool} {a0gf : Fl} {a0g : List (List PV)} {a1 : Int} {u0 : Mem} {K : PV → Mem → Prop} (h : G_shape_cond.sh a0a a0b a0c a0df a0d a0ef a0e a0f a0gf a0g a1 u0 K) : CallP Try.prog 42 [(.agg [(pI a0a), (pB a0b), (pS a0c), (.list 6 a0df a0d), (.list 6 a0ef a0e), (pB a0f), (.list 7 a0gf a0g)]), (pI a1)] u0 K :=
  VF_sound (E := ⟨Try.prog, 82, [2], [], [(11, ⟨[], []⟩)], [], [], [], []⟩) (rs := [.tmp 4]) Try.func42 rfl rfl rfl (by kernel_rfl) (by kernel_rfl) (G_shape_cond.ok a0a a0b a0c a0df a0d a0ef a0e a0f a0gf a0g a1 u0 K ▸ h)


/-- ponder/shape.act -/
def G_shape_act.sh (a0a : ByteArray) (a0b : ByteArray) (a0c : Int) (a0d : ByteArray) (a0e : Int) (a0f : Int) (a0g : ByteArray) (a0h : Int) (a0i : ByteArray) (a0j : Int) (a0k : ByteArray) (a0l : Int) (a0m : ByteArray) (a0n : Int) (a0o : Int) (a0p : ByteArray) (a0q : Int) (a0r : ByteArray) (a0s : Int) (u0 : Mem) (R : PV → Mem → Prop) : Prop :=
  CallP Try.prog 38 [(pS a0a)] u0 fun v u =>
  ∃ (x5 : Bool), v = (pB x5) ∧
  CIf (!x5)
  (R (pB false) u)
  (CallP Try.prog 67 [(.agg [(pS a0b), (pI a0c), (pS a0d), (pI a0e)])] u fun v_1 u_1 =>
    ∃ (x10 : Bool), v_1 = (pB x10) ∧
    CIf (!x10)
    (R (pB false) u_1)
    (CallP Try.prog 68 [(.agg [(pI a0f), (pS a0g), (pI a0h), (pS a0i), (pI a0j), (pS a0k), (pI a0l), (pS a0m), (pI a0n)])] u_1 fun v_2 u_2 =>
      ∃ (x16 : Bool), v_2 = (pB x16) ∧
      CIf (!x16)
      (R (pB false) u_2)
      (CIf (decide ((a0o : Int) < (1)))
        (R (pB false) u_2)
        (CIf (decide ((a0o : Int) > (10)))
          (R (pB false) u_2)
          (CallP Try.prog 69 [(pI a0o)] u_2 fun v_3 u_3 =>
            ∃ (x31 : Bool), v_3 = (pB x31) ∧
            CIf x31
            (CallP Try.prog 67 [(.agg [(pS a0p), (pI a0q), (pS a0r), (pI a0s)])] u_3 fun v_4 u_4 =>
              ∃ (x34 : Bool), v_4 = (pB x34) ∧
              R (pB x34) u_4)
            (CallP Try.prog 70 [(.agg [(pS a0p), (pI a0q), (pS a0r), (pI a0s)])] u_3 fun v_5 u_5 =>
              ∃ (x37 : Bool), v_5 = (pB x37) ∧
              R (pB x37) u_5))))))

theorem G_shape_act.ok (a0a : ByteArray) (a0b : ByteArray) (a0c : Int) (a0d : ByteArray) (a0e : Int) (a0f : Int) (a0g : ByteArray) (a0h : Int) (a0i : ByteArray) (a0j : Int) (a0k : ByteArray) (a0l : Int) (a0m : ByteArray) (a0n : Int) (a0o : Int) (a0p : ByteArray) (a0q : Int) (a0r : ByteArray) (a0s : Int) (u0 : Mem) (R : PV → Mem → Prop) : G_shape_act.sh a0a a0b a0c a0d a0e a0f a0g a0h a0i a0j a0k a0l a0m a0n a0o a0p a0q a0r a0s u0 R = VF ⟨Try.prog, 38, [1], [], [], [], [], [], []⟩ ((Try.f43.body).getD .skip) [.tmp 2] [(.agg [(pS a0a), (pS a0b), (pI a0c), (pS a0d), (pI a0e), (pI a0f), (pS a0g), (pI a0h), (pS a0i), (pI a0j), (pS a0k), (pI a0l), (pS a0m), (pI a0n), (pI a0o), (pS a0p), (pI a0q), (pS a0r), (pI a0s)])] u0 R := by kernel_rfl

theorem G_shape_act.c {a0a : ByteArray} {a0b : ByteArray} {a0c : Int} {a0d : ByteArray} {a0e : Int} {a0f : Int} {a0g : ByteArray} {a0h : Int} {a0i : ByteArray} {a0j : Int} {a0k : ByteArray} {a0l : Int} {a0m : ByteArray} {a0n : Int} {a0o : Int} {a0p : ByteArray} {a0q : Int} {a0r : ByteArray} {a0s : Int} {u0 : Mem} {K : PV → Mem → Prop} (h : G_shape_act.sh a0a a0b a0c a0d a0e a0f a0g a0h a0i a0j a0k a0l a0m a0n a0o a0p a0q a0r a0s u0 K) : CallP Try.prog 43 [(.agg [(pS a0a), (pS a0b), (pI a0c), (pS a0d), (pI a0e), (pI a0f), (pS a0g), (pI a0h), (pS a0i), (pI a0j), (pS a0k), (pI a0l), (pS a0m), (pI a0n), (pI a0o), (pS a0p), (pI a0q), (pS a0r), (pI a0s)])] u0 K :=
  VF_sound (E := ⟨Try.prog, 38, [1], [], [], [], [], [], []⟩) (rs := [.tmp 2]) Try.func43 rfl rfl rfl (by kernel_rfl) (by kernel_rfl) (G_shape_act.ok a0a a0b a0c a0d a0e a0f a0g a0h a0i a0j a0k a0l a0m a0n a0o a0p a0q a0r a0s u0 K ▸ h)


/-- ponder/ponderref04.Word -/
def G_ponderref04_Word.sh (a0 : ByteArray) (u0 : Mem) (R : PV → Mem → Prop) : Prop :=
  CIf (decide ((((ByteArray.size a0 : Nat) : Int) : Int) < (1)))
  (R (pB false) u0)
  (CIf (decide ((((ByteArray.size a0 : Nat) : Int) : Int) > (32)))
    (R (pB false) u0)
    ((0 : Int) ≤ (0) ∧ ∃ c14 : UInt8, a0[Int.toNat (0)]? = some c14 ∧
      CIf (decide ((((UInt8.toNat c14 : Nat) : Int) : Int) < (97)))
      (R (pB false) u0)
      ((0 : Int) ≤ (0) ∧ ∃ c19 : UInt8, a0[Int.toNat (0)]? = some c19 ∧
        CIf (decide ((((UInt8.toNat c19 : Nat) : Int) : Int) > (122)))
        (R (pB false) u0)
        (LoopI (α := Int) (fun next s u =>
            CIf (decide ((s : Int) < ((ByteArray.size a0 : Nat) : Int)))
            ((0 : Int) ≤ s ∧ ∃ c30 : UInt8, a0[Int.toNat s]? = some c30 ∧
              CallP Try.prog 71 [(.raw (.int .u8 ((UInt8.toNat c30 : Nat) : Int)))] u fun v u_1 =>
              ∃ (x31 : Bool), v = (pB x31) ∧
              CIf (!x31)
              (R (pB false) u_1)
              (next (IntKind.wrap .i64 (s + (1))) u_1))
            (R (pB true) u))
          (0) u0))))

theorem G_ponderref04_Word.ok (a0 : ByteArray) (u0 : Mem) (R : PV → Mem → Prop) : G_ponderref04_Word.sh a0 u0 R = VF ⟨Try.prog, 33, [], [(4, ⟨[(3, .one (.raw (.int .i64)))], []⟩)], [], [], [], [], []⟩ ((Try.f44.body).getD .skip) [.tmp 2] [(pS a0)] u0 R := by kernel_rfl

theorem G_ponderref04_Word.c {a0 : ByteArray} {u0 : Mem} {K : PV → Mem → Prop} (h : G_ponderref04_Word.sh a0 u0 K) : CallP Try.prog 44 [(pS a0)] u0 K :=
  VF_sound (E := ⟨Try.prog, 33, [], [(4, ⟨[(3, .one (.raw (.int .i64)))], []⟩)], [], [], [], [], []⟩) (rs := [.tmp 2]) Try.func44 rfl rfl rfl (by kernel_rfl) (by kernel_rfl) (G_ponderref04_Word.ok a0 u0 K ▸ h)


/-- ponder/ponderref06.Size -/
def G_ponderref06_Size.sh (a0f : Fl) (a0 : List (List PV)) (u0 : Mem) (R : PV → Mem → Prop) : Prop :=
  LoopI (α := Int × Int) (fun next s u =>
    CIf (decide ((s.2 : Int) < ((List.length a0 : Nat) : Int)))
    ((0 : Int) ≤ s.2 ∧ ∃ (r14 : List PV), (a0)[Int.toNat s.2]? = some r14 ∧
      ∃ (x16f : Fl) (x16 : List (List PV)), rowM r14 6 1 = some [(.list 7 x16f x16)] ∧
      CallP Try.prog 45 [(.list 7 x16f x16)] u fun v u_1 =>
      ∃ (x17 : Int), v = (pI x17) ∧
      next ((IntKind.wrap .i64 (s.1 + (IntKind.wrap .i64 ((1) + x17)))), (IntKind.wrap .i64 (s.2 + (1)))) u_1)
    (R (pI s.1) u))
  ((0), (0)) u0

theorem G_ponderref06_Size.ok (a0f : Fl) (a0 : List (List PV)) (u0 : Mem) (R : PV → Mem → Prop) : G_ponderref06_Size.sh a0f a0 u0 R = VF ⟨Try.prog, 21, [], [(3, ⟨[(3, .one (.raw (.int .i64))), (4, .one (.raw (.int .i64)))], []⟩)], [], [], [], [], []⟩ ((Try.f45.body).getD .skip) [.tmp 2] [(.list 7 a0f a0)] u0 R := by kernel_rfl

theorem G_ponderref06_Size.c {a0f : Fl} {a0 : List (List PV)} {u0 : Mem} {K : PV → Mem → Prop} (h : G_ponderref06_Size.sh a0f a0 u0 K) : CallP Try.prog 45 [(.list 7 a0f a0)] u0 K :=
  VF_sound (E := ⟨Try.prog, 21, [], [(3, ⟨[(3, .one (.raw (.int .i64))), (4, .one (.raw (.int .i64)))], []⟩)], [], [], [], [], []⟩) (rs := [.tmp 2]) Try.func45 rfl rfl rfl (by kernel_rfl) (by kernel_rfl) (G_ponderref06_Size.ok a0f a0 u0 K ▸ h)


/-- ponder/ponderref06.conds -/
def G_ponderref06_conds.sh (a0f : Fl) (a0 : List (List PV)) (a1 : Int) (a2 : Int) (u0 : Mem) (R : PV → Mem → Prop) : Prop :=
  LoopI (α := Int × Int) (fun next s u =>
    CIf (decide ((s.2 : Int) < ((List.length a0 : Nat) : Int)))
    ((0 : Int) ≤ s.2 ∧ ∃ (r19 : List PV), (a0)[Int.toNat s.2]? = some r19 ∧
      ∃ (x20a : Int), ∃ (x20b : Bool), ∃ (x20c : ByteArray), ∃ (x20df : Fl) (x20d : List (List PV)), ∃ (x20ef : Fl) (x20e : List (List PV)), ∃ (x20f : Bool), ∃ (x20gf : Fl) (x20g : List (List PV)), rowM r19 0 7 = some [(pI x20a), (pB x20b), (pS x20c), (.list 6 x20df x20d), (.list 6 x20ef x20e), (pB x20f), (.list 7 x20gf x20g)] ∧
      CallP Try.prog 72 [(.agg [(pI x20a), (pB x20b), (pS x20c), (.list 6 .sh x20d), (.list 6 .sh x20e), (pB x20f), (.list 7 .sh x20g)]), (pI a2)] u fun v u_1 =>
      ∃ (x22 : Int), v = (pI x22) ∧
      CIf ((x22 : Int) != (0))
      (R (.tup [(pI s.1), (pI x22)]) u_1)
      ((0 : Int) ≤ s.2 ∧ ∃ (r30 : List PV), (a0)[Int.toNat s.2]? = some r30 ∧
        ∃ (x32f : Fl) (x32 : List (List PV)), rowM r30 6 1 = some [(.list 7 x32f x32)] ∧
        CallP Try.prog 46 [(.list 7 x32f x32), (pI (IntKind.wrap .i64 (s.1 + (1)))), (pI (IntKind.wrap .i64 (a2 + (1))))] u_1 fun v_1 u_2 =>
        ∃ (x37p : Int), ∃ (x37q : Int), v_1 = (.tup [(pI x37p), (pI x37q)]) ∧
        CIf ((x37q : Int) != (0))
        (R (.tup [(pI x37p), (pI x37q)]) u_2)
        ((0 : Int) ≤ s.2 ∧ ∃ (r47 : List PV), (a0)[Int.toNat s.2]? = some r47 ∧
          ∃ (x49f : Fl) (x49 : List (List PV)), rowM r47 6 1 = some [(.list 7 x49f x49)] ∧
          CallP Try.prog 45 [(.list 7 x49f x49)] u_2 fun v_2 u_3 =>
          ∃ (x50 : Int), v_2 = (pI x50) ∧
          next ((IntKind.wrap .i64 (s.1 + (IntKind.wrap .i64 ((1) + x50)))), (IntKind.wrap .i64 (s.2 + (1)))) u_3)))
    (R (.tup [(pI (-1)), (pI (0))]) u))
  (a1, (0)) u0

theorem G_ponderref06_conds.ok (a0f : Fl) (a0 : List (List PV)) (a1 : Int) (a2 : Int) (u0 : Mem) (R : PV → Mem → Prop) : G_ponderref06_conds.sh a0f a0 a1 a2 u0 R = VF ⟨Try.prog, 53, [], [(2, ⟨[(1, .one (.raw (.int .i64))), (8, .one (.raw (.int .i64)))], []⟩)], [], [], [], [], []⟩ ((Try.f46.body).getD .skip) [.tmp 6, .tmp 7] [(.list 7 a0f a0), (pI a1), (pI a2)] u0 R := by kernel_rfl

theorem G_ponderref06_conds.c {a0f : Fl} {a0 : List (List PV)} {a1 : Int} {a2 : Int} {u0 : Mem} {K : PV → Mem → Prop} (h : G_ponderref06_conds.sh a0f a0 a1 a2 u0 K) : CallP Try.prog 46 [(.list 7 a0f a0), (pI a1), (pI a2)] u0 K :=
  VF_sound (E := ⟨Try.prog, 53, [], [(2, ⟨[(1, .one (.raw (.int .i64))), (8, .one (.raw (.int .i64)))], []⟩)], [], [], [], [], []⟩) (rs := [.tmp 6, .tmp 7]) Try.func46 rfl rfl rfl (by kernel_rfl) (by kernel_rfl) (G_ponderref06_conds.ok a0f a0 a1 a2 u0 K ▸ h)


/-- ponder/ponderref06.act -/
def G_ponderref06_act.sh (a0a : ByteArray) (a0b : ByteArray) (a0c : Int) (a0d : ByteArray) (a0e : Int) (a0f : Int) (a0g : ByteArray) (a0h : Int) (a0i : ByteArray) (a0j : Int) (a0k : ByteArray) (a0l : Int) (a0m : ByteArray) (a0n : Int) (a0o : Int) (a0p : ByteArray) (a0q : Int) (a0r : ByteArray) (a0s : Int) (u0 : Mem) (R : PV → Mem → Prop) : Prop :=
  CallP Try.prog 44 [(pS a0a)] u0 fun v u =>
  ∃ (x5 : Bool), v = (pB x5) ∧
  CIf (!x5)
  (R (pB false) u)
  (CallP Try.prog 73 [(.agg [(pS a0b), (pI a0c), (pS a0d), (pI a0e)])] u fun v_1 u_1 =>
    ∃ (x10 : Bool), v_1 = (pB x10) ∧
    CIf (!x10)
    (R (pB false) u_1)
    (CallP Try.prog 73 [(.agg [(pS a0g), (pI a0h), (pS a0i), (pI a0j)])] u_1 fun v_2 u_2 =>
      ∃ (x17 : Bool), v_2 = (pB x17) ∧
      CIf (!x17)
      (R (pB false) u_2)
      (CIf (decide ((a0f : Int) < (0)))
        (R (pB false) u_2)
        (CIf (decide ((a0f : Int) > (3)))
          (R (pB false) u_2)
          (CIf (decide ((a0o : Int) < (1)))
            (R (pB false) u_2)
            (CIf (decide ((a0o : Int) > (10)))
              (R (pB false) u_2)
              (CJoin (α := Unit) (fun J =>
                  CIf ((a0f : Int) == (0))
                  (CIf (!(strEq a0k ⟨#[]⟩ && ((a0l == (0)) && (strEq a0m ⟨#[]⟩ && ((a0n == (0)) && true)))))
                    (R (pB false) u_2)
                    (J () u_2))
                  (CallP Try.prog 73 [(.agg [(pS a0k), (pI a0l), (pS a0m), (pI a0n)])] u_2 fun v_3 u_4 =>
                    ∃ (x54 : Bool), v_3 = (pB x54) ∧
                    CIf (!x54)
                    (R (pB false) u_4)
                    (CIf ((a0h : Int) == (3))
                      (R (pB false) u_4)
                      (CIf ((a0l : Int) == (3))
                        (R (pB false) u_4)
                        (J () u_4)))))
                (fun s u_3 =>
                  CIf (decide ((a0o : Int) ≥ (8)))
                  (CallP Try.prog 73 [(.agg [(pS a0p), (pI a0q), (pS a0r), (pI a0s)])] u_3 fun v_4 u_5 =>
                    ∃ (x77 : Bool), v_4 = (pB x77) ∧
                    R (pB x77) u_5)
                  (R (pB (strEq a0p ⟨#[]⟩ && ((a0q == (0)) && (strEq a0r ⟨#[]⟩ && ((a0s == (0)) && true))))) u_3)))))))))

theorem G_ponderref06_act.ok (a0a : ByteArray) (a0b : ByteArray) (a0c : Int) (a0d : ByteArray) (a0e : Int) (a0f : Int) (a0g : ByteArray) (a0h : Int) (a0i : ByteArray) (a0j : Int) (a0k : ByteArray) (a0l : Int) (a0m : ByteArray) (a0n : Int) (a0o : Int) (a0p : ByteArray) (a0q : Int) (a0r : ByteArray) (a0s : Int) (u0 : Mem) (R : PV → Mem → Prop) : G_ponderref06_act.sh a0a a0b a0c a0d a0e a0f a0g a0h a0i a0j a0k a0l a0m a0n a0o a0p a0q a0r a0s u0 R = VF ⟨Try.prog, 82, [1], [], [(8, ⟨[], []⟩)], [], [], [], []⟩ ((Try.f47.body).getD .skip) [.tmp 2] [(.agg [(pS a0a), (pS a0b), (pI a0c), (pS a0d), (pI a0e), (pI a0f), (pS a0g), (pI a0h), (pS a0i), (pI a0j), (pS a0k), (pI a0l), (pS a0m), (pI a0n), (pI a0o), (pS a0p), (pI a0q), (pS a0r), (pI a0s)])] u0 R := by kernel_rfl

theorem G_ponderref06_act.c {a0a : ByteArray} {a0b : ByteArray} {a0c : Int} {a0d : ByteArray} {a0e : Int} {a0f : Int} {a0g : ByteArray} {a0h : Int} {a0i : ByteArray} {a0j : Int} {a0k : ByteArray} {a0l : Int} {a0m : ByteArray} {a0n : Int} {a0o : Int} {a0p : ByteArray} {a0q : Int} {a0r : ByteArray} {a0s : Int} {u0 : Mem} {K : PV → Mem → Prop} (h : G_ponderref06_act.sh a0a a0b a0c a0d a0e a0f a0g a0h a0i a0j a0k a0l a0m a0n a0o a0p a0q a0r a0s u0 K) : CallP Try.prog 47 [(.agg [(pS a0a), (pS a0b), (pI a0c), (pS a0d), (pI a0e), (pI a0f), (pS a0g), (pI a0h), (pS a0i), (pI a0j), (pS a0k), (pI a0l), (pS a0m), (pI a0n), (pI a0o), (pS a0p), (pI a0q), (pS a0r), (pI a0s)])] u0 K :=
  VF_sound (E := ⟨Try.prog, 82, [1], [], [(8, ⟨[], []⟩)], [], [], [], []⟩) (rs := [.tmp 2]) Try.func47 rfl rfl rfl (by kernel_rfl) (by kernel_rfl) (G_ponderref06_act.ok a0a a0b a0c a0d a0e a0f a0g a0h a0i a0j a0k a0l a0m a0n a0o a0p a0q a0r a0s u0 K ▸ h)


/-- ponder/ponderkeep.CopyConds -/
def G_ponderkeep_CopyConds.sh (a0f : Fl) (a0 : List (List PV)) (u0 : Mem) (R : PV → Mem → Prop) : Prop :=
  LoopI (α := (Fl × List (List PV)) × Int) (fun next s u =>
    CIf (decide ((s.2 : Int) < ((List.length a0 : Nat) : Int)))
    ((0 : Int) ≤ s.2 ∧ ∃ (r14 : List PV), (a0)[Int.toNat s.2]? = some r14 ∧
      ∃ (x15a : Int), ∃ (x15b : Bool), ∃ (x15c : ByteArray), ∃ (x15df : Fl) (x15d : List (List PV)), ∃ (x15ef : Fl) (x15e : List (List PV)), ∃ (x15f : Bool), ∃ (x15gf : Fl) (x15g : List (List PV)), rowM r14 0 7 = some [(pI x15a), (pB x15b), (pS x15c), (.list 6 x15df x15d), (.list 6 x15ef x15e), (pB x15f), (.list 7 x15gf x15g)] ∧
      CallP Try.prog 74 [(.agg [(pI x15a), (pB x15b), (pS x15c), (.list 6 .sh x15d), (.list 6 .sh x15e), (pB x15f), (.list 7 .sh x15g)])] u fun v u_1 =>
      ∃ (x16a : Int), ∃ (x16b : Bool), ∃ (x16c : ByteArray), ∃ (x16df : Fl) (x16d : List (List PV)), ∃ (x16ef : Fl) (x16e : List (List PV)), ∃ (x16f : Bool), ∃ (x16gf : Fl) (x16g : List (List PV)), v = (.agg [(pI x16a), (pB x16b), (pS x16c), (.list 6 x16df x16d), (.list 6 x16ef x16e), (pB x16f), (.list 7 x16gf x16g)]) ∧
      appL false 7 112 s.1.1 s.1.2 [[(pI x16a), (pB x16b), (pS x16c), (.list 6 .sh x16d), (.list 6 .sh x16e), (pB x16f), (.list 7 .sh x16g)]] u_1 fun f18 u_2 =>
      next ((f18, (s.1.2 ++ [[(pI x16a), (pB x16b), (pS x16c), (.list 6 .sh x16d), (.list 6 .sh x16e), (pB x16f), (.list 7 .sh x16g)]])), (IntKind.wrap .i64 (s.2 + (1)))) u_2)
    (R (.list 7 s.1.1 s.1.2) u))
  ((.nil, []), (0)) u0

theorem G_ponderkeep_CopyConds.ok (a0f : Fl) (a0 : List (List PV)) (u0 : Mem) (R : PV → Mem → Prop) : G_ponderkeep_CopyConds.sh a0f a0 u0 R = VF ⟨Try.prog, 20, [], [(3, ⟨[(3, .one (.list 7)), (4, .one (.raw (.int .i64)))], []⟩)], [], [], [], [], []⟩ ((Try.f48.body).getD .skip) [.tmp 2] [(.list 7 a0f a0)] u0 R := by kernel_rfl

theorem G_ponderkeep_CopyConds.c {a0f : Fl} {a0 : List (List PV)} {u0 : Mem} {K : PV → Mem → Prop} (h : G_ponderkeep_CopyConds.sh a0f a0 u0 K) : CallP Try.prog 48 [(.list 7 a0f a0)] u0 K :=
  VF_sound (E := ⟨Try.prog, 20, [], [(3, ⟨[(3, .one (.list 7)), (4, .one (.raw (.int .i64)))], []⟩)], [], [], [], [], []⟩) (rs := [.tmp 2]) Try.func48 rfl rfl rfl (by kernel_rfl) (by kernel_rfl) (G_ponderkeep_CopyConds.ok a0f a0 u0 K ▸ h)


/-- ponder/ponderkeep.CopyConds -/
def G_ponderkeep_CopyConds_w.sh (a0f : Fl) (a0 : List (List PV)) (u0 : Mem) (R : PV → Mem → Prop) : Prop :=
  LoopI (α := (Option Addr × Nat × Nat) × Int) (fun next s u =>
    CIf (decide ((s.2 : Int) < ((List.length a0 : Nat) : Int)))
    ((0 : Int) ≤ s.2 ∧ ∃ (r14 : List PV), (a0)[Int.toNat s.2]? = some r14 ∧
      ∃ (x15a : Int), ∃ (x15b : Bool), ∃ (x15c : ByteArray), ∃ (x15df : Fl) (x15d : List (List PV)), ∃ (x15ef : Fl) (x15e : List (List PV)), ∃ (x15f : Bool), ∃ (x15gf : Fl) (x15g : List (List PV)), rowM r14 0 7 = some [(pI x15a), (pB x15b), (pS x15c), (.list 6 x15df x15d), (.list 6 x15ef x15e), (pB x15f), (.list 7 x15gf x15g)] ∧
      CallP Try.prog 74 [(.agg [(pI x15a), (pB x15b), (pS x15c), (.list 6 .sh x15d), (.list 6 .sh x15e), (pB x15f), (.list 7 .sh x15g)])] u fun v u_1 =>
      ∃ (x16a : Int), ∃ (x16b : Bool), ∃ (x16c : ByteArray), ∃ (x16d : Option Addr) (x16dn x16dc : Nat), ∃ (x16e : Option Addr) (x16en x16ec : Nat), ∃ (x16f : Bool), ∃ (x16g : Option Addr) (x16gn x16gc : Nat), v = (.agg [(pI x16a), (pB x16b), (pS x16c), (.raw (.slice x16d x16dn x16dc)), (.raw (.slice x16e x16en x16ec)), (pB x16f), (.raw (.slice x16g x16gn x16gc))]) ∧
      appR 7 112 37 s.1.1 s.1.2.1 s.1.2.2 (.list 7 .nr [[(pI x16a), (pB x16b), (pS x16c), (.raw (.slice x16d x16dn x16dc)), (.raw (.slice x16e x16en x16ec)), (pB x16f), (.raw (.slice x16g x16gn x16gc))]]) u_1 fun s18 s18n s18c u_2 =>
      next ((s18, s18n, s18c), (IntKind.wrap .i64 (s.2 + (1)))) u_2)
    (R (.raw (.slice s.1.1 s.1.2.1 s.1.2.2)) u))
  ((none, 0, 0), (0)) u0

theorem G_ponderkeep_CopyConds_w.ok (a0f : Fl) (a0 : List (List PV)) (u0 : Mem) (R : PV → Mem → Prop) : G_ponderkeep_CopyConds_w.sh a0f a0 u0 R = VF ⟨Try.prog, 20, [], [(3, ⟨[(3, .one (.raw .slice)), (4, .one (.raw (.int .i64)))], []⟩)], [], [], [], [], [2, 3, 11, 16, 18, 19]⟩ ((Try.f48.body).getD .skip) [.tmp 2] [(.list 7 a0f a0)] u0 R := by kernel_rfl

theorem G_ponderkeep_CopyConds_w.c {a0f : Fl} {a0 : List (List PV)} {u0 : Mem} {K : PV → Mem → Prop} (h : G_ponderkeep_CopyConds_w.sh a0f a0 u0 K) : CallP Try.prog 48 [(.list 7 a0f a0)] u0 K :=
  VF_sound (E := ⟨Try.prog, 20, [], [(3, ⟨[(3, .one (.raw .slice)), (4, .one (.raw (.int .i64)))], []⟩)], [], [], [], [], [2, 3, 11, 16, 18, 19]⟩) (rs := [.tmp 2]) Try.func48 rfl rfl rfl (by kernel_rfl) (by kernel_rfl) (G_ponderkeep_CopyConds_w.ok a0f a0 u0 K ▸ h)


/-- ponder/ponderkeep.CopyConds -/
def G_ponderkeep_CopyConds_s.sh (a0f : Fl) (a0 : List (List PV)) (u0 : Mem) (R : PV → Mem → Prop) : Prop :=
  LoopI (α := (Option Addr × Nat × Nat) × Int) (fun next s u =>
    CIf (decide ((s.2 : Int) < ((List.length a0 : Nat) : Int)))
    ((0 : Int) ≤ s.2 ∧ ∃ (r14 : List PV), (a0)[Int.toNat s.2]? = some r14 ∧
      ∃ (x15a : Int), ∃ (x15b : Bool), ∃ (x15c : ByteArray), ∃ (x15df : Fl) (x15d : List (List PV)), ∃ (x15ef : Fl) (x15e : List (List PV)), ∃ (x15f : Bool), ∃ (x15gf : Fl) (x15g : List (List PV)), rowM r14 0 7 = some [(pI x15a), (pB x15b), (pS x15c), (.list 6 x15df x15d), (.list 6 x15ef x15e), (pB x15f), (.list 7 x15gf x15g)] ∧
      CallP Try.prog 74 [(.agg [(pI x15a), (pB x15b), (pS x15c), (.list 6 .sh x15d), (.list 6 .sh x15e), (pB x15f), (.list 7 .sh x15g)])] u fun v u_1 =>
      ∃ (x16a : Int), ∃ (x16b : Bool), ∃ (x16c : ByteArray), ∃ (x16d : Option Addr) (x16dn x16dc : Nat), ∃ (x16e : Option Addr) (x16en x16ec : Nat), ∃ (x16f : Bool), ∃ (x16g : Option Addr) (x16gn x16gc : Nat), v = (.agg [(pI x16a), (pB x16b), (pS x16c), (.raw (.slice x16d x16dn x16dc)), (.raw (.slice x16e x16en x16ec)), (pB x16f), (.raw (.slice x16g x16gn x16gc))]) ∧
      appR 7 112 37 s.1.1 s.1.2.1 s.1.2.2 (.list 7 .nr [[(pI x16a), (pB x16b), (pS x16c), (.raw (.slice x16d x16dn x16dc)), (.raw (.slice x16e x16en x16ec)), (pB x16f), (.raw (.slice x16g x16gn x16gc))]]) u_1 fun s18 s18n s18c u_2 =>
      next ((s18, s18n, s18c), (IntKind.wrap .i64 (s.2 + (1)))) u_2)
    (R (.raw (.slice s.1.1 s.1.2.1 s.1.2.2)) u))
  ((none, 0, 0), (0)) u0

theorem G_ponderkeep_CopyConds_s.ok (a0f : Fl) (a0 : List (List PV)) (u0 : Mem) (R : PV → Mem → Prop) : G_ponderkeep_CopyConds_s.sh a0f a0 u0 R = VF ⟨Try.prog, 20, [], [(3, ⟨[(3, .one (.raw .slice)), (4, .one (.raw (.int .i64)))], []⟩)], [], [], [], [], [2, 3, 11, 16, 18, 19]⟩ ((Try.f48.body).getD .skip) [.tmp 2] [(.list 7 a0f a0)] u0 R := by kernel_rfl

theorem G_ponderkeep_CopyConds_s.c {a0f : Fl} {a0 : List (List PV)} {u0 : Mem} {K : PV → Mem → Prop} (h : G_ponderkeep_CopyConds_s.sh a0f a0 u0 K) : CallP Try.prog 48 [(.list 7 a0f a0)] u0 K :=
  VF_sound (E := ⟨Try.prog, 20, [], [(3, ⟨[(3, .one (.raw .slice)), (4, .one (.raw (.int .i64)))], []⟩)], [], [], [], [], [2, 3, 11, 16, 18, 19]⟩) (rs := [.tmp 2]) Try.func48 rfl rfl rfl (by kernel_rfl) (by kernel_rfl) (G_ponderkeep_CopyConds_s.ok a0f a0 u0 K ▸ h)


/-- ponder/ponderkeep.Copy[ponder/api.Act] -/
def G_ponderkeep_Copy_api_Act.sh (a0f : Fl) (a0 : List (List PV)) (u0 : Mem) (R : PV → Mem → Prop) : Prop :=
  appL false 19 224 .nil [] a0 u0 fun f4 u =>
  R (.list 19 f4 ([] ++ a0)) u

theorem G_ponderkeep_Copy_api_Act.ok (a0f : Fl) (a0 : List (List PV)) (u0 : Mem) (R : PV → Mem → Prop) : G_ponderkeep_Copy_api_Act.sh a0f a0 u0 R = VF ⟨Try.prog, 5, [], [], [], [], [], [], []⟩ ((Try.f49.body).getD .skip) [.tmp 2] [(.list 19 a0f a0)] u0 R := by kernel_rfl

theorem G_ponderkeep_Copy_api_Act.c {a0f : Fl} {a0 : List (List PV)} {u0 : Mem} {K : PV → Mem → Prop} (h : G_ponderkeep_Copy_api_Act.sh a0f a0 u0 K) : CallP Try.prog 49 [(.list 19 a0f a0)] u0 K :=
  VF_sound (E := ⟨Try.prog, 5, [], [], [], [], [], [], []⟩) (rs := [.tmp 2]) Try.func49 rfl rfl rfl (by kernel_rfl) (by kernel_rfl) (G_ponderkeep_Copy_api_Act.ok a0f a0 u0 K ▸ h)


/-- ponder/ponderkeep.Copy[ponder/api.Act] -/
def G_ponderkeep_Copy_api_Act_w.sh (a0f : Fl) (a0 : List (List PV)) (u0 : Mem) (R : PV → Mem → Prop) : Prop :=
  appR 19 224 45 none 0 0 (.list 19 a0f a0) u0 fun s4 s4n s4c u =>
  R (.raw (.slice s4 s4n s4c)) u

theorem G_ponderkeep_Copy_api_Act_w.ok (a0f : Fl) (a0 : List (List PV)) (u0 : Mem) (R : PV → Mem → Prop) : G_ponderkeep_Copy_api_Act_w.sh a0f a0 u0 R = VF ⟨Try.prog, 5, [], [], [], [], [], [], [2, 4]⟩ ((Try.f49.body).getD .skip) [.tmp 2] [(.list 19 a0f a0)] u0 R := by kernel_rfl

theorem G_ponderkeep_Copy_api_Act_w.c {a0f : Fl} {a0 : List (List PV)} {u0 : Mem} {K : PV → Mem → Prop} (h : G_ponderkeep_Copy_api_Act_w.sh a0f a0 u0 K) : CallP Try.prog 49 [(.list 19 a0f a0)] u0 K :=
  VF_sound (E := ⟨Try.prog, 5, [], [], [], [], [], [], [2, 4]⟩) (rs := [.tmp 2]) Try.func49 rfl rfl rfl (by kernel_rfl) (by kernel_rfl) (G_ponderkeep_Copy_api_Act_w.ok a0f a0 u0 K ▸ h)


/-- ponder/shape.checked -/
def G_shape_checked.sh (a0a : ByteArray) (a0bf : Fl) (a0b : List (List PV)) (a0cf : Fl) (a0c : List (List PV)) (u0 : Mem) (R : PV → Mem → Prop) : Prop :=
  CallP Try.prog 13 [(.agg [(pS a0a), (.list 7 .sh a0b), (.list 19 .sh a0c)])] u0 fun v u =>
  ∃ (x13p : Int), ∃ (x13q : Int), v = (.tup [(pI x13p), (pI x13q)]) ∧
  CIf ((x13q : Int) != (0))
  (R (.tup [(pI x13p), (pI x13q), (.list 1 .nil [])]) u)
  ((0 : Int) ≤ (0) ∧ ∃ (r22 : List PV), (a0b)[Int.toNat (0)]? = some r22 ∧
    ∃ (x24 : Int), rowM r22 0 1 = some [(pI x24)] ∧
    CIf ((x24 : Int) != (1))
    (R (.tup [(pI (0)), (pI (9)), (.list 1 .nil [])]) u)
    (CallP Try.prog 75 [(.list 1 .nil [])] u fun v_1 u_1 =>
      ∃ (x26 : Option Addr), v_1 = (.raw (.pointer x26)) ∧
      ∀ (b28 : Nat), u_1 b28 = none →
      CallP Try.prog 76 [(pP b28 0), (.list 7 a0bf a0b), (pI (0))] (Mem.set u_1 b28 (some (.cells 108 [(.raw (.pointer x26)), (.list 1 .nil [])]))) fun v_2 u_2 =>
      ∃ (x33p : Int), ∃ (x33q : Bool), v_2 = (.tup [(pI x33p), (pB x33q)]) ∧
      CIf (!x33q)
      (R (.tup [(pI x33p), (pI (6)), (.list 1 .nil [])]) u_2)
      (LoopI (α := Int) (fun next s u_3 =>
          CIf (decide ((s : Int) < ((List.length a0c : Nat) : Int)))
          ((0 : Int) ≤ s ∧ ∃ (r45 : List PV), (a0c)[Int.toNat s]? = some r45 ∧
            ∃ (x46a : ByteArray), ∃ (x46b : ByteArray), ∃ (x46c : Int), ∃ (x46d : ByteArray), ∃ (x46e : Int), ∃ (x46f : Int), ∃ (x46g : ByteArray), ∃ (x46h : Int), ∃ (x46i : ByteArray), ∃ (x46j : Int), ∃ (x46k : ByteArray), ∃ (x46l : Int), ∃ (x46m : ByteArray), ∃ (x46n : Int), ∃ (x46o : Int), ∃ (x46p : ByteArray), ∃ (x46q : Int), ∃ (x46r : ByteArray), ∃ (x46s : Int), rowM r45 0 19 = some [(pS x46a), (pS x46b), (pI x46c), (pS x46d), (pI x46e), (pI x46f), (pS x46g), (pI x46h), (pS x46i), (pI x46j), (pS x46k), (pI x46l), (pS x46m), (pI x46n), (pI x46o), (pS x46p), (pI x46q), (pS x46r), (pI x46s)] ∧
            CallP Try.prog 77 [(pP b28 0), (.agg [(pS x46b), (pI x46c), (pS x46d), (pI x46e)])] u_3 fun v_3 u_4 =>
            ∃ (x50 : Bool), v_3 = (pB x50) ∧
            CIf x50
            (R (.tup [(pI (IntKind.wrap .i64 (x33p + s))), (pI (6)), (.list 1 .nil [])]) u_4)
            (CIf ((x46f : Int) != (0))
              (CallP Try.prog 77 [(pP b28 0), (.agg [(pS x46g), (pI x46h), (pS x46i), (pI x46j)])] u_4 fun v_4 u_5 =>
                ∃ (x61 : Bool), v_4 = (pB x61) ∧
                CIf x61
                (R (.tup [(pI (IntKind.wrap .i64 (x33p + s))), (pI (6)), (.list 1 .nil [])]) u_5)
                (CallP Try.prog 77 [(pP b28 0), (.agg [(pS x46k), (pI x46l), (pS x46m), (pI x46n)])] u_5 fun v_5 u_6 =>
                  ∃ (x67 : Bool), v_5 = (pB x67) ∧
                  CIf x67
                  (R (.tup [(pI (IntKind.wrap .i64 (x33p + s))), (pI (6)), (.list 1 .nil [])]) u_6)
                  (next (IntKind.wrap .i64 (s + (1))) u_6)))
              (next (IntKind.wrap .i64 (s + (1))) u_4)))
          (∃ (x78 : Option Addr) (x78n x78c : Nat), rdM u_3 b28 1 1 = some [(.raw (.slice x78 x78n x78c))] ∧
            R (.tup [(pI (-1)), (pI (0)), (.raw (.slice x78 x78n x78c))]) u_3))
        (0) u_2)))

theorem G_shape_checked.ok (a0a : ByteArray) (a0bf : Fl) (a0b : List (List PV)) (a0cf : Fl) (a0c : List (List PV)) (u0 : Mem) (R : PV → Mem → Prop) : G_shape_checked.sh a0a a0bf a0b a0cf a0c u0 R = VF ⟨Try.prog, 79, [1, 10], [(11, ⟨[(42, .one (.raw (.int .i64)))], []⟩)], [], [], [], [], [78]⟩ ((Try.f50.body).getD .skip) [.tmp 2, .tmp 3, .tmp 4] [(.agg [(pS a0a), (.list 7 a0bf a0b), (.list 19 a0cf a0c)])] u0 R := by kernel_rfl

theorem G_shape_checked.c {a0a : ByteArray} {a0bf : Fl} {a0b : List (List PV)} {a0cf : Fl} {a0c : List (List PV)} {u0 : Mem} {K : PV → Mem → Prop} (h : G_shape_checked.sh a0a a0bf a0b a0cf a0c u0 K) : CallP Try.prog 50 [(.agg [(pS a0a), (.list 7 a0bf a0b), (.list 19 a0cf a0c)])] u0 K :=
  VF_sound (E := ⟨Try.prog, 79, [1, 10], [(11, ⟨[(42, .one (.raw (.int .i64)))], []⟩)], [], [], [], [], [78]⟩) (rs := [.tmp 2, .tmp 3, .tmp 4]) Try.func50 rfl rfl rfl (by kernel_rfl) (by kernel_rfl) (G_shape_checked.ok a0a a0bf a0b a0cf a0c u0 K ▸ h)


/-- ponder/ponderref06.knows -/
def G_ponderref06_knows.sh (a0f : Fl) (a0 : List (List PV)) (a1 : Int) (a2f : Fl) (a2 : List (List PV)) (u0 : Mem) (R : PV → Mem → Prop) : Prop :=
  LoopI (α := Int × (Fl × List (List PV)) × Int) (fun next s u =>
    CIf (decide ((s.2.2 : Int) < ((List.length a0 : Nat) : Int)))
    (CJoin (α := (Fl × List (List PV))) (fun J =>
        (0 : Int) ≤ s.2.2 ∧ ∃ (r23 : List PV), (a0)[Int.toNat s.2.2]? = some r23 ∧
        ∃ (x25 : Int), rowM r23 0 1 = some [(pI x25)] ∧
        CIf ((x25 : Int) == (3))
        ((0 : Int) ≤ s.2.2 ∧ ∃ (r30 : List PV), (a0)[Int.toNat s.2.2]? = some r30 ∧
          ∃ (x32f : Fl) (x32 : List (List PV)), rowM r30 6 1 = some [(.list 7 x32f x32)] ∧
          CallP Try.prog 51 [(.list 7 x32f x32), (pI (IntKind.wrap .i64 (s.1 + (1)))), (.list 1 s.2.1.1 s.2.1.2)] u fun v u_2 =>
          ∃ (x36pf : Fl) (x36p : List (List PV)), ∃ (x36q : Int), ∃ (x36r : Bool), v = (.tup [(.list 1 x36pf x36p), (pI x36q), (pB x36r)]) ∧
          CIf (!x36r)
          (R (.tup [(.list 1 .nil []), (pI x36q), (pB false)]) u_2)
          (J (s.2.1.1, s.2.1.2) u_2))
        ((0 : Int) ≤ s.2.2 ∧ ∃ (r46 : List PV), (a0)[Int.toNat s.2.2]? = some r46 ∧
          ∃ (x47a : Int), ∃ (x47b : Bool), ∃ (x47c : ByteArray), ∃ (x47df : Fl) (x47d : List (List PV)), ∃ (x47ef : Fl) (x47e : List (List PV)), ∃ (x47f : Bool), ∃ (x47gf : Fl) (x47g : List (List PV)), rowM r46 0 7 = some [(pI x47a), (pB x47b), (pS x47c), (.list 6 x47df x47d), (.list 6 x47ef x47e), (pB x47f), (.list 7 x47gf x47g)] ∧
          CallP Try.prog 78 [(.agg [(pI x47a), (pB x47b), (pS x47c), (.list 6 .sh x47d), (.list 6 .sh x47e), (pB x47f), (.list 7 .sh x47g)]), (.list 1 s.2.1.1 s.2.1.2)] u fun v_1 u_3 =>
          ∃ (x49pf : Fl) (x49p : List (List PV)), ∃ (x49q : Bool), v_1 = (.tup [(.list 1 x49pf x49p), (pB x49q)]) ∧
          CIf (!x49q)
          (R (.tup [(.list 1 .nil []), (pI s.1), (pB false)]) u_3)
          ((0 : Int) ≤ s.2.2 ∧ ∃ (r57 : List PV), (a0)[Int.toNat s.2.2]? = some r57 ∧
            ∃ (x59 : Int), rowM r57 0 1 = some [(pI x59)] ∧
            CIf ((x59 : Int) == (1))
            (J (x49pf, x49p) u_3)
            (J (s.2.1.1, s.2.1.2) u_3))))
      (fun s_1 u_1 =>
        (0 : Int) ≤ s.2.2 ∧ ∃ (r65 : List PV), (a0)[Int.toNat s.2.2]? = some r65 ∧
        ∃ (x67f : Fl) (x67 : List (List PV)), rowM r65 6 1 = some [(.list 7 x67f x67)] ∧
        CallP Try.prog 45 [(.list 7 x67f x67)] u_1 fun v_2 u_4 =>
        ∃ (x68 : Int), v_2 = (pI x68) ∧
        next ((IntKind.wrap .i64 (s.1 + (IntKind.wrap .i64 ((1) + x68)))), (s_1.1, s_1.2), (IntKind.wrap .i64 (s.2.2 + (1)))) u_4))
    (R (.tup [(.list 1 s.2.1.1 s.2.1.2), (pI (-1)), (pB true)]) u))
  (a1, (a2f, a2), (0)) u0

theorem G_ponderref06_knows.ok (a0f : Fl) (a0 : List (List PV)) (a1 : Int) (a2f : Fl) (a2 : List (List PV)) (u0 : Mem) (R : PV → Mem → Prop) : G_ponderref06_knows.sh a0f a0 a1 a2f a2 u0 R = VF ⟨Try.prog, 72, [], [(2, ⟨[(1, .one (.raw (.int .i64))), (2, .one (.list 1)), (9, .one (.raw (.int .i64)))], []⟩)], [(13, ⟨[(2, .one (.list 1))], []⟩)], [], [], [], []⟩ ((Try.f51.body).getD .skip) [.tmp 6, .tmp 7, .tmp 8] [(.list 7 a0f a0), (pI a1), (.list 1 a2f a2)] u0 R := by kernel_rfl

theorem G_ponderref06_knows.c {a0f : Fl} {a0 : List (List PV)} {a1 : Int} {a2f : Fl} {a2 : List (List PV)} {u0 : Mem} {K : PV → Mem → Prop} (h : G_ponderref06_knows.sh a0f a0 a1 a2f a2 u0 K) : CallP Try.prog 51 [(.list 7 a0f a0), (pI a1), (.list 1 a2f a2)] u0 K :=
  VF_sound (E := ⟨Try.prog, 72, [], [(2, ⟨[(1, .one (.raw (.int .i64))), (2, .one (.list 1)), (9, .one (.raw (.int .i64)))], []⟩)], [(13, ⟨[(2, .one (.list 1))], []⟩)], [], [], [], []⟩) (rs := [.tmp 6, .tmp 7, .tmp 8]) Try.func51 rfl rfl rfl (by kernel_rfl) (by kernel_rfl) (G_ponderref06_knows.ok a0f a0 a1 a2f a2 u0 K ▸ h)


/-- ponder/ponderref06.seen -/
def G_ponderref06_seen.sh (a0a : ByteArray) (a0b : Int) (a0c : ByteArray) (a0d : Int) (a1f : Fl) (a1 : List (List PV)) (u0 : Mem) (R : PV → Mem → Prop) : Prop :=
  CIf (strEq a0a ⟨#[]⟩)
  (R (pB true) u0)
  (CallP Try.prog 79 [(.list 1 a1f a1), (pS a0a)] u0 fun v u =>
    ∃ (x12 : Bool), v = (pB x12) ∧
    R (pB x12) u)

theorem G_ponderref06_seen.ok (a0a : ByteArray) (a0b : Int) (a0c : ByteArray) (a0d : Int) (a1f : Fl) (a1 : List (List PV)) (u0 : Mem) (R : PV → Mem → Prop) : G_ponderref06_seen.sh a0a a0b a0c a0d a1f a1 u0 R = VF ⟨Try.prog, 14, [2], [], [], [], [], [], []⟩ ((Try.f52.body).getD .skip) [.tmp 4] [(.agg [(pS a0a), (pI a0b), (pS a0c), (pI a0d)]), (.list 1 a1f a1)] u0 R := by kernel_rfl

theorem G_ponderref06_seen.c {a0a : ByteArray} {a0b : Int} {a0c : ByteArray} {a0d : Int} {a1f : Fl} {a1 : List (List PV)} {u0 : Mem} {K : PV → Mem → Prop} (h : G_ponderref06_seen.sh a0a a0b a0c a0d a1f a1 u0 K) : CallP Try.prog 52 [(.agg [(pS a0a), (pI a0b), (pS a0c), (pI a0d)]), (.list 1 a1f a1)] u0 K :=
  VF_sound (E := ⟨Try.prog, 14, [2], [], [], [], [], [], []⟩) (rs := [.tmp 4]) Try.func52 rfl rfl rfl (by kernel_rfl) (by kernel_rfl) (G_ponderref06_seen.ok a0a a0b a0c a0d a1f a1 u0 K ▸ h)


/-- ponder/ponderkeep.Acts -/
def G_ponderkeep_Acts.sh (a0f : Fl) (a0 : List (List PV)) (a1f : Fl) (a1 : List (List PV)) (u0 : Mem) (R : PV → Mem → Prop) : Prop :=
  CIf ((((List.length a0 : Nat) : Int) : Int) != ((List.length a1 : Nat) : Int))
  (R (pB false) u0)
  (LoopI (α := Int) (fun next s u =>
      CIf (decide ((s : Int) < ((List.length a0 : Nat) : Int)))
      ((0 : Int) ≤ s ∧ ∃ (r19 : List PV), (a0)[Int.toNat s]? = some r19 ∧
        ∃ (x20a : ByteArray), ∃ (x20b : ByteArray), ∃ (x20c : Int), ∃ (x20d : ByteArray), ∃ (x20e : Int), ∃ (x20f : Int), ∃ (x20g : ByteArray), ∃ (x20h : Int), ∃ (x20i : ByteArray), ∃ (x20j : Int), ∃ (x20k : ByteArray), ∃ (x20l : Int), ∃ (x20m : ByteArray), ∃ (x20n : Int), ∃ (x20o : Int), ∃ (x20p : ByteArray), ∃ (x20q : Int), ∃ (x20r : ByteArray), ∃ (x20s : Int), rowM r19 0 19 = some [(pS x20a), (pS x20b), (pI x20c), (pS x20d), (pI x20e), (pI x20f), (pS x20g), (pI x20h), (pS x20i), (pI x20j), (pS x20k), (pI x20l), (pS x20m), (pI x20n), (pI x20o), (pS x20p), (pI x20q), (pS x20r), (pI x20s)] ∧
        (0 : Int) ≤ s ∧ ∃ (r23 : List PV), (a1)[Int.toNat s]? = some r23 ∧
        ∃ (x24a : ByteArray), ∃ (x24b : ByteArray), ∃ (x24c : Int), ∃ (x24d : ByteArray), ∃ (x24e : Int), ∃ (x24f : Int), ∃ (x24g : ByteArray), ∃ (x24h : Int), ∃ (x24i : ByteArray), ∃ (x24j : Int), ∃ (x24k : ByteArray), ∃ (x24l : Int), ∃ (x24m : ByteArray), ∃ (x24n : Int), ∃ (x24o : Int), ∃ (x24p : ByteArray), ∃ (x24q : Int), ∃ (x24r : ByteArray), ∃ (x24s : Int), rowM r23 0 19 = some [(pS x24a), (pS x24b), (pI x24c), (pS x24d), (pI x24e), (pI x24f), (pS x24g), (pI x24h), (pS x24i), (pI x24j), (pS x24k), (pI x24l), (pS x24m), (pI x24n), (pI x24o), (pS x24p), (pI x24q), (pS x24r), (pI x24s)] ∧
        CIf (!(strEq x20a x24a && (strEq x20b x24b && ((x20c == x24c) && (strEq x20d x24d && ((x20e == x24e) && ((x20f == x24f) && (strEq x20g x24g && ((x20h == x24h) && (strEq x20i x24i && ((x20j == x24j) && (strEq x20k x24k && ((x20l == x24l) && (strEq x20m x24m && ((x20n == x24n) && ((x20o == x24o) && (strEq x20p x24p && ((x20q == x24q) && (strEq x20r x24r && ((x20s == x24s) && true))))))))))))))))))))
        (R (pB false) u)
        (next (IntKind.wrap .i64 (s + (1))) u))
      (R (pB true) u))
    (0) u0)

theorem G_ponderkeep_Acts.ok (a0f : Fl) (a0 : List (List PV)) (a1f : Fl) (a1 : List (List PV)) (u0 : Mem) (R : PV → Mem → Prop) : G_ponderkeep_Acts.sh a0f a0 a1f a1 u0 R = VF ⟨Try.prog, 26, [], [(4, ⟨[(5, .one (.raw (.int .i64)))], []⟩)], [], [], [], [], []⟩ ((Try.f53.body).getD .skip) [.tmp 4] [(.list 19 a0f a0), (.list 19 a1f a1)] u0 R := by kernel_rfl

theorem G_ponderkeep_Acts.c {a0f : Fl} {a0 : List (List PV)} {a1f : Fl} {a1 : List (List PV)} {u0 : Mem} {K : PV → Mem → Prop} (h : G_ponderkeep_Acts.sh a0f a0 a1f a1 u0 K) : CallP Try.prog 53 [(.list 19 a0f a0), (.list 19 a1f a1)] u0 K :=
  VF_sound (E := ⟨Try.prog, 26, [], [(4, ⟨[(5, .one (.raw (.int .i64)))], []⟩)], [], [], [], [], []⟩) (rs := [.tmp 4]) Try.func53 rfl rfl rfl (by kernel_rfl) (by kernel_rfl) (G_ponderkeep_Acts.ok a0f a0 a1f a1 u0 K ▸ h)


/-- ponder/ponderref06.Known -/
def G_ponderref06_Known.sh (a0a : ByteArray) (a0bf : Fl) (a0b : List (List PV)) (a0cf : Fl) (a0c : List (List PV)) (a1 : Int) (u0 : Mem) (R : PV → Mem → Prop) : Prop :=
  (0 : Int) ≤ (0 : Int) ∧ (0 : Int) ≤ a1 ∧ a1 ≤ ((List.length a0b : Nat) : Int) ∧ 
  CallP Try.prog 51 [(.list 7 .sh (List.drop (Int.toNat (0 : Int)) (List.take (Int.toNat a1) a0b))), (pI (0)), (.list 1 .nil [])] u0 fun v u =>
  ∃ (x13pf : Fl) (x13p : List (List PV)), ∃ (x13q : Int), ∃ (x13r : Bool), v = (.tup [(.list 1 x13pf x13p), (pI x13q), (pB x13r)]) ∧
  R (.list 1 x13pf x13p) u

theorem G_ponderref06_Known.ok (a0a : ByteArray) (a0bf : Fl) (a0b : List (List PV)) (a0cf : Fl) (a0c : List (List PV)) (a1 : Int) (u0 : Mem) (R : PV → Mem → Prop) : G_ponderref06_Known.sh a0a a0bf a0b a0cf a0c a1 u0 R = VF ⟨Try.prog, 18, [2], [], [], [], [], [], []⟩ ((Try.f54.body).getD .skip) [.tmp 4] [(.agg [(pS a0a), (.list 7 a0bf a0b), (.list 19 a0cf a0c)]), (pI a1)] u0 R := by kernel_rfl

theorem G_ponderref06_Known.c {a0a : ByteArray} {a0bf : Fl} {a0b : List (List PV)} {a0cf : Fl} {a0c : List (List PV)} {a1 : Int} {u0 : Mem} {K : PV → Mem → Prop} (h : G_ponderref06_Known.sh a0a a0bf a0b a0cf a0c a1 u0 K) : CallP Try.prog 54 [(.agg [(pS a0a), (.list 7 a0bf a0b), (.list 19 a0cf a0c)]), (pI a1)] u0 K :=
  VF_sound (E := ⟨Try.prog, 18, [2], [], [], [], [], [], []⟩) (rs := [.tmp 4]) Try.func54 rfl rfl rfl (by kernel_rfl) (by kernel_rfl) (G_ponderref06_Known.ok a0a a0bf a0b a0cf a0c a1 u0 K ▸ h)


/-- ponder/shape.Size$1 -/
def G_shape_Size_1.sh (a0 : Int) (a1 : Int) (a2a : Int) (a2b : Bool) (a2c : ByteArray) (a2df : Fl) (a2d : List (List PV)) (a2ef : Fl) (a2e : List (List PV)) (a2f : Bool) (a2gf : Fl) (a2g : List (List PV)) (u0 : Mem) (R : PV → Mem → Prop) : Prop :=
  R (pB true) u0

theorem G_shape_Size_1.ok (a0 : Int) (a1 : Int) (a2a : Int) (a2b : Bool) (a2c : ByteArray) (a2df : Fl) (a2d : List (List PV)) (a2ef : Fl) (a2e : List (List PV)) (a2f : Bool) (a2gf : Fl) (a2g : List (List PV)) (u0 : Mem) (R : PV → Mem → Prop) : G_shape_Size_1.sh a0 a1 a2a a2b a2c a2df a2d a2ef a2e a2f a2gf a2g u0 R = VF ⟨Try.prog, 7, [5], [], [], [], [], [], []⟩ ((Try.f55.body).getD .skip) [.tmp 6] [(pI a0), (pI a1), (.agg [(pI a2a), (pB a2b), (pS a2c), (.list 6 a2df a2d), (.list 6 a2ef a2e), (pB a2f), (.list 7 a2gf a2g)])] u0 R := by kernel_rfl

theorem G_shape_Size_1.c {a0 : Int} {a1 : Int} {a2a : Int} {a2b : Bool} {a2c : ByteArray} {a2df : Fl} {a2d : List (List PV)} {a2ef : Fl} {a2e : List (List PV)} {a2f : Bool} {a2gf : Fl} {a2g : List (List PV)} {u0 : Mem} {K : PV → Mem → Prop} (h : G_shape_Size_1.sh a0 a1 a2a a2b a2c a2df a2d a2ef a2e a2f a2gf a2g u0 K) : CallP Try.prog 55 [(pI a0), (pI a1), (.agg [(pI a2a), (pB a2b), (pS a2c), (.list 6 a2df a2d), (.list 6 a2ef a2e), (pB a2f), (.list 7 a2gf a2g)])] u0 K :=
  VF_sound (E := ⟨Try.prog, 7, [5], [], [], [], [], [], []⟩) (rs := [.tmp 6]) Try.func55 rfl rfl rfl (by kernel_rfl) (by kernel_rfl) (G_shape_Size_1.ok a0 a1 a2a a2b a2c a2df a2d a2ef a2e a2f a2gf a2g u0 K ▸ h)


/-- ponder/shape.Each -/
def G_shape_Each.sh (a0f : Fl) (a0 : List (List PV)) (u0 : Mem) (R : PV → Mem → Prop) : Prop :=
  R (.fn (.func 80) [] [(.fptr [(.list 7 .sh a0)] 0)]) u0

theorem G_shape_Each.ok (a0f : Fl) (a0 : List (List PV)) (u0 : Mem) (R : PV → Mem → Prop) : G_shape_Each.sh a0f a0 u0 R = VF ⟨Try.prog, 4, [], [], [], [], [1], [], []⟩ ((Try.f56.body).getD .skip) [.tmp 2] [(.list 7 a0f a0)] u0 R := by kernel_rfl

theorem G_shape_Each.c {a0f : Fl} {a0 : List (List PV)} {u0 : Mem} {K : PV → Mem → Prop} (h : G_shape_Each.sh a0f a0 u0 K) : CallP Try.prog 56 [(.list 7 a0f a0)] u0 K :=
  VF_sound (E := ⟨Try.prog, 4, [], [], [], [], [1], [], []⟩) (rs := [.tmp 2]) Try.func56 rfl rfl rfl (by kernel_rfl) (by kernel_rfl) (G_shape_Each.ok a0f a0 u0 K ▸ h)


/-- ponder/ponderkeep.Cond -/
def G_ponderkeep_Cond.sh (a0a : Int) (a0b : Bool) (a0c : ByteArray) (a0df : Fl) (a0d : List (List PV)) (a0ef : Fl) (a0e : List (List PV)) (a0f : Bool) (a0gf : Fl) (a0g : List (List PV)) (a1a : Int) (a1b : Bool) (a1c : ByteArray) (a1df : Fl) (a1d : List (List PV)) (a1ef : Fl) (a1e : List (List PV)) (a1f : Bool) (a1gf : Fl) (a1g : List (List PV)) (u0 : Mem) (R : PV → Mem → Prop) : Prop :=
  CIf ((a0a : Int) == a1a)
  (CIf (a0b == a1b)
    (CIf (strEq a0c a1c)
      (CIf (a0f == a1f)
        (CallP Try.prog 82 [(.list 6 a0df a0d), (.list 6 a1df a1d)] u0 fun v u =>
          ∃ (x36 : Bool), v = (pB x36) ∧
          CIf x36
          (CallP Try.prog 82 [(.list 6 a0ef a0e), (.list 6 a1ef a1e)] u fun v_1 u_1 =>
            ∃ (x43 : Bool), v_1 = (pB x43) ∧
            CIf x43
            (CallP Try.prog 31 [(.list 7 a0gf a0g), (.list 7 a1gf a1g)] u_1 fun v_2 u_2 =>
              ∃ (x50 : Bool), v_2 = (pB x50) ∧
              R (pB x50) u_2)
            (R (pB false) u_1))
          (R (pB false) u))
        (R (pB false) u0))
      (R (pB false) u0))
    (R (pB false) u0))
  (R (pB false) u0)

theorem G_ponderkeep_Cond.ok (a0a : Int) (a0b : Bool) (a0c : ByteArray) (a0df : Fl) (a0d : List (List PV)) (a0ef : Fl) (a0e : List (List PV)) (a0f : Bool) (a0gf : Fl) (a0g : List (List PV)) (a1a : Int) (a1b : Bool) (a1c : ByteArray) (a1df : Fl) (a1d : List (List PV)) (a1ef : Fl) (a1e : List (List PV)) (a1f : Bool) (a1gf : Fl) (a1g : List (List PV)) (u0 : Mem) (R : PV → Mem → Prop) : G_ponderkeep_Cond.sh a0a a0b a0c a0df a0d a0ef a0e a0f a0gf a0g a1a a1b a1c a1df a1d a1ef a1e a1f a1gf a1g u0 R = VF ⟨Try.prog, 52, [2, 3], [], [], [], [], [], []⟩ ((Try.f57.body).getD .skip) [.tmp 4] [(.agg [(pI a0a), (pB a0b), (pS a0c), (.list 6 a0df a0d), (.list 6 a0ef a0e), (pB a0f), (.list 7 a0gf a0g)]), (.agg [(pI a1a), (pB a1b), (pS a1c), (.list 6 a1df a1d), (.list 6 a1ef a1e), (pB a1f), (.list 7 a1gf a1g)])] u0 R := by kernel_rfl

theorem G_ponderkeep_Cond.c {a0a : Int} {a0b : Bool} {a0c : ByteArray} {a0df : Fl} {a0d : List (List PV)} {a0ef : Fl} {a0e : List (List PV)} {a0f : Bool} {a0gf : Fl} {a0g : List (List PV)} {a1a : Int} {a1b : Bool} {a1c : ByteArray} {a1df : Fl} {a1d : List (List PV)} {a1ef : Fl} {a1e : List (List PV)} {a1f : Bool} {a1gf : Fl} {a1g : List (List PV)} {u0 : Mem} {K : PV → Mem → Prop} (h : G_ponderkeep_Cond.sh a0a a0b a0c a0df a0d a0ef a0e a0f a0gf a0g a1a a1b a1c a1df a1d a1ef a1e a1f a1gf a1g u0 K) : CallP Try.prog 57 [(.agg [(pI a0a), (pB a0b), (pS a0c), (.list 6 a0df a0d), (.list 6 a0ef a0e), (pB a0f), (.list 7 a0gf a0g)]), (.agg [(pI a1a), (pB a1b), (pS a1c), (.list 6 a1df a1d), (.list 6 a1ef a1e), (pB a1f), (.list 7 a1gf a1g)])] u0 K :=
  VF_sound (E := ⟨Try.prog, 52, [2, 3], [], [], [], [], [], []⟩) (rs := [.tmp 4]) Try.func57 rfl rfl rfl (by kernel_rfl) (by kernel_rfl) (G_ponderkeep_Cond.ok a0a a0b a0c a0df a0d a0ef a0e a0f a0gf a0g a1a a1b a1c a1df a1d a1ef a1e a1f a1gf a1g u0 K ▸ h)


/-- ponder/shape.Consts$1 -/
def G_shape_Consts_1.sh (a0 : Fn) (a0a a0b : List PV) (c0 : List PV) (u0 : Mem) (R : PV → Mem → Prop) : Prop :=
  ∀ (b3 : Nat), u0 b3 = none →
  stM b3 0 [(pB true)] (Mem.set u0 b3 (some (.cells 4 [(pB false)]))) fun u =>
  ∀ (b4 : Nat), u b4 = none →
  stM b4 0 [(.fn (.func 59) [] [(pP b3 0), (.fptr [(.fn a0 a0a a0b)] 0)])] (Mem.set u b4 (some (.cells 93 [(.raw .nilFunc)]))) fun u_1 =>
  ∃ (x9f : Fl) (x9 : List (List PV)), rowM c0 1 1 = some [(.list 7 x9f x9)] ∧
  CallP Try.prog 39 [(.list 7 x9f x9), (pI (0)), (pI (0)), (.fn (.func 61) [] [(pP b4 0), (pP b3 0)])] u_1 fun v u_2 =>
  ∃ (x11p : Int), ∃ (x11q : Bool), v = (.tup [(pI x11p), (pB x11q)]) ∧
  ∃ (x13f : Fl) (x13 : List (List PV)), rowM c0 2 1 = some [(.list 19 x13f x13)] ∧
  LoopI (α := Int) (fun next s u_3 =>
    CIf (decide ((s : Int) < ((List.length x13 : Nat) : Int)))
    ((0 : Int) ≤ s ∧ ∃ (r17 : List PV), (x13)[Int.toNat s]? = some r17 ∧
      ∃ (x18a : ByteArray), ∃ (x18b : ByteArray), ∃ (x18c : Int), ∃ (x18d : ByteArray), ∃ (x18e : Int), ∃ (x18f : Int), ∃ (x18g : ByteArray), ∃ (x18h : Int), ∃ (x18i : ByteArray), ∃ (x18j : Int), ∃ (x18k : ByteArray), ∃ (x18l : Int), ∃ (x18m : ByteArray), ∃ (x18n : Int), ∃ (x18o : Int), ∃ (x18p : ByteArray), ∃ (x18q : Int), ∃ (x18r : ByteArray), ∃ (x18s : Int), rowM r17 0 19 = some [(pS x18a), (pS x18b), (pI x18c), (pS x18d), (pI x18e), (pI x18f), (pS x18g), (pI x18h), (pS x18i), (pI x18j), (pS x18k), (pI x18l), (pS x18m), (pI x18n), (pI x18o), (pS x18p), (pI x18q), (pS x18r), (pI x18s)] ∧
      ∃ (x19 : Fn) (x19a x19b : List PV), rdM u_3 b4 0 1 = some [(.fn x19 x19a x19b)] ∧
      CallVP Try.prog (.fn x19 x19a x19b) [(.agg [(pI x18c), (pS x18d), (pI x18e)])] u_3 fun v_1 u_4 =>
       v_1 = (.tup []) ∧
      ∃ (x24 : Fn) (x24a x24b : List PV), rdM u_4 b4 0 1 = some [(.fn x24 x24a x24b)] ∧
      CallVP Try.prog (.fn x24 x24a x24b) [(.agg [(pI x18h), (pS x18i), (pI x18j)])] u_4 fun v_2 u_5 =>
       v_2 = (.tup []) ∧
      ∃ (x30 : Fn) (x30a x30b : List PV), rdM u_5 b4 0 1 = some [(.fn x30 x30a x30b)] ∧
      CallVP Try.prog (.fn x30 x30a x30b) [(.agg [(pI x18l), (pS x18m), (pI x18n)])] u_5 fun v_3 u_6 =>
       v_3 = (.tup []) ∧
      ∃ (x36 : Fn) (x36a x36b : List PV), rdM u_6 b4 0 1 = some [(.fn x36 x36a x36b)] ∧
      CallVP Try.prog (.fn x36 x36a x36b) [(.agg [(pI x18q), (pS x18r), (pI x18s)])] u_6 fun v_4 u_7 =>
       v_4 = (.tup []) ∧
      ∃ (x41 : Bool), rdM u_7 b3 0 1 = some [(pB x41)] ∧
      CIf (!x41)
      (R (.tup []) u_7)
      (next (IntKind.wrap .i64 (s + (1))) u_7))
    (R (.tup []) u_3))
  (0) u_2

theorem G_shape_Consts_1.ok (a0 : Fn) (a0a a0b : List PV) (c0 : List PV) (u0 : Mem) (R : PV → Mem → Prop) : G_shape_Consts_1.sh a0 a0a a0b c0 u0 R = VF ⟨Try.prog, 44, [6], [(5, ⟨[(15, .one (.raw (.int .i64)))], []⟩)], [], [], [2], [], []⟩ ((Try.f58.body).getD .skip) [] [(.fn a0 a0a a0b), (.fptr c0 0)] u0 R := by kernel_rfl

theorem G_shape_Consts_1.c {a0 : Fn} {a0a a0b : List PV} {c0 : List PV} {u0 : Mem} {K : PV → Mem → Prop} (h : G_shape_Consts_1.sh a0 a0a a0b c0 u0 K) : CallP Try.prog 58 [(.fn a0 a0a a0b), (.fptr c0 0)] u0 K :=
  VF_sound (E := ⟨Try.prog, 44, [6], [(5, ⟨[(15, .one (.raw (.int .i64)))], []⟩)], [], [], [2], [], []⟩) (rs := []) Try.func58 rfl rfl rfl (by kernel_rfl) (by kernel_rfl) (G_shape_Consts_1.ok a0 a0a a0b c0 u0 K ▸ h)


/-- ponder/shape.Consts$1$1 -/
def G_shape_Consts_1_1.sh (a0a : Int) (a0b : ByteArray) (a0c : Int) (c0 : Nat) (c1 : List PV) (u0 : Mem) (R : PV → Mem → Prop) : Prop :=
  ∃ (x4 : Bool), rdM u0 c0 0 1 = some [(pB x4)] ∧
  CIf x4
  (CallP Try.prog 60 [(.agg [(pI a0a), (pS a0b), (pI a0c)])] u0 fun v u =>
    ∃ (x7 : Bool), v = (pB x7) ∧
    CIf x7
    (∃ (x9 : Fn) (x9a x9b : List PV), rowM c1 0 1 = some [(.fn x9 x9a x9b)] ∧
      CallVP Try.prog (.fn x9 x9a x9b) [(.agg [(pI a0a), (pS a0b), (pI a0c)])] u fun v_1 u_1 =>
      ∃ (x11 : Bool), v_1 = (pB x11) ∧
      stM c0 0 [(pB x11)] u_1 fun u_2 =>
      R (.tup []) u_2)
    (R (.tup []) u))
  (R (.tup []) u0)

theorem G_shape_Consts_1_1.ok (a0a : Int) (a0b : ByteArray) (a0c : Int) (c0 : Nat) (c1 : List PV) (u0 : Mem) (R : PV → Mem → Prop) : G_shape_Consts_1_1.sh a0a a0b a0c c0 c1 u0 R = VF ⟨Try.prog, 12, [3], [], [], [], [], [], []⟩ ((Try.f59.body).getD .skip) [] [(.agg [(pI a0a), (pS a0b), (pI a0c)]), (pP c0 0), (.fptr c1 0)] u0 R := by kernel_rfl

theorem G_shape_Consts_1_1.c {a0a : Int} {a0b : ByteArray} {a0c : Int} {c0 : Nat} {c1 : List PV} {u0 : Mem} {K : PV → Mem → Prop} (h : G_shape_Consts_1_1.sh a0a a0b a0c c0 c1 u0 K) : CallP Try.prog 59 [(.agg [(pI a0a), (pS a0b), (pI a0c)]), (pP c0 0), (.fptr c1 0)] u0 K :=
  VF_sound (E := ⟨Try.prog, 12, [3], [], [], [], [], [], []⟩) (rs := []) Try.func59 rfl rfl rfl (by kernel_rfl) (by kernel_rfl) (G_shape_Consts_1_1.ok a0a a0b a0c c0 c1 u0 K ▸ h)


/-- ponder/shape.constant -/
def G_shape_constant.sh (a0a : Int) (a0b : ByteArray) (a0c : Int) (u0 : Mem) (R : PV → Mem → Prop) : Prop :=
  CIf ((a0a : Int) != (1))
  (CallP Try.prog 83 [(.agg [(pI a0a), (pS a0b), (pI a0c)])] u0 fun v u =>
    ∃ (x8 : Bool), v = (pB x8) ∧
    R (pB x8) u)
  (R (pB false) u0)

theorem G_shape_constant.ok (a0a : Int) (a0b : ByteArray) (a0c : Int) (u0 : Mem) (R : PV → Mem → Prop) : G_shape_constant.sh a0a a0b a0c u0 R = VF ⟨Try.prog, 10, [1], [], [], [], [], [], []⟩ ((Try.f60.body).getD .skip) [.tmp 2] [(.agg [(pI a0a), (pS a0b), (pI a0c)])] u0 R := by kernel_rfl

theorem G_shape_constant.c {a0a : Int} {a0b : ByteArray} {a0c : Int} {u0 : Mem} {K : PV → Mem → Prop} (h : G_shape_constant.sh a0a a0b a0c u0 K) : CallP Try.prog 60 [(.agg [(pI a0a), (pS a0b), (pI a0c)])] u0 K :=
  VF_sound (E := ⟨Try.prog, 10, [1], [], [], [], [], [], []⟩) (rs := [.tmp 2]) Try.func60 rfl rfl rfl (by kernel_rfl) (by kernel_rfl) (G_shape_constant.ok a0a a0b a0c u0 K ▸ h)


/-- ponder/shape.Consts$1$2 -/
def G_shape_Consts_1_2.sh (a0 : Int) (a1 : Int) (a2a : Int) (a2b : Bool) (a2c : ByteArray) (a2df : Fl) (a2d : List (List PV)) (a2ef : Fl) (a2e : List (List PV)) (a2f : Bool) (a2gf : Fl) (a2g : List (List PV)) (c0 : Nat) (c1 : Nat) (u0 : Mem) (R : PV → Mem → Prop) : Prop :=
  LoopI (α := Int) (fun next s u =>
    CIf (decide ((s : Int) < (2)))
    ((0 : Int) ≤ s ∧ s < 2 ∧ ∃ (x22f : Fl) (x22 : List (List PV)), eltP Try.prog 35 (Int.toNat s * 1) [(.list 6 .sh a2d), (.list 6 .sh a2e)] = some (.list 6 x22f x22) ∧
      LoopI (α := Int) (fun next_1 s_1 u_1 =>
        CIf (decide ((s_1 : Int) < ((List.length x22 : Nat) : Int)))
        ((0 : Int) ≤ s_1 ∧ ∃ (r27 : List PV), (x22)[Int.toNat s_1]? = some r27 ∧
          ∃ (x28a : Int), ∃ (x28b : ByteArray), ∃ (x28c : Int), ∃ (x28d : ByteArray), ∃ (x28e : Int), ∃ (x28ff : Fl) (x28f : List (List PV)), rowM r27 0 6 = some [(pI x28a), (pS x28b), (pI x28c), (pS x28d), (pI x28e), (.list 3 x28ff x28f)] ∧
          ∃ (x29 : Fn) (x29a x29b : List PV), rdM u_1 c0 0 1 = some [(.fn x29 x29a x29b)] ∧
          CallVP Try.prog (.fn x29 x29a x29b) [(.agg [(pI x28c), (pS x28d), (pI x28e)])] u_1 fun v u_2 =>
           v = (.tup []) ∧
          LoopI (α := Int) (fun next_2 s_2 u_3 =>
            CIf (decide ((s_2 : Int) < ((List.length x28f : Nat) : Int)))
            ((0 : Int) ≤ s_2 ∧ ∃ (r38 : List PV), (x28f)[Int.toNat s_2]? = some r38 ∧
              ∃ (x39a : Int), ∃ (x39b : ByteArray), ∃ (x39c : Int), rowM r38 0 3 = some [(pI x39a), (pS x39b), (pI x39c)] ∧
              ∃ (x40 : Fn) (x40a x40b : List PV), rdM u_3 c0 0 1 = some [(.fn x40 x40a x40b)] ∧
              CallVP Try.prog (.fn x40 x40a x40b) [(.agg [(pI x39a), (pS x39b), (pI x39c)])] u_3 fun v_1 u_4 =>
               v_1 = (.tup []) ∧
              next_2 (IntKind.wrap .i64 (s_2 + (1))) u_4)
            (next_1 (IntKind.wrap .i64 (s_1 + (1))) u_3))
          (0) u_2)
        (next (IntKind.wrap .i64 (s + (1))) u_1))
      (0) u)
    (∃ (x46 : Bool), rdM u c1 0 1 = some [(pB x46)] ∧
      R (pB x46) u))
  (0) u0

theorem G_shape_Consts_1_2.ok (a0 : Int) (a1 : Int) (a2a : Int) (a2b : Bool) (a2c : ByteArray) (a2df : Fl) (a2d : List (List PV)) (a2ef : Fl) (a2e : List (List PV)) (a2f : Bool) (a2gf : Fl) (a2g : List (List PV)) (c0 : Nat) (c1 : Nat) (u0 : Mem) (R : PV → Mem → Prop) : G_shape_Consts_1_2.sh a0 a1 a2a a2b a2c a2df a2d a2ef a2e a2f a2gf a2g c0 c1 u0 R = VF ⟨Try.prog, 47, [7, 12, 14], [(2, ⟨[(20, .one (.raw (.int .i64)))], []⟩), (5, ⟨[(25, .one (.raw (.int .i64)))], []⟩), (9, ⟨[(36, .one (.raw (.int .i64)))], []⟩)], [], [], [], [], []⟩ ((Try.f61.body).getD .skip) [.tmp 8] [(pI a0), (pI a1), (.agg [(pI a2a), (pB a2b), (pS a2c), (.list 6 a2df a2d), (.list 6 a2ef a2e), (pB a2f), (.list 7 a2gf a2g)]), (pP c0 0), (pP c1 0)] u0 R := by kernel_rfl

theorem G_shape_Consts_1_2.c {a0 : Int} {a1 : Int} {a2a : Int} {a2b : Bool} {a2c : ByteArray} {a2df : Fl} {a2d : List (List PV)} {a2ef : Fl} {a2e : List (List PV)} {a2f : Bool} {a2gf : Fl} {a2g : List (List PV)} {c0 : Nat} {c1 : Nat} {u0 : Mem} {K : PV → Mem → Prop} (h : G_shape_Consts_1_2.sh a0 a1 a2a a2b a2c a2df a2d a2ef a2e a2f a2gf a2g c0 c1 u0 K) : CallP Try.prog 61 [(pI a0), (pI a1), (.agg [(pI a2a), (pB a2b), (pS a2c), (.list 6 a2df a2d), (.list 6 a2ef a2e), (pB a2f), (.list 7 a2gf a2g)]), (pP c0 0), (pP c1 0)] u0 K :=
  VF_sound (E := ⟨Try.prog, 47, [7, 12, 14], [(2, ⟨[(20, .one (.raw (.int .i64)))], []⟩), (5, ⟨[(25, .one (.raw (.int .i64)))], []⟩), (9, ⟨[(36, .one (.raw (.int .i64)))], []⟩)], [], [], [], [], []⟩) (rs := [.tmp 8]) Try.func61 rfl rfl rfl (by kernel_rfl) (by kernel_rfl) (G_shape_Consts_1_2.ok a0 a1 a2a a2b a2c a2df a2d a2ef a2e a2f a2gf a2g c0 c1 u0 K ▸ h)


/-- ponder/ponderref06.tested -/
def G_ponderref06_tested.sh (a0f : Fl) (a0 : List (List PV)) (u0 : Mem) (R : PV → Mem → Prop) : Prop :=
  LoopI (α := (Fl × List (List PV)) × Int) (fun next s u =>
    CIf (decide ((s.2 : Int) < ((List.length a0 : Nat) : Int)))
    ((0 : Int) ≤ s.2 ∧ ∃ (r13 : List PV), (a0)[Int.toNat s.2]? = some r13 ∧
      ∃ (x15 : Int), rowM r13 0 1 = some [(pI x15)] ∧
      CIf ((x15 : Int) == (8))
      ((0 : Int) ≤ s.2 ∧ ∃ (r20 : List PV), (a0)[Int.toNat s.2]? = some r20 ∧
        ∃ (x22f : Fl) (x22 : List (List PV)), rowM r20 5 1 = some [(.list 3 x22f x22)] ∧
        appL false 3 32 s.1.1 s.1.2 x22 u fun f23 u_1 =>
        next ((f23, (s.1.2 ++ x22)), (IntKind.wrap .i64 (s.2 + (1)))) u_1)
      ((0 : Int) ≤ s.2 ∧ ∃ (r26 : List PV), (a0)[Int.toNat s.2]? = some r26 ∧
        ∃ (x28 : ByteArray), rowM r26 1 1 = some [(pS x28)] ∧
        CIf (strEq x28 ⟨#[]⟩)
        ((0 : Int) ≤ s.2 ∧ ∃ (r33 : List PV), (a0)[Int.toNat s.2]? = some r33 ∧
          ∃ (x35a : Int), ∃ (x35b : ByteArray), ∃ (x35c : Int), rowM r33 2 3 = some [(pI x35a), (pS x35b), (pI x35c)] ∧
          appL false 3 32 s.1.1 s.1.2 [[(pI x35a), (pS x35b), (pI x35c)]] u fun f37 u_2 =>
          next ((f37, (s.1.2 ++ [[(pI x35a), (pS x35b), (pI x35c)]])), (IntKind.wrap .i64 (s.2 + (1)))) u_2)
        (next ((s.1.1, s.1.2), (IntKind.wrap .i64 (s.2 + (1)))) u)))
    (R (.list 3 s.1.1 s.1.2) u))
  ((.nil, []), (0)) u0

theorem G_ponderref06_tested.ok (a0f : Fl) (a0 : List (List PV)) (u0 : Mem) (R : PV → Mem → Prop) : G_ponderref06_tested.sh a0f a0 u0 R = VF ⟨Try.prog, 39, [], [(3, ⟨[(3, .one (.list 3)), (4, .one (.raw (.int .i64)))], []⟩)], [], [], [], [], []⟩ ((Try.f62.body).getD .skip) [.tmp 2] [(.list 6 a0f a0)] u0 R := by kernel_rfl

theorem G_ponderref06_tested.c {a0f : Fl} {a0 : List (List PV)} {u0 : Mem} {K : PV → Mem → Prop} (h : G_ponderref06_tested.sh a0f a0 u0 K) : CallP Try.prog 62 [(.list 6 a0f a0)] u0 K :=
  VF_sound (E := ⟨Try.prog, 39, [], [(3, ⟨[(3, .one (.list 3)), (4, .one (.raw (.int .i64)))], []⟩)], [], [], [], [], []⟩) (rs := [.tmp 2]) Try.func62 rfl rfl rfl (by kernel_rfl) (by kernel_rfl) (G_ponderref06_tested.ok a0f a0 u0 K ▸ h)


/-- ponder/ponderkeep.heavyTests -/
def G_ponderkeep_heavyTests.sh (a0f : Fl) (a0 : List (List PV)) (u0 : Mem) (R : PV → Mem → Prop) : Prop :=
  LoopI (α := Int) (fun next s u =>
    CIf (decide ((s : Int) < ((List.length a0 : Nat) : Int)))
    ((0 : Int) ≤ s ∧ ∃ (r12 : List PV), (a0)[Int.toNat s]? = some r12 ∧
      ∃ (x14f : Fl) (x14 : List (List PV)), rowM r12 5 1 = some [(.list 3 x14f x14)] ∧
      CIf (decide ((((List.length x14 : Nat) : Int) : Int) > (20)))
      (R (pB true) u)
      ((0 : Int) ≤ s ∧ ∃ (r20 : List PV), (a0)[Int.toNat s]? = some r20 ∧
        ∃ (x22 : ByteArray), rowM r20 1 1 = some [(pS x22)] ∧
        CIf (decide ((((ByteArray.size x22 : Nat) : Int) : Int) > (100)))
        (R (pB true) u)
        ((0 : Int) ≤ s ∧ ∃ (r29 : List PV), (a0)[Int.toNat s]? = some r29 ∧
          ∃ (x32 : ByteArray), rowM r29 3 1 = some [(pS x32)] ∧
          CIf (decide ((((ByteArray.size x32 : Nat) : Int) : Int) > (100)))
          (R (pB true) u)
          (next (IntKind.wrap .i64 (s + (1))) u))))
    (R (pB false) u))
  (0) u0

theorem G_ponderkeep_heavyTests.ok (a0f : Fl) (a0 : List (List PV)) (u0 : Mem) (R : PV → Mem → Prop) : G_ponderkeep_heavyTests.sh a0f a0 u0 R = VF ⟨Try.prog, 36, [], [(2, ⟨[(3, .one (.raw (.int .i64)))], []⟩)], [], [], [], [], []⟩ ((Try.f63.body).getD .skip) [.tmp 2] [(.list 6 a0f a0)] u0 R := by kernel_rfl

theorem G_ponderkeep_heavyTests.c {a0f : Fl} {a0 : List (List PV)} {u0 : Mem} {K : PV → Mem → Prop} (h : G_ponderkeep_heavyTests.sh a0f a0 u0 K) : CallP Try.prog 63 [(.list 6 a0f a0)] u0 K :=
  VF_sound (E := ⟨Try.prog, 36, [], [(2, ⟨[(3, .one (.raw (.int .i64)))], []⟩)], [], [], [], [], []⟩) (rs := [.tmp 2]) Try.func63 rfl rfl rfl (by kernel_rfl) (by kernel_rfl) (G_ponderkeep_heavyTests.ok a0f a0 u0 K ▸ h)


/-- ponder/sym.small -/
def G_sym_small.sh (a0 : Int) (u0 : Mem) (R : PV → Mem → Prop) : Prop :=
  CIf (decide ((a0 : Int) ≥ (97)))
  (R (pB (decide ((a0 : Int) ≤ (122)))) u0)
  (R (pB false) u0)

theorem G_sym_small.ok (a0 : Int) (u0 : Mem) (R : PV → Mem → Prop) : G_sym_small.sh a0 u0 R = VF ⟨Try.prog, 9, [], [], [], [], [], [], []⟩ ((Try.f64.body).getD .skip) [.tmp 2] [(.raw (.int .u8 a0))] u0 R := by kernel_rfl

theorem G_sym_small.c {a0 : Int} {u0 : Mem} {K : PV → Mem → Prop} (h : G_sym_small.sh a0 u0 K) : CallP Try.prog 64 [(.raw (.int .u8 a0))] u0 K :=
  VF_sound (E := ⟨Try.prog, 9, [], [], [], [], [], [], []⟩) (rs := [.tmp 2]) Try.func64 rfl rfl rfl (by kernel_rfl) (by kernel_rfl) (G_sym_small.ok a0 u0 K ▸ h)


/-- ponder/sym.digit -/
def G_sym_digit.sh (a0 : Int) (u0 : Mem) (R : PV → Mem → Prop) : Prop :=
  CIf (decide ((a0 : Int) ≥ (48)))
  (R (pB (decide ((a0 : Int) ≤ (57)))) u0)
  (R (pB false) u0)

theorem G_sym_digit.ok (a0 : Int) (u0 : Mem) (R : PV → Mem → Prop) : G_sym_digit.sh a0 u0 R = VF ⟨Try.prog, 9, [], [], [], [], [], [], []⟩ ((Try.f65.body).getD .skip) [.tmp 2] [(.raw (.int .u8 a0))] u0 R := by kernel_rfl

theorem G_sym_digit.c {a0 : Int} {u0 : Mem} {K : PV → Mem → Prop} (h : G_sym_digit.sh a0 u0 K) : CallP Try.prog 65 [(.raw (.int .u8 a0))] u0 K :=
  VF_sound (E := ⟨Try.prog, 9, [], [], [], [], [], [], []⟩) (rs := [.tmp 2]) Try.func65 rfl rfl rfl (by kernel_rfl) (by kernel_rfl) (G_sym_digit.ok a0 u0 K ▸ h)


/-- ponder/shape.tests -/
def G_shape_tests.sh (a0f : Fl) (a0 : List (List PV)) (u0 : Mem) (R : PV → Mem → Prop) : Prop :=
  LoopI (α := Int) (fun next s u =>
    CIf (decide ((s : Int) < ((List.length a0 : Nat) : Int)))
    ((0 : Int) ≤ s ∧ ∃ (r9 : List PV), (a0)[Int.toNat s]? = some r9 ∧
      ∃ (x10a : Int), ∃ (x10b : ByteArray), ∃ (x10c : Int), ∃ (x10d : ByteArray), ∃ (x10e : Int), ∃ (x10ff : Fl) (x10f : List (List PV)), rowM r9 0 6 = some [(pI x10a), (pS x10b), (pI x10c), (pS x10d), (pI x10e), (.list 3 x10ff x10f)] ∧
      CallP Try.prog 84 [(.agg [(pI x10a), (pS x10b), (pI x10c), (pS x10d), (pI x10e), (.list 3 .sh x10f)])] u fun v u_1 =>
      ∃ (x12 : Bool), v = (pB x12) ∧
      CIf (!x12)
      (R (pB false) u_1)
      (next (IntKind.wrap .i64 (s + (1))) u_1))
    (R (pB true) u))
  (0) u0

theorem G_shape_tests.ok (a0f : Fl) (a0 : List (List PV)) (u0 : Mem) (R : PV → Mem → Prop) : G_shape_tests.sh a0f a0 u0 R = VF ⟨Try.prog, 15, [4], [(2, ⟨[(7, .one (.raw (.int .i64)))], []⟩)], [], [], [], [], []⟩ ((Try.f66.body).getD .skip) [.tmp 2] [(.list 6 a0f a0)] u0 R := by kernel_rfl

theorem G_shape_tests.c {a0f : Fl} {a0 : List (List PV)} {u0 : Mem} {K : PV → Mem → Prop} (h : G_shape_tests.sh a0f a0 u0 K) : CallP Try.prog 66 [(.list 6 a0f a0)] u0 K :=
  VF_sound (E := ⟨Try.prog, 15, [4], [(2, ⟨[(7, .one (.raw (.int .i64)))], []⟩)], [], [], [], [], []⟩) (rs := [.tmp 2]) Try.func66 rfl rfl rfl (by kernel_rfl) (by kernel_rfl) (G_shape_tests.ok a0f a0 u0 K ▸ h)


/-- ponder/shape.atom -/
def G_shape_atom.sh (a0a : ByteArray) (a0b : Int) (a0c : ByteArray) (a0d : Int) (u0 : Mem) (R : PV → Mem → Prop) : Prop :=
  CIf (!strEq a0a ⟨#[]⟩)
  (CallP Try.prog 38 [(pS a0a)] u0 fun v u =>
    ∃ (x8 : Bool), v = (pB x8) ∧
    CIf x8
    (CallP Try.prog 85 [(.agg [(pI a0b), (pS a0c), (pI a0d)])] u fun v_1 u_1 =>
      ∃ (x12 : Bool), v_1 = (pB x12) ∧
      R (pB x12) u_1)
    (R (pB false) u))
  (CallP Try.prog 60 [(.agg [(pI a0b), (pS a0c), (pI a0d)])] u0 fun v_2 u_2 =>
    ∃ (x16 : Bool), v_2 = (pB x16) ∧
    R (pB x16) u_2)

theorem G_shape_atom.ok (a0a : ByteArray) (a0b : Int) (a0c : ByteArray) (a0d : Int) (u0 : Mem) (R : PV → Mem → Prop) : G_shape_atom.sh a0a a0b a0c a0d u0 R = VF ⟨Try.prog, 17, [1], [], [], [], [], [], []⟩ ((Try.f67.body).getD .skip) [.tmp 2] [(.agg [(pS a0a), (pI a0b), (pS a0c), (pI a0d)])] u0 R := by kernel_rfl

theorem G_shape_atom.c {a0a : ByteArray} {a0b : Int} {a0c : ByteArray} {a0d : Int} {u0 : Mem} {K : PV → Mem → Prop} (h : G_shape_atom.sh a0a a0b a0c a0d u0 K) : CallP Try.prog 67 [(.agg [(pS a0a), (pI a0b), (pS a0c), (pI a0d)])] u0 K :=
  VF_sound (E := ⟨Try.prog, 17, [1], [], [], [], [], [], []⟩) (rs := [.tmp 2]) Try.func67 rfl rfl rfl (by kernel_rfl) (by kernel_rfl) (G_shape_atom.ok a0a a0b a0c a0d u0 K ▸ h)


/-- ponder/shape.term -/
def G_shape_term.sh (a0a : Int) (a0b : ByteArray) (a0c : Int) (a0d : ByteArray) (a0e : Int) (a0f : ByteArray) (a0g : Int) (a0h : ByteArray) (a0i : Int) (u0 : Mem) (R : PV → Mem → Prop) : Prop :=
  CIf (decide ((a0a : Int) < (0)))
  (R (pB false) u0)
  (CIf (decide ((a0a : Int) > (3)))
    (R (pB false) u0)
    (CallP Try.prog 67 [(.agg [(pS a0b), (pI a0c), (pS a0d), (pI a0e)])] u0 fun v u =>
      ∃ (x14 : Bool), v = (pB x14) ∧
      CIf (!x14)
      (R (pB false) u)
      (CIf ((a0a : Int) == (0))
        (CallP Try.prog 70 [(.agg [(pS a0f), (pI a0g), (pS a0h), (pI a0i)])] u fun v_1 u_1 =>
          ∃ (x22 : Bool), v_1 = (pB x22) ∧
          R (pB x22) u_1)
        (CallP Try.prog 67 [(.agg [(pS a0f), (pI a0g), (pS a0h), (pI a0i)])] u fun v_2 u_2 =>
          ∃ (x25 : Bool), v_2 = (pB x25) ∧
          CIf x25
          (CallP Try.prog 86 [(.agg [(pS a0b), (pI a0c), (pS a0d), (pI a0e)])] u_2 fun v_3 u_3 =>
            ∃ (x29 : Bool), v_3 = (pB x29) ∧
            CIf (!x29)
            (CallP Try.prog 86 [(.agg [(pS a0f), (pI a0g), (pS a0h), (pI a0i)])] u_3 fun v_4 u_4 =>
              ∃ (x35 : Bool), v_4 = (pB x35) ∧
              R (pB (!x35)) u_4)
            (R (pB false) u_3))
          (R (pB false) u_2)))))

theorem G_shape_term.ok (a0a : Int) (a0b : ByteArray) (a0c : Int) (a0d : ByteArray) (a0e : Int) (a0f : ByteArray) (a0g : Int) (a0h : ByteArray) (a0i : Int) (u0 : Mem) (R : PV → Mem → Prop) : G_shape_term.sh a0a a0b a0c a0d a0e a0f a0g a0h a0i u0 R = VF ⟨Try.prog, 38, [1], [], [], [], [], [], []⟩ ((Try.f68.body).getD .skip) [.tmp 2] [(.agg [(pI a0a), (pS a0b), (pI a0c), (pS a0d), (pI a0e), (pS a0f), (pI a0g), (pS a0h), (pI a0i)])] u0 R := by kernel_rfl

theorem G_shape_term.c {a0a : Int} {a0b : ByteArray} {a0c : Int} {a0d : ByteArray} {a0e : Int} {a0f : ByteArray} {a0g : Int} {a0h : ByteArray} {a0i : Int} {u0 : Mem} {K : PV → Mem → Prop} (h : G_shape_term.sh a0a a0b a0c a0d a0e a0f a0g a0h a0i u0 K) : CallP Try.prog 68 [(.agg [(pI a0a), (pS a0b), (pI a0c), (pS a0d), (pI a0e), (pS a0f), (pI a0g), (pS a0h), (pI a0i)])] u0 K :=
  VF_sound (E := ⟨Try.prog, 38, [1], [], [], [], [], [], []⟩) (rs := [.tmp 2]) Try.func68 rfl rfl rfl (by kernel_rfl) (by kernel_rfl) (G_shape_term.ok a0a a0b a0c a0d a0e a0f a0g a0h a0i u0 K ▸ h)


/-- ponder/shape.other -/
def G_shape_other.sh (a0 : Int) (u0 : Mem) (R : PV → Mem → Prop) : Prop :=
  CIf ((a0 : Int) == (8))
  (R (pB true) u0)
  (CIf ((a0 : Int) == (9))
    (R (pB true) u0)
    (R (pB ((a0 : Int) == (10))) u0))

theorem G_shape_other.ok (a0 : Int) (u0 : Mem) (R : PV → Mem → Prop) : G_shape_other.sh a0 u0 R = VF ⟨Try.prog, 13, [], [], [], [], [], [], []⟩ ((Try.f69.body).getD .skip) [.tmp 2] [(pI a0)] u0 R := by kernel_rfl

theorem G_shape_other.c {a0 : Int} {u0 : Mem} {K : PV → Mem → Prop} (h : G_shape_other.sh a0 u0 K) : CallP Try.prog 69 [(pI a0)] u0 K :=
  VF_sound (E := ⟨Try.prog, 13, [], [], [], [], [], [], []⟩) (rs := [.tmp 2]) Try.func69 rfl rfl rfl (by kernel_rfl) (by kernel_rfl) (G_shape_other.ok a0 u0 K ▸ h)


/-- ponder/shape.empty -/
def G_shape_empty.sh (a0a : ByteArray) (a0b : Int) (a0c : ByteArray) (a0d : Int) (u0 : Mem) (R : PV → Mem → Prop) : Prop :=
  CIf (strEq a0a ⟨#[]⟩)
  (CallP Try.prog 85 [(.agg [(pI a0b), (pS a0c), (pI a0d)])] u0 fun v u =>
    ∃ (x9 : Bool), v = (pB x9) ∧
    R (pB x9) u)
  (R (pB false) u0)

theorem G_shape_empty.ok (a0a : ByteArray) (a0b : Int) (a0c : ByteArray) (a0d : Int) (u0 : Mem) (R : PV → Mem → Prop) : G_shape_empty.sh a0a a0b a0c a0d u0 R = VF ⟨Try.prog, 11, [1], [], [], [], [], [], []⟩ ((Try.f70.body).getD .skip) [.tmp 2] [(.agg [(pS a0a), (pI a0b), (pS a0c), (pI a0d)])] u0 R := by kernel_rfl

theorem G_shape_empty.c {a0a : ByteArray} {a0b : Int} {a0c : ByteArray} {a0d : Int} {u0 : Mem} {K : PV → Mem → Prop} (h : G_shape_empty.sh a0a a0b a0c a0d u0 K) : CallP Try.prog 70 [(.agg [(pS a0a), (pI a0b), (pS a0c), (pI a0d)])] u0 K :=
  VF_sound (E := ⟨Try.prog, 11, [1], [], [], [], [], [], []⟩) (rs := [.tmp 2]) Try.func70 rfl rfl rfl (by kernel_rfl) (by kernel_rfl) (G_shape_empty.ok a0a a0b a0c a0d u0 K ▸ h)


/-- ponder/ponderref04.Part -/
def G_ponderref04_Part.sh (a0 : Int) (u0 : Mem) (R : PV → Mem → Prop) : Prop :=
  CIf (decide ((a0 : Int) ≥ (97)))
  (CIf (decide ((a0 : Int) ≤ (122)))
    (R (pB true) u0)
    (CIf (decide ((a0 : Int) ≥ (48)))
      (CIf (decide ((a0 : Int) ≤ (57)))
        (R (pB true) u0)
        (CIf ((a0 : Int) == (45))
          (R (pB true) u0)
          (R (pB ((a0 : Int) == (95))) u0)))
      (CIf ((a0 : Int) == (45))
        (R (pB true) u0)
        (R (pB ((a0 : Int) == (95))) u0))))
  (CIf (decide ((a0 : Int) ≥ (48)))
    (CIf (decide ((a0 : Int) ≤ (57)))
      (R (pB true) u0)
      (CIf ((a0 : Int) == (45))
        (R (pB true) u0)
        (R (pB ((a0 : Int) == (95))) u0)))
    (CIf ((a0 : Int) == (45))
      (R (pB true) u0)
      (R (pB ((a0 : Int) == (95))) u0)))

theorem G_ponderref04_Part.ok (a0 : Int) (u0 : Mem) (R : PV → Mem → Prop) : G_ponderref04_Part.sh a0 u0 R = VF ⟨Try.prog, 25, [], [], [], [], [], [], []⟩ ((Try.f71.body).getD .skip) [.tmp 2] [(.raw (.int .u8 a0))] u0 R := by kernel_rfl

theorem G_ponderref04_Part.c {a0 : Int} {u0 : Mem} {K : PV → Mem → Prop} (h : G_ponderref04_Part.sh a0 u0 K) : CallP Try.prog 71 [(.raw (.int .u8 a0))] u0 K :=
  VF_sound (E := ⟨Try.prog, 25, [], [], [], [], [], [], []⟩) (rs := [.tmp 2]) Try.func71 rfl rfl rfl (by kernel_rfl) (by kernel_rfl) (G_ponderref04_Part.ok a0 u0 K ▸ h)


/-- ponder/ponderref06.cond -/
def G_ponderref06_cond.sh (a0a : Int) (a0b : Bool) (a0c : ByteArray) (a0df : Fl) (a0d : List (List PV)) (a0ef : Fl) (a0e : List (List PV)) (a0f : Bool) (a0gf : Fl) (a0g : List (List PV)) (a1 : Int) (u0 : Mem) (R : PV → Mem → Prop) : Prop :=
  CIf (decide ((a0a : Int) < (1)))
  (R (pI (9)) u0)
  (CIf (decide ((a0a : Int) > (3)))
    (R (pI (9)) u0)
    (CIf ((a0a : Int) == (3))
      (CIf a0b
        (R (pI (9)) u0)
        (CIf (!strEq a0c ⟨#[]⟩)
          (R (pI (9)) u0)
          (CIf (decide ((((List.length a0d : Nat) : Int) : Int) > (0)))
            (R (pI (9)) u0)
            (CIf (decide ((((List.length a0e : Nat) : Int) : Int) > (0)))
              (R (pI (9)) u0)
              (CIf a0f
                (R (pI (9)) u0)
                (CIf ((((List.length a0g : Nat) : Int) : Int) == (0))
                  (R (pI (9)) u0)
                  (CIf (decide ((a1 : Int) ≥ (3)))
                    (R (pI (8)) u0)
                    (R (pI (0)) u0))))))))
      (CIf (decide ((((List.length a0g : Nat) : Int) : Int) > (0)))
        (R (pI (9)) u0)
        (CallP Try.prog 44 [(pS a0c)] u0 fun v u =>
          ∃ (x54 : Bool), v = (pB x54) ∧
          CIf (!x54)
          (R (pI (9)) u)
          (CIf ((((List.length a0d : Nat) : Int) : Int) == (0))
            (R (pI (9)) u)
            (CIf (decide ((((List.length a0d : Nat) : Int) : Int) > (4)))
              (R (pI (7)) u)
              (CIf (decide ((((List.length a0e : Nat) : Int) : Int) > (4)))
                (R (pI (7)) u)
                (CallP Try.prog 87 [(.list 6 a0df a0d)] u fun v_1 u_1 =>
                  ∃ (x75 : Bool), v_1 = (pB x75) ∧
                  CIf (!x75)
                  (R (pI (9)) u_1)
                  (CallP Try.prog 87 [(.list 6 a0ef a0e)] u_1 fun v_2 u_2 =>
                    ∃ (x80 : Bool), v_2 = (pB x80) ∧
                    CIf (!x80)
                    (R (pI (9)) u_2)
                    (R (pI (0)) u_2))))))))))

theorem G_ponderref06_cond.ok (a0a : Int) (a0b : Bool) (a0c : ByteArray) (a0df : Fl) (a0d : List (List PV)) (a0ef : Fl) (a0e : List (List PV)) (a0f : Bool) (a0gf : Fl) (a0g : List (List PV)) (a1 : Int) (u0 : Mem) (R : PV → Mem → Prop) : G_ponderref06_cond.sh a0a a0b a0c a0df a0d a0ef a0e a0f a0gf a0g a1 u0 R = VF ⟨Try.prog, 83, [2], [], [], [], [], [], []⟩ ((Try.f72.body).getD .skip) [.tmp 4] [(.agg [(pI a0a), (pB a0b), (pS a0c), (.list 6 a0df a0d), (.list 6 a0ef a0e), (pB a0f), (.list 7 a0gf a0g)]), (pI a1)] u0 R := by kernel_rfl

theorem G_ponderref06_cond.c {a0a : Int} {a0b : Bool} {a0c : ByteArray} {a0df : Fl} {a0d : List (List PV)} {a0ef : Fl} {a0e : List (List PV)} {a0f : Bool} {a0gf : Fl} {a0g : List (List PV)} {a1 : Int} {u0 : Mem} {K : PV → Mem → Prop} (h : G_ponderref06_cond.sh a0a a0b a0c a0df a0d a0ef a0e a0f a0gf a0g a1 u0 K) : CallP Try.prog 72 [(.agg [(pI a0a), (pB a0b), (pS a0c), (.list 6 a0df a0d), (.list 6 a0ef a0e), (pB a0f), (.list 7 a0gf a0g)]), (pI a1)] u0 K :=
  VF_sound (E := ⟨Try.prog, 83, [2], [], [], [], [], [], []⟩) (rs := [.tmp 4]) Try.func72 rfl rfl rfl (by kernel_rfl) (by kernel_rfl) (G_ponderref06_cond.ok a0a a0b a0c a0df a0d a0ef a0e a0f a0gf a0g a1 u0 K ▸ h)


/-- ponder/ponderref06.atom -/
def G_ponderref06_atom.sh (a0a : ByteArray) (a0b : Int) (a0c : ByteArray) (a0d : Int) (u0 : Mem) (R : PV → Mem → Prop) : Prop :=
  CIf (!strEq a0a ⟨#[]⟩)
  (CallP Try.prog 44 [(pS a0a)] u0 fun v u =>
    ∃ (x8 : Bool), v = (pB x8) ∧
    CIf x8
    (R (pB ((a0b == (0)) && (strEq a0c ⟨#[]⟩ && ((a0d == (0)) && true)))) u)
    (R (pB false) u))
  (CallP Try.prog 88 [(.agg [(pI a0b), (pS a0c), (pI a0d)])] u0 fun v_1 u_1 =>
    ∃ (x17 : Bool), v_1 = (pB x17) ∧
    R (pB x17) u_1)

theorem G_ponderref06_atom.ok (a0a : ByteArray) (a0b : Int) (a0c : ByteArray) (a0d : Int) (u0 : Mem) (R : PV → Mem → Prop) : G_ponderref06_atom.sh a0a a0b a0c a0d u0 R = VF ⟨Try.prog, 18, [1], [], [], [], [], [], []⟩ ((Try.f73.body).getD .skip) [.tmp 2] [(.agg [(pS a0a), (pI a0b), (pS a0c), (pI a0d)])] u0 R := by kernel_rfl

theorem G_ponderref06_atom.c {a0a : ByteArray} {a0b : Int} {a0c : ByteArray} {a0d : Int} {u0 : Mem} {K : PV → Mem → Prop} (h : G_ponderref06_atom.sh a0a a0b a0c a0d u0 K) : CallP Try.prog 73 [(.agg [(pS a0a), (pI a0b), (pS a0c), (pI a0d)])] u0 K :=
  VF_sound (E := ⟨Try.prog, 18, [1], [], [], [], [], [], []⟩) (rs := [.tmp 2]) Try.func73 rfl rfl rfl (by kernel_rfl) (by kernel_rfl) (G_ponderref06_atom.ok a0a a0b a0c a0d u0 K ▸ h)


/-- ponder/ponderkeep.CopyCond -/
def G_ponderkeep_CopyCond.sh (a0a : Int) (a0b : Bool) (a0c : ByteArray) (a0df : Fl) (a0d : List (List PV)) (a0ef : Fl) (a0e : List (List PV)) (a0f : Bool) (a0gf : Fl) (a0g : List (List PV)) (u0 : Mem) (R : PV → Mem → Prop) : Prop :=
  CallP Try.prog 89 [(.list 6 a0df a0d)] u0 fun v u =>
  ∃ (x5f : Fl) (x5 : List (List PV)), v = (.list 6 x5f x5) ∧
  CallP Try.prog 89 [(.list 6 a0ef a0e)] u fun v_1 u_1 =>
  ∃ (x9f : Fl) (x9 : List (List PV)), v_1 = (.list 6 x9f x9) ∧
  CallP Try.prog 48 [(.list 7 a0gf a0g)] u_1 fun v_2 u_2 =>
  ∃ (x13f : Fl) (x13 : List (List PV)), v_2 = (.list 7 x13f x13) ∧
  R (.agg [(pI a0a), (pB a0b), (pS a0c), (.list 6 x5f x5), (.list 6 x9f x9), (pB a0f), (.list 7 x13f x13)]) u_2

theorem G_ponderkeep_CopyCond.ok (a0a : Int) (a0b : Bool) (a0c : ByteArray) (a0df : Fl) (a0d : List (List PV)) (a0ef : Fl) (a0e : List (List PV)) (a0f : Bool) (a0gf : Fl) (a0g : List (List PV)) (u0 : Mem) (R : PV → Mem → Prop) : G_ponderkeep_CopyCond.sh a0a a0b a0c a0df a0d a0ef a0e a0f a0gf a0g u0 R = VF ⟨Try.prog, 16, [1, 2], [], [], [], [], [], []⟩ ((Try.f74.body).getD .skip) [.cell 2 37] [(.agg [(pI a0a), (pB a0b), (pS a0c), (.list 6 a0df a0d), (.list 6 a0ef a0e), (pB a0f), (.list 7 a0gf a0g)])] u0 R := by kernel_rfl

theorem G_ponderkeep_CopyCond.c {a0a : Int} {a0b : Bool} {a0c : ByteArray} {a0df : Fl} {a0d : List (List PV)} {a0ef : Fl} {a0e : List (List PV)} {a0f : Bool} {a0gf : Fl} {a0g : List (List PV)} {u0 : Mem} {K : PV → Mem → Prop} (h : G_ponderkeep_CopyCond.sh a0a a0b a0c a0df a0d a0ef a0e a0f a0gf a0g u0 K) : CallP Try.prog 74 [(.agg [(pI a0a), (pB a0b), (pS a0c), (.list 6 a0df a0d), (.list 6 a0ef a0e), (pB a0f), (.list 7 a0gf a0g)])] u0 K :=
  VF_sound (E := ⟨Try.prog, 16, [1, 2], [], [], [], [], [], []⟩) (rs := [.cell 2 37]) Try.func74 rfl rfl rfl (by kernel_rfl) (by kernel_rfl) (G_ponderkeep_CopyCond.ok a0a a0b a0c a0df a0d a0ef a0e a0f a0gf a0g u0 K ▸ h)


/-- ponder/ponderkeep.CopyCond -/
def G_ponderkeep_CopyCond_w.sh (a0a : Int) (a0b : Bool) (a0c : ByteArray) (a0df : Fl) (a0d : List (List PV)) (a0ef : Fl) (a0e : List (List PV)) (a0f : Bool) (a0gf : Fl) (a0g : List (List PV)) (u0 : Mem) (R : PV → Mem → Prop) : Prop :=
  CallP Try.prog 89 [(.list 6 a0df a0d)] u0 fun v u =>
  ∃ (x5 : Option Addr) (x5n x5c : Nat), v = (.raw (.slice x5 x5n x5c)) ∧
  CallP Try.prog 89 [(.list 6 a0ef a0e)] u fun v_1 u_1 =>
  ∃ (x9 : Option Addr) (x9n x9c : Nat), v_1 = (.raw (.slice x9 x9n x9c)) ∧
  CallP Try.prog 48 [(.list 7 a0gf a0g)] u_1 fun v_2 u_2 =>
  ∃ (x13 : Option Addr) (x13n x13c : Nat), v_2 = (.raw (.slice x13 x13n x13c)) ∧
  R (.agg [(pI a0a), (pB a0b), (pS a0c), (.raw (.slice x5 x5n x5c)), (.raw (.slice x9 x9n x9c)), (pB a0f), (.raw (.slice x13 x13n x13c))]) u_2

theorem G_ponderkeep_CopyCond_w.ok (a0a : Int) (a0b : Bool) (a0c : ByteArray) (a0df : Fl) (a0d : List (List PV)) (a0ef : Fl) (a0e : List (List PV)) (a0f : Bool) (a0gf : Fl) (a0g : List (List PV)) (u0 : Mem) (R : PV → Mem → Prop) : G_ponderkeep_CopyCond_w.sh a0a a0b a0c a0df a0d a0ef a0e a0f a0gf a0g u0 R = VF ⟨Try.prog, 16, [1, 2], [], [], [], [], [], [2, 5, 9, 13, 14, 15]⟩ ((Try.f74.body).getD .skip) [.cell 2 37] [(.agg [(pI a0a), (pB a0b), (pS a0c), (.list 6 a0df a0d), (.list 6 a0ef a0e), (pB a0f), (.list 7 a0gf a0g)])] u0 R := by kernel_rfl

theorem G_ponderkeep_CopyCond_w.c {a0a : Int} {a0b : Bool} {a0c : ByteArray} {a0df : Fl} {a0d : List (List PV)} {a0ef : Fl} {a0e : List (List PV)} {a0f : Bool} {a0gf : Fl} {a0g : List (List PV)} {u0 : Mem} {K : PV → Mem → Prop} (h : G_ponderkeep_CopyCond_w.sh a0a a0b a0c a0df a0d a0ef a0e a0f a0gf a0g u0 K) : CallP Try.prog 74 [(.agg [(pI a0a), (pB a0b), (pS a0c), (.list 6 a0df a0d), (.list 6 a0ef a0e), (pB a0f), (.list 7 a0gf a0g)])] u0 K :=
  VF_sound (E := ⟨Try.prog, 16, [1, 2], [], [], [], [], [], [2, 5, 9, 13, 14, 15]⟩) (rs := [.cell 2 37]) Try.func74 rfl rfl rfl (by kernel_rfl) (by kernel_rfl) (G_ponderkeep_CopyCond_w.ok a0a a0b a0c a0df a0d a0ef a0e a0f a0gf a0g u0 K ▸ h)


/-- ponder/ponderkeep.CopyCond -/
def G_ponderkeep_CopyCond_s.sh (a0a : Int) (a0b : Bool) (a0c : ByteArray) (a0df : Fl) (a0d : List (List PV)) (a0ef : Fl) (a0e : List (List PV)) (a0f : Bool) (a0gf : Fl) (a0g : List (List PV)) (u0 : Mem) (R : PV → Mem → Prop) : Prop :=
  CallP Try.prog 89 [(.list 6 a0df a0d)] u0 fun v u =>
  ∃ (x5 : Option Addr) (x5n x5c : Nat), v = (.raw (.slice x5 x5n x5c)) ∧
  CallP Try.prog 89 [(.list 6 a0ef a0e)] u fun v_1 u_1 =>
  ∃ (x9 : Option Addr) (x9n x9c : Nat), v_1 = (.raw (.slice x9 x9n x9c)) ∧
  CallP Try.prog 48 [(.list 7 a0gf a0g)] u_1 fun v_2 u_2 =>
  ∃ (x13 : Option Addr) (x13n x13c : Nat), v_2 = (.raw (.slice x13 x13n x13c)) ∧
  R (.agg [(pI a0a), (pB a0b), (pS a0c), (.raw (.slice x5 x5n x5c)), (.raw (.slice x9 x9n x9c)), (pB a0f), (.raw (.slice x13 x13n x13c))]) u_2

theorem G_ponderkeep_CopyCond_s.ok (a0a : Int) (a0b : Bool) (a0c : ByteArray) (a0df : Fl) (a0d : List (List PV)) (a0ef : Fl) (a0e : List (List PV)) (a0f : Bool) (a0gf : Fl) (a0g : List (List PV)) (u0 : Mem) (R : PV → Mem → Prop) : G_ponderkeep_CopyCond_s.sh a0a a0b a0c a0df a0d a0ef a0e a0f a0gf a0g u0 R = VF ⟨Try.prog, 16, [1, 2], [], [], [], [], [], [2, 5, 9, 13, 14, 15]⟩ ((Try.f74.body).getD .skip) [.cell 2 37] [(.agg [(pI a0a), (pB a0b), (pS a0c), (.list 6 a0df a0d), (.list 6 a0ef a0e), (pB a0f), (.list 7 a0gf a0g)])] u0 R := by kernel_rfl

theorem G_ponderkeep_CopyCond_s.c {a0a : Int} {a0b : Bool} {a0c : ByteArray} {a0df : Fl} {a0d : List (List PV)} {a0ef : Fl} {a0e : List (List PV)} {a0f : Bool} {a0gf : Fl} {a0g : List (List PV)} {u0 : Mem} {K : PV → Mem → Prop} (h : G_ponderkeep_CopyCond_s.sh a0a a0b a0c a0df a0d a0ef a0e a0f a0gf a0g u0 K) : CallP Try.prog 74 [(.agg [(pI a0a), (pB a0b), (pS a0c), (.list 6 a0df a0d), (.list 6 a0ef a0e), (pB a0f), (.list 7 a0gf a0g)])] u0 K :=
  VF_sound (E := ⟨Try.prog, 16, [1, 2], [], [], [], [], [], [2, 5, 9, 13, 14, 15]⟩) (rs := [.cell 2 37]) Try.func74 rfl rfl rfl (by kernel_rfl) (by kernel_rfl) (G_ponderkeep_CopyCond_s.ok a0a a0b a0c a0df a0d a0ef a0e a0f a0gf a0g u0 K ▸ h)


/-- ponder/order.New[ponder/shape.name] -/
def G_order_New_shape_name.sh (a0f : Fl) (a0 : List (List PV)) (u0 : Mem) (R : PV → Mem → Prop) : Prop :=
  ∀ (b7 : Nat), u0 b7 = none →
  LoopI (α := Int) (fun next s u =>
    CIf (decide ((s : Int) < ((List.length a0 : Nat) : Int)))
    ((0 : Int) ≤ s ∧ ∃ (r12 : List PV), (a0)[Int.toNat s]? = some r12 ∧
      ∃ (x13 : ByteArray), rowM r12 0 1 = some [(pS x13)] ∧
      CallP Try.prog 90 [(pP b7 0), (pS x13)] u fun v u_1 =>
      ∃ (x16 : Bool), v = (pB x16) ∧
      next (IntKind.wrap .i64 (s + (1))) u_1)
    (R (pP b7 0) u))
  (0) (Mem.set u0 b7 (some (.cells 119 [(.list 1 .nil []), (pB false)])))

theorem G_order_New_shape_name.ok (a0f : Fl) (a0 : List (List PV)) (u0 : Mem) (R : PV → Mem → Prop) : G_order_New_shape_name.sh a0f a0 u0 R = VF ⟨Try.prog, 19, [], [(3, ⟨[(10, .one (.raw (.int .i64)))], []⟩)], [], [], [], [], []⟩ ((Try.f75.body).getD .skip) [.tmp 2] [(.list 1 a0f a0)] u0 R := by kernel_rfl

theorem G_order_New_shape_name.c {a0f : Fl} {a0 : List (List PV)} {u0 : Mem} {K : PV → Mem → Prop} (h : G_order_New_shape_name.sh a0f a0 u0 K) : CallP Try.prog 75 [(.list 1 a0f a0)] u0 K :=
  VF_sound (E := ⟨Try.prog, 19, [], [(3, ⟨[(10, .one (.raw (.int .i64)))], []⟩)], [], [], [], [], []⟩) (rs := [.tmp 2]) Try.func75 rfl rfl rfl (by kernel_rfl) (by kernel_rfl) (G_order_New_shape_name.ok a0f a0 u0 K ▸ h)


/-- (*ponder/shape.known).conds -/
def G_shape_known_conds.sh (a0 : Option Addr) (a1f : Fl) (a1 : List (List PV)) (a2 : Int) (u0 : Mem) (R : PV → Mem → Prop) : Prop :=
  LoopI (α := Int × Int) (fun next s u =>
    CIf (decide ((s.2 : Int) < ((List.length a1 : Nat) : Int)))
    ((0 : Int) ≤ s.2 ∧ ∃ (r17 : List PV), (a1)[Int.toNat s.2]? = some r17 ∧
      ∃ (x18a : Int), ∃ (x18b : Bool), ∃ (x18c : ByteArray), ∃ (x18df : Fl) (x18d : List (List PV)), ∃ (x18ef : Fl) (x18e : List (List PV)), ∃ (x18f : Bool), ∃ (x18gf : Fl) (x18g : List (List PV)), rowM r17 0 7 = some [(pI x18a), (pB x18b), (pS x18c), (.list 6 x18df x18d), (.list 6 x18ef x18e), (pB x18f), (.list 7 x18gf x18g)] ∧
      CJoin (α := Option Addr) (fun J =>
        CIf ((x18a : Int) != (1))
        (CallP Try.prog 91 [(.raw (.pointer a0))] u fun v u_2 =>
          ∃ (x24 : Option Addr), v = (.raw (.pointer x24)) ∧
          J x24 u_2)
        (J a0 u))
      (fun s_1 u_1 =>
        CIf ((x18a : Int) == (3))
        (CallP Try.prog 76 [(.raw (.pointer s_1)), (.list 7 x18gf x18g), (pI (IntKind.wrap .i64 (s.1 + (1))))] u_1 fun v_1 u_3 =>
          ∃ (x34p : Int), ∃ (x34q : Bool), v_1 = (.tup [(pI x34p), (pB x34q)]) ∧
          CIf (!x34q)
          (R (.tup [(pI x34p), (pB false)]) u_3)
          (next (x34p, (IntKind.wrap .i64 (s.2 + (1)))) u_3))
        (CallP Try.prog 92 [(.raw (.pointer s_1)), (.agg [(pI x18a), (pB x18b), (pS x18c), (.list 6 .sh x18d), (.list 6 .sh x18e), (pB x18f), (.list 7 .sh x18g)])] u_1 fun v_2 u_4 =>
          ∃ (x43 : Bool), v_2 = (pB x43) ∧
          CIf (!x43)
          (R (.tup [(pI s.1), (pB false)]) u_4)
          (next ((IntKind.wrap .i64 (s.1 + (1))), (IntKind.wrap .i64 (s.2 + (1)))) u_4))))
    (R (.tup [(pI s.1), (pB true)]) u))
  (a2, (0)) u0

theorem G_shape_known_conds.ok (a0 : Option Addr) (a1f : Fl) (a1 : List (List PV)) (a2 : Int) (u0 : Mem) (R : PV → Mem → Prop) : G_shape_known_conds.sh a0 a1f a1 a2 u0 R = VF ⟨Try.prog, 50, [9], [(2, ⟨[(2, .one (.raw (.int .i64))), (15, .one (.raw (.int .i64)))], []⟩)], [(7, ⟨[(10, .one (.raw .ptr))], []⟩)], [], [], [], []⟩ ((Try.f76.body).getD .skip) [.tmp 6, .tmp 7] [(.raw (.pointer a0)), (.list 7 a1f a1), (pI a2)] u0 R := by kernel_rfl

theorem G_shape_known_conds.c {a0 : Option Addr} {a1f : Fl} {a1 : List (List PV)} {a2 : Int} {u0 : Mem} {K : PV → Mem → Prop} (h : G_shape_known_conds.sh a0 a1f a1 a2 u0 K) : CallP Try.prog 76 [(.raw (.pointer a0)), (.list 7 a1f a1), (pI a2)] u0 K :=
  VF_sound (E := ⟨Try.prog, 50, [9], [(2, ⟨[(2, .one (.raw (.int .i64))), (15, .one (.raw (.int .i64)))], []⟩)], [(7, ⟨[(10, .one (.raw .ptr))], []⟩)], [], [], [], []⟩) (rs := [.tmp 6, .tmp 7]) Try.func76 rfl rfl rfl (by kernel_rfl) (by kernel_rfl) (G_shape_known_conds.ok a0 a1f a1 a2 u0 K ▸ h)


/-- (*ponder/shape.known).lacks -/
def G_shape_known_lacks.sh (a0 : Option Addr) (a1a : ByteArray) (a1b : Int) (a1c : ByteArray) (a1d : Int) (u0 : Mem) (R : PV → Mem → Prop) : Prop :=
  CIf (!strEq a1a ⟨#[]⟩)
  (CallP Try.prog 93 [(.raw (.pointer a0)), (pS a1a)] u0 fun v u =>
    ∃ (x12 : Bool), v = (pB x12) ∧
    R (pB (!x12)) u)
  (R (pB false) u0)

theorem G_shape_known_lacks.ok (a0 : Option Addr) (a1a : ByteArray) (a1b : Int) (a1c : ByteArray) (a1d : Int) (u0 : Mem) (R : PV → Mem → Prop) : G_shape_known_lacks.sh a0 a1a a1b a1c a1d u0 R = VF ⟨Try.prog, 15, [3], [], [], [], [], [], []⟩ ((Try.f77.body).getD .skip) [.tmp 4] [(.raw (.pointer a0)), (.agg [(pS a1a), (pI a1b), (pS a1c), (pI a1d)])] u0 R := by kernel_rfl

theorem G_shape_known_lacks.c {a0 : Option Addr} {a1a : ByteArray} {a1b : Int} {a1c : ByteArray} {a1d : Int} {u0 : Mem} {K : PV → Mem → Prop} (h : G_shape_known_lacks.sh a0 a1a a1b a1c a1d u0 K) : CallP Try.prog 77 [(.raw (.pointer a0)), (.agg [(pS a1a), (pI a1b), (pS a1c), (pI a1d)])] u0 K :=
  VF_sound (E := ⟨Try.prog, 15, [3], [], [], [], [], [], []⟩) (rs := [.tmp 4]) Try.func77 rfl rfl rfl (by kernel_rfl) (by kernel_rfl) (G_shape_known_lacks.ok a0 a1a a1b a1c a1d u0 K ▸ h)


/-- ponder/ponderref06.met -/
def G_ponderref06_met.sh (a0a : Int) (a0b : Bool) (a0c : ByteArray) (a0df : Fl) (a0d : List (List PV)) (a0ef : Fl) (a0e : List (List PV)) (a0f : Bool) (a0gf : Fl) (a0g : List (List PV)) (a1f : Fl) (a1 : List (List PV)) (u0 : Mem) (R : PV → Mem → Prop) : Prop :=
  appL false 1 16 .nil [] a1 u0 fun f10 u =>
  CJoin (α := (Fl × List (List PV))) (fun J =>
    CallP Try.prog 79 [(.list 1 f10 ([] ++ a1)), (pS a0c)] u fun v u_2 =>
    ∃ (x14 : Bool), v = (pB x14) ∧
    CIf (!x14)
    (CIf (!a0b)
      (R (.tup [(.list 1 .nil []), (pB false)]) u_2)
      (appL false 1 16 f10 ([] ++ a1) [[(pS a0c)]] u_2 fun f23 u_3 =>
        J (f23, (([] ++ a1) ++ [[(pS a0c)]])) u_3))
    (J (f10, ([] ++ a1)) u_2))
  (fun s u_1 =>
    appL true 6 80 .nil [] a0d u_1 fun f26 u_4 =>
    appL false 6 80 f26 ([] ++ a0d) a0e u_4 fun f29 u_5 =>
    LoopI (α := (Fl × List (List PV)) × Int) (fun next s_1 u_6 =>
      CIf (decide ((s_1.2 : Int) < ((List.length (([] ++ a0d) ++ a0e) : Nat) : Int)))
      ((0 : Int) ≤ s_1.2 ∧ ∃ (r38 : List PV), ((([] ++ a0d) ++ a0e))[Int.toNat s_1.2]? = some r38 ∧
        ∃ (x40 : ByteArray), rowM r38 1 1 = some [(pS x40)] ∧
        CIf (strEq x40 ⟨#[]⟩)
        (next ((s_1.1.1, s_1.1.2), (IntKind.wrap .i64 (s_1.2 + (1)))) u_6)
        ((0 : Int) ≤ s_1.2 ∧ ∃ (r46 : List PV), ((([] ++ a0d) ++ a0e))[Int.toNat s_1.2]? = some r46 ∧
          ∃ (x48 : ByteArray), rowM r46 1 1 = some [(pS x48)] ∧
          CallP Try.prog 79 [(.list 1 s_1.1.1 s_1.1.2), (pS x48)] u_6 fun v_1 u_7 =>
          ∃ (x49 : Bool), v_1 = (pB x49) ∧
          CIf x49
          (next ((s_1.1.1, s_1.1.2), (IntKind.wrap .i64 (s_1.2 + (1)))) u_7)
          ((0 : Int) ≤ s_1.2 ∧ ∃ (r53 : List PV), ((([] ++ a0d) ++ a0e))[Int.toNat s_1.2]? = some r53 ∧
            ∃ (x55 : Int), rowM r53 0 1 = some [(pI x55)] ∧
            CIf ((x55 : Int) != (1))
            (R (.tup [(.list 1 .nil []), (pB false)]) u_7)
            ((0 : Int) ≤ s_1.2 ∧ ∃ (r60 : List PV), ((([] ++ a0d) ++ a0e))[Int.toNat s_1.2]? = some r60 ∧
              ∃ (x62 : ByteArray), rowM r60 1 1 = some [(pS x62)] ∧
              appL false 1 16 s_1.1.1 s_1.1.2 [[(pS x62)]] u_7 fun f64 u_8 =>
              next ((f64, (s_1.1.2 ++ [[(pS x62)]])), (IntKind.wrap .i64 (s_1.2 + (1)))) u_8))))
      (R (.tup [(.list 1 s_1.1.1 s_1.1.2), (pB true)]) u_6))
    ((s.1, s.2), (0)) u_5)

theorem G_ponderref06_met.ok (a0a : Int) (a0b : Bool) (a0c : ByteArray) (a0df : Fl) (a0d : List (List PV)) (a0ef : Fl) (a0e : List (List PV)) (a0f : Bool) (a0gf : Fl) (a0g : List (List PV)) (a1f : Fl) (a1 : List (List PV)) (u0 : Mem) (R : PV → Mem → Prop) : G_ponderref06_met.sh a0a a0b a0c a0df a0d a0ef a0e a0f a0gf a0g a1f a1 u0 R = VF ⟨Try.prog, 66, [2], [(8, ⟨[(6, .one (.list 1)), (8, .one (.raw (.int .i64)))], []⟩)], [(6, ⟨[(6, .one (.list 1))], []⟩)], [], [], [], []⟩ ((Try.f78.body).getD .skip) [.tmp 4, .tmp 5] [(.agg [(pI a0a), (pB a0b), (pS a0c), (.list 6 a0df a0d), (.list 6 a0ef a0e), (pB a0f), (.list 7 a0gf a0g)]), (.list 1 a1f a1)] u0 R := by kernel_rfl

theorem G_ponderref06_met.c {a0a : Int} {a0b : Bool} {a0c : ByteArray} {a0df : Fl} {a0d : List (List PV)} {a0ef : Fl} {a0e : List (List PV)} {a0f : Bool} {a0gf : Fl} {a0g : List (List PV)} {a1f : Fl} {a1 : List (List PV)} {u0 : Mem} {K : PV → Mem → Prop} (h : G_ponderref06_met.sh a0a a0b a0c a0df a0d a0ef a0e a0f a0gf a0g a1f a1 u0 K) : CallP Try.prog 78 [(.agg [(pI a0a), (pB a0b), (pS a0c), (.list 6 a0df a0d), (.list 6 a0ef a0e), (pB a0f), (.list 7 a0gf a0g)]), (.list 1 a1f a1)] u0 K :=
  VF_sound (E := ⟨Try.prog, 66, [2], [(8, ⟨[(6, .one (.list 1)), (8, .one (.raw (.int .i64)))], []⟩)], [(6, ⟨[(6, .one (.list 1))], []⟩)], [], [], [], []⟩) (rs := [.tmp 4, .tmp 5]) Try.func78 rfl rfl rfl (by kernel_rfl) (by kernel_rfl) (G_ponderref06_met.ok a0a a0b a0c a0df a0d a0ef a0e a0f a0gf a0g a1f a1 u0 K ▸ h)


/-- ponder/ponderref06.has -/
def G_ponderref06_has.sh (a0f : Fl) (a0 : List (List PV)) (a1 : ByteArray) (u0 : Mem) (R : PV → Mem → Prop) : Prop :=
  LoopI (α := Int) (fun next s u =>
    CIf (decide ((s : Int) < ((List.length a0 : Nat) : Int)))
    ((0 : Int) ≤ s ∧ ∃ (r14 : List PV), (a0)[Int.toNat s]? = some r14 ∧
      ∃ (x15 : ByteArray), rowM r14 0 1 = some [(pS x15)] ∧
      CIf (strEq x15 a1)
      (R (pB true) u)
      (next (IntKind.wrap .i64 (s + (1))) u))
    (R (pB false) u))
  (0) u0

theorem G_ponderref06_has.ok (a0f : Fl) (a0 : List (List PV)) (a1 : ByteArray) (u0 : Mem) (R : PV → Mem → Prop) : G_ponderref06_has.sh a0f a0 a1 u0 R = VF ⟨Try.prog, 18, [], [(2, ⟨[(5, .one (.raw (.int .i64)))], []⟩)], [], [], [], [], []⟩ ((Try.f79.body).getD .skip) [.tmp 4] [(.list 1 a0f a0), (pS a1)] u0 R := by kernel_rfl

theorem G_ponderref06_has.c {a0f : Fl} {a0 : List (List PV)} {a1 : ByteArray} {u0 : Mem} {K : PV → Mem → Prop} (h : G_ponderref06_has.sh a0f a0 a1 u0 K) : CallP Try.prog 79 [(.list 1 a0f a0), (pS a1)] u0 K :=
  VF_sound (E := ⟨Try.prog, 18, [], [(2, ⟨[(5, .one (.raw (.int .i64)))], []⟩)], [], [], [], [], []⟩) (rs := [.tmp 4]) Try.func79 rfl rfl rfl (by kernel_rfl) (by kernel_rfl) (G_ponderref06_has.ok a0f a0 a1 u0 K ▸ h)


/-- ponder/shape.Each$1 -/
def G_shape_Each_1.sh (a0 : Fn) (a0a a0b : List PV) (c0 : List PV) (u0 : Mem) (R : PV → Mem → Prop) : Prop :=
  ∃ (x3f : Fl) (x3 : List (List PV)), rowM c0 0 1 = some [(.list 7 x3f x3)] ∧
  CallP Try.prog 39 [(.list 7 x3f x3), (pI (0)), (pI (0)), (.fn (.func 81) [] [(.fptr [(.fn a0 a0a a0b)] 0)])] u0 fun v u =>
  ∃ (x5p : Int), ∃ (x5q : Bool), v = (.tup [(pI x5p), (pB x5q)]) ∧
  R (.tup []) u

theorem G_shape_Each_1.ok (a0 : Fn) (a0a a0b : List PV) (c0 : List PV) (u0 : Mem) (R : PV → Mem → Prop) : G_shape_Each_1.sh a0 a0a a0b c0 u0 R = VF ⟨Try.prog, 6, [], [], [], [], [2], [], []⟩ ((Try.f80.body).getD .skip) [] [(.fn a0 a0a a0b), (.fptr c0 0)] u0 R := by kernel_rfl

theorem G_shape_Each_1.c {a0 : Fn} {a0a a0b : List PV} {c0 : List PV} {u0 : Mem} {K : PV → Mem → Prop} (h : G_shape_Each_1.sh a0 a0a a0b c0 u0 K) : CallP Try.prog 80 [(.fn a0 a0a a0b), (.fptr c0 0)] u0 K :=
  VF_sound (E := ⟨Try.prog, 6, [], [], [], [], [2], [], []⟩) (rs := []) Try.func80 rfl rfl rfl (by kernel_rfl) (by kernel_rfl) (G_shape_Each_1.ok a0 a0a a0b c0 u0 K ▸ h)


/-- ponder/shape.Each$1$1 -/
def G_shape_Each_1_1.sh (a0 : Int) (a1 : Int) (a2a : Int) (a2b : Bool) (a2c : ByteArray) (a2df : Fl) (a2d : List (List PV)) (a2ef : Fl) (a2e : List (List PV)) (a2f : Bool) (a2gf : Fl) (a2g : List (List PV)) (c0 : List PV) (u0 : Mem) (R : PV → Mem → Prop) : Prop :=
  ∃ (x8 : Fn) (x8a x8b : List PV), rowM c0 0 1 = some [(.fn x8 x8a x8b)] ∧
  CallVP Try.prog (.fn x8 x8a x8b) [(pI a0), (.agg [(pI a2a), (pB a2b), (pS a2c), (.list 6 .sh a2d), (.list 6 .sh a2e), (pB a2f), (.list 7 .sh a2g)])] u0 fun v u =>
  ∃ (x11 : Bool), v = (pB x11) ∧
  R (pB x11) u

theorem G_shape_Each_1_1.ok (a0 : Int) (a1 : Int) (a2a : Int) (a2b : Bool) (a2c : ByteArray) (a2df : Fl) (a2d : List (List PV)) (a2ef : Fl) (a2e : List (List PV)) (a2f : Bool) (a2gf : Fl) (a2g : List (List PV)) (c0 : List PV) (u0 : Mem) (R : PV → Mem → Prop) : G_shape_Each_1_1.sh a0 a1 a2a a2b a2c a2df a2d a2ef a2e a2f a2gf a2g c0 u0 R = VF ⟨Try.prog, 12, [6], [], [], [], [], [], []⟩ ((Try.f81.body).getD .skip) [.tmp 7] [(pI a0), (pI a1), (.agg [(pI a2a), (pB a2b), (pS a2c), (.list 6 a2df a2d), (.list 6 a2ef a2e), (pB a2f), (.list 7 a2gf a2g)]), (.fptr c0 0)] u0 R := by kernel_rfl

theorem G_shape_Each_1_1.c {a0 : Int} {a1 : Int} {a2a : Int} {a2b : Bool} {a2c : ByteArray} {a2df : Fl} {a2d : List (List PV)} {a2ef : Fl} {a2e : List (List PV)} {a2f : Bool} {a2gf : Fl} {a2g : List (List PV)} {c0 : List PV} {u0 : Mem} {K : PV → Mem → Prop} (h : G_shape_Each_1_1.sh a0 a1 a2a a2b a2c a2df a2d a2ef a2e a2f a2gf a2g c0 u0 K) : CallP Try.prog 81 [(pI a0), (pI a1), (.agg [(pI a2a), (pB a2b), (pS a2c), (.list 6 a2df a2d), (.list 6 a2ef a2e), (pB a2f), (.list 7 a2gf a2g)]), (.fptr c0 0)] u0 K :=
  VF_sound (E := ⟨Try.prog, 12, [6], [], [], [], [], [], []⟩) (rs := [.tmp 7]) Try.func81 rfl rfl rfl (by kernel_rfl) (by kernel_rfl) (G_shape_Each_1_1.ok a0 a1 a2a a2b a2c a2df a2d a2ef a2e a2f a2gf a2g c0 u0 K ▸ h)


/-- ponder/ponderkeep.Tests -/
def G_ponderkeep_Tests.sh (a0f : Fl) (a0 : List (List PV)) (a1f : Fl) (a1 : List (List PV)) (u0 : Mem) (R : PV → Mem → Prop) : Prop :=
  CIf ((((List.length a0 : Nat) : Int) : Int) != ((List.length a1 : Nat) : Int))
  (R (pB false) u0)
  (LoopI (α := Int) (fun next s u =>
      CIf (decide ((s : Int) < ((List.length a0 : Nat) : Int)))
      ((0 : Int) ≤ s ∧ ∃ (r19 : List PV), (a0)[Int.toNat s]? = some r19 ∧
        ∃ (x21 : Int), rowM r19 0 1 = some [(pI x21)] ∧
        (0 : Int) ≤ s ∧ ∃ (r24 : List PV), (a1)[Int.toNat s]? = some r24 ∧
        ∃ (x26 : Int), rowM r24 0 1 = some [(pI x26)] ∧
        CIf ((x21 : Int) != x26)
        (R (pB false) u)
        ((0 : Int) ≤ s ∧ ∃ (r31 : List PV), (a0)[Int.toNat s]? = some r31 ∧
          ∃ (x33 : ByteArray), rowM r31 1 1 = some [(pS x33)] ∧
          (0 : Int) ≤ s ∧ ∃ (r36 : List PV), (a1)[Int.toNat s]? = some r36 ∧
          ∃ (x38 : ByteArray), rowM r36 1 1 = some [(pS x38)] ∧
          CIf (!strEq x33 x38)
          (R (pB false) u)
          ((0 : Int) ≤ s ∧ ∃ (r44 : List PV), (a0)[Int.toNat s]? = some r44 ∧
            ∃ (x46a : Int), ∃ (x46b : ByteArray), ∃ (x46c : Int), rowM r44 2 3 = some [(pI x46a), (pS x46b), (pI x46c)] ∧
            (0 : Int) ≤ s ∧ ∃ (r49 : List PV), (a1)[Int.toNat s]? = some r49 ∧
            ∃ (x51a : Int), ∃ (x51b : ByteArray), ∃ (x51c : Int), rowM r49 2 3 = some [(pI x51a), (pS x51b), (pI x51c)] ∧
            CIf (!((x46a == x51a) && (strEq x46b x51b && ((x46c == x51c) && true))))
            (R (pB false) u)
            ((0 : Int) ≤ s ∧ ∃ (r57 : List PV), (a0)[Int.toNat s]? = some r57 ∧
              ∃ (x59f : Fl) (x59 : List (List PV)), rowM r57 5 1 = some [(.list 3 x59f x59)] ∧
              (0 : Int) ≤ s ∧ ∃ (r62 : List PV), (a1)[Int.toNat s]? = some r62 ∧
              ∃ (x64f : Fl) (x64 : List (List PV)), rowM r62 5 1 = some [(.list 3 x64f x64)] ∧
              CallP Try.prog 32 [(.list 3 x59f x59), (.list 3 x64f x64)] u fun v u_1 =>
              ∃ (x65 : Bool), v = (pB x65) ∧
              CIf (!x65)
              (R (pB false) u_1)
              (next (IntKind.wrap .i64 (s + (1))) u_1)))))
      (R (pB true) u))
    (0) u0)

theorem G_ponderkeep_Tests.ok (a0f : Fl) (a0 : List (List PV)) (a1f : Fl) (a1 : List (List PV)) (u0 : Mem) (R : PV → Mem → Prop) : G_ponderkeep_Tests.sh a0f a0 a1f a1 u0 R = VF ⟨Try.prog, 68, [], [(4, ⟨[(5, .one (.raw (.int .i64)))], []⟩)], [], [], [], [], []⟩ ((Try.f82.body).getD .skip) [.tmp 4] [(.list 6 a0f a0), (.list 6 a1f a1)] u0 R := by kernel_rfl

theorem G_ponderkeep_Tests.c {a0f : Fl} {a0 : List (List PV)} {a1f : Fl} {a1 : List (List PV)} {u0 : Mem} {K : PV → Mem → Prop} (h : G_ponderkeep_Tests.sh a0f a0 a1f a1 u0 K) : CallP Try.prog 82 [(.list 6 a0f a0), (.list 6 a1f a1)] u0 K :=
  VF_sound (E := ⟨Try.prog, 68, [], [(4, ⟨[(5, .one (.raw (.int .i64)))], []⟩)], [], [], [], [], []⟩) (rs := [.tmp 4]) Try.func82 rfl rfl rfl (by kernel_rfl) (by kernel_rfl) (G_ponderkeep_Tests.ok a0f a0 a1f a1 u0 K ▸ h)


/-- ponder/sym.Valid -/
def G_sym_Valid.sh (a0a : Int) (a0b : ByteArray) (a0c : Int) (u0 : Mem) (R : PV → Mem → Prop) : Prop :=
  CIf ((a0a : Int) == (1))
  (CIf ((((ByteArray.size a0b : Nat) : Int) : Int) == (1))
    ((0 : Int) ≤ (0) ∧ ∃ c14 : UInt8, a0b[Int.toNat (0)]? = some c14 ∧
      CallP Try.prog 94 [(.raw (.int .u8 ((UInt8.toNat c14 : Nat) : Int)))] u0 fun v u =>
      ∃ (x15 : Bool), v = (pB x15) ∧
      CIf x15
      (CIf (decide ((a0c : Int) ≥ (1)))
        (R (pB (decide ((a0c : Int) ≤ (1048576)))) u)
        (R (pB false) u))
      (R (pB false) u))
    (R (pB false) u0))
  (CIf ((a0a : Int) == (2))
    (CIf (strEq a0b ⟨#[]⟩)
      (CIf (decide ((a0c : Int) ≥ (-2147483647)))
        (R (pB (decide ((a0c : Int) ≤ (2147483647)))) u0)
        (R (pB false) u0))
      (R (pB false) u0))
    (CIf ((a0a : Int) == (3))
      (CIf ((a0c : Int) == (0))
        (CallP Try.prog 38 [(pS a0b)] u0 fun v_1 u_1 =>
          ∃ (x50 : Bool), v_1 = (pB x50) ∧
          R (pB x50) u_1)
        (R (pB false) u0))
      (R (pB false) u0)))

theorem G_sym_Valid.ok (a0a : Int) (a0b : ByteArray) (a0c : Int) (u0 : Mem) (R : PV → Mem → Prop) : G_sym_Valid.sh a0a a0b a0c u0 R = VF ⟨Try.prog, 52, [1], [], [], [], [], [], []⟩ ((Try.f83.body).getD .skip) [.tmp 2] [(.agg [(pI a0a), (pS a0b), (pI a0c)])] u0 R := by kernel_rfl

theorem G_sym_Valid.c {a0a : Int} {a0b : ByteArray} {a0c : Int} {u0 : Mem} {K : PV → Mem → Prop} (h : G_sym_Valid.sh a0a a0b a0c u0 K) : CallP Try.prog 83 [(.agg [(pI a0a), (pS a0b), (pI a0c)])] u0 K :=
  VF_sound (E := ⟨Try.prog, 52, [1], [], [], [], [], [], []⟩) (rs := [.tmp 2]) Try.func83 rfl rfl rfl (by kernel_rfl) (by kernel_rfl) (G_sym_Valid.ok a0a a0b a0c u0 K ▸ h)


/-- ponder/shape.test -/
def G_shape_test.sh (a0a : Int) (a0b : ByteArray) (a0c : Int) (a0d : ByteArray) (a0e : Int) (a0ff : Fl) (a0f : List (List PV)) (u0 : Mem) (R : PV → Mem → Prop) : Prop :=
  CIf ((a0a : Int) == (8))
  (CIf (!strEq a0b ⟨#[]⟩)
    (R (pB false) u0)
    (CallP Try.prog 85 [(.agg [(pI a0c), (pS a0d), (pI a0e)])] u0 fun v u =>
      ∃ (x14 : Bool), v = (pB x14) ∧
      CIf (!x14)
      (R (pB false) u)
      (CIf (decide ((((List.length a0f : Nat) : Int) : Int) < (1)))
        (R (pB false) u)
        (CIf (decide ((((List.length a0f : Nat) : Int) : Int) > (8)))
          (R (pB false) u)
          (LoopI (α := Int) (fun next s u_1 =>
              CIf (decide ((s : Int) < ((List.length a0f : Nat) : Int)))
              ((0 : Int) ≤ s ∧ ∃ (r34 : List PV), (a0f)[Int.toNat s]? = some r34 ∧
                ∃ (x35a : Int), ∃ (x35b : ByteArray), ∃ (x35c : Int), rowM r34 0 3 = some [(pI x35a), (pS x35b), (pI x35c)] ∧
                CallP Try.prog 60 [(.agg [(pI x35a), (pS x35b), (pI x35c)])] u_1 fun v_1 u_2 =>
                ∃ (x37 : Bool), v_1 = (pB x37) ∧
                CIf (!x37)
                (R (pB false) u_2)
                (next (IntKind.wrap .i64 (s + (1))) u_2))
              (R (pB true) u_1))
            (0) u)))))
  (CIf (decide ((a0a : Int) < (1)))
    (R (pB false) u0)
    (CIf (decide ((a0a : Int) > (7)))
      (R (pB false) u0)
      (CIf (decide ((((List.length a0f : Nat) : Int) : Int) > (0)))
        (R (pB false) u0)
        (CIf (!strEq a0b ⟨#[]⟩)
          (CallP Try.prog 38 [(pS a0b)] u0 fun v_2 u_3 =>
            ∃ (x59 : Bool), v_2 = (pB x59) ∧
            CIf x59
            (CallP Try.prog 85 [(.agg [(pI a0c), (pS a0d), (pI a0e)])] u_3 fun v_3 u_4 =>
              ∃ (x63 : Bool), v_3 = (pB x63) ∧
              R (pB x63) u_4)
            (R (pB false) u_3))
          (CallP Try.prog 60 [(.agg [(pI a0c), (pS a0d), (pI a0e)])] u0 fun v_4 u_5 =>
            ∃ (x67 : Bool), v_4 = (pB x67) ∧
            R (pB x67) u_5)))))

theorem G_shape_test.ok (a0a : Int) (a0b : ByteArray) (a0c : Int) (a0d : ByteArray) (a0e : Int) (a0ff : Fl) (a0f : List (List PV)) (u0 : Mem) (R : PV → Mem → Prop) : G_shape_test.sh a0a a0b a0c a0d a0e a0ff a0f u0 R = VF ⟨Try.prog, 68, [1, 4], [(5, ⟨[(32, .one (.raw (.int .i64)))], []⟩)], [], [], [], [], []⟩ ((Try.f84.body).getD .skip) [.tmp 2] [(.agg [(pI a0a), (pS a0b), (pI a0c), (pS a0d), (pI a0e), (.list 3 a0ff a0f)])] u0 R := by kernel_rfl

theorem G_shape_test.c {a0a : Int} {a0b : ByteArray} {a0c : Int} {a0d : ByteArray} {a0e : Int} {a0ff : Fl} {a0f : List (List PV)} {u0 : Mem} {K : PV → Mem → Prop} (h : G_shape_test.sh a0a a0b a0c a0d a0e a0ff a0f u0 K) : CallP Try.prog 84 [(.agg [(pI a0a), (pS a0b), (pI a0c), (pS a0d), (pI a0e), (.list 3 a0ff a0f)])] u0 K :=
  VF_sound (E := ⟨Try.prog, 68, [1, 4], [(5, ⟨[(32, .one (.raw (.int .i64)))], []⟩)], [], [], [], [], []⟩) (rs := [.tmp 2]) Try.func84 rfl rfl rfl (by kernel_rfl) (by kernel_rfl) (G_shape_test.ok a0a a0b a0c a0d a0e a0ff a0f u0 K ▸ h)


/-- ponder/shape.none -/
def G_shape_none.sh (a0a : Int) (a0b : ByteArray) (a0c : Int) (u0 : Mem) (R : PV → Mem → Prop) : Prop :=
  R (pB ((a0a == (0)) && (strEq a0b ⟨#[]⟩ && ((a0c == (0)) && true)))) u0

theorem G_shape_none.ok (a0a : Int) (a0b : ByteArray) (a0c : Int) (u0 : Mem) (R : PV → Mem → Prop) : G_shape_none.sh a0a a0b a0c u0 R = VF ⟨Try.prog, 6, [1], [], [], [], [], [], []⟩ ((Try.f85.body).getD .skip) [.tmp 2] [(.agg [(pI a0a), (pS a0b), (pI a0c)])] u0 R := by kernel_rfl

theorem G_shape_none.c {a0a : Int} {a0b : ByteArray} {a0c : Int} {u0 : Mem} {K : PV → Mem → Prop} (h : G_shape_none.sh a0a a0b a0c u0 K) : CallP Try.prog 85 [(.agg [(pI a0a), (pS a0b), (pI a0c)])] u0 K :=
  VF_sound (E := ⟨Try.prog, 6, [1], [], [], [], [], [], []⟩) (rs := [.tmp 2]) Try.func85 rfl rfl rfl (by kernel_rfl) (by kernel_rfl) (G_shape_none.ok a0a a0b a0c u0 K ▸ h)


/-- ponder/shape.word -/
def G_shape_word.sh (a0a : ByteArray) (a0b : Int) (a0c : ByteArray) (a0d : Int) (u0 : Mem) (R : PV → Mem → Prop) : Prop :=
  CIf (strEq a0a ⟨#[]⟩)
  (R (pB ((a0b : Int) == (3))) u0)
  (R (pB false) u0)

theorem G_shape_word.ok (a0a : ByteArray) (a0b : Int) (a0c : ByteArray) (a0d : Int) (u0 : Mem) (R : PV → Mem → Prop) : G_shape_word.sh a0a a0b a0c a0d u0 R = VF ⟨Try.prog, 12, [1], [], [], [], [], [], []⟩ ((Try.f86.body).getD .skip) [.tmp 2] [(.agg [(pS a0a), (pI a0b), (pS a0c), (pI a0d)])] u0 R := by kernel_rfl

theorem G_shape_word.c {a0a : ByteArray} {a0b : Int} {a0c : ByteArray} {a0d : Int} {u0 : Mem} {K : PV → Mem → Prop} (h : G_shape_word.sh a0a a0b a0c a0d u0 K) : CallP Try.prog 86 [(.agg [(pS a0a), (pI a0b), (pS a0c), (pI a0d)])] u0 K :=
  VF_sound (E := ⟨Try.prog, 12, [1], [], [], [], [], [], []⟩) (rs := [.tmp 2]) Try.func86 rfl rfl rfl (by kernel_rfl) (by kernel_rfl) (G_shape_word.ok a0a a0b a0c a0d u0 K ▸ h)


/-- ponder/ponderref06.tests -/
def G_ponderref06_tests.sh (a0f : Fl) (a0 : List (List PV)) (u0 : Mem) (R : PV → Mem → Prop) : Prop :=
  LoopI (α := Int) (fun next s u =>
    CIf (decide ((s : Int) < ((List.length a0 : Nat) : Int)))
    ((0 : Int) ≤ s ∧ ∃ (r12 : List PV), (a0)[Int.toNat s]? = some r12 ∧
      ∃ (x13a : Int), ∃ (x13b : ByteArray), ∃ (x13c : Int), ∃ (x13d : ByteArray), ∃ (x13e : Int), ∃ (x13ff : Fl) (x13f : List (List PV)), rowM r12 0 6 = some [(pI x13a), (pS x13b), (pI x13c), (pS x13d), (pI x13e), (.list 3 x13ff x13f)] ∧
      CallP Try.prog 95 [(.agg [(pI x13a), (pS x13b), (pI x13c), (pS x13d), (pI x13e), (.list 3 .sh x13f)])] u fun v u_1 =>
      ∃ (x14 : Bool), v = (pB x14) ∧
      CIf (!x14)
      (R (pB false) u_1)
      (next (IntKind.wrap .i64 (s + (1))) u_1))
    (R (pB true) u))
  (0) u0

theorem G_ponderref06_tests.ok (a0f : Fl) (a0 : List (List PV)) (u0 : Mem) (R : PV → Mem → Prop) : G_ponderref06_tests.sh a0f a0 u0 R = VF ⟨Try.prog, 16, [], [(2, ⟨[(3, .one (.raw (.int .i64)))], []⟩)], [], [], [], [], []⟩ ((Try.f87.body).getD .skip) [.tmp 2] [(.list 6 a0f a0)] u0 R := by kernel_rfl

theorem G_ponderref06_tests.c {a0f : Fl} {a0 : List (List PV)} {u0 : Mem} {K : PV → Mem → Prop} (h : G_ponderref06_tests.sh a0f a0 u0 K) : CallP Try.prog 87 [(.list 6 a0f a0)] u0 K :=
  VF_sound (E := ⟨Try.prog, 16, [], [(2, ⟨[(3, .one (.raw (.int .i64)))], []⟩)], [], [], [], [], []⟩) (rs := [.tmp 2]) Try.func87 rfl rfl rfl (by kernel_rfl) (by kernel_rfl) (G_ponderref06_tests.ok a0f a0 u0 K ▸ h)


/-- ponder/ponderref04.Const -/
def G_ponderref04_Const.sh (a0a : Int) (a0b : ByteArray) (a0c : Int) (u0 : Mem) (R : PV → Mem → Prop) : Prop :=
  CallP Try.prog 96 [(.agg [(pI a0a), (pS a0b), (pI a0c)])] u0 fun v u =>
  ∃ (x4 : Bool), v = (pB x4) ∧
  CIf x4
  (R (pB ((a0a : Int) != (1))) u)
  (R (pB false) u)

theorem G_ponderref04_Const.ok (a0a : Int) (a0b : ByteArray) (a0c : Int) (u0 : Mem) (R : PV → Mem → Prop) : G_ponderref04_Const.sh a0a a0b a0c u0 R = VF ⟨Try.prog, 10, [1], [], [], [], [], [], []⟩ ((Try.f88.body).getD .skip) [.tmp 2] [(.agg [(pI a0a), (pS a0b), (pI a0c)])] u0 R := by kernel_rfl

theorem G_ponderref04_Const.c {a0a : Int} {a0b : ByteArray} {a0c : Int} {u0 : Mem} {K : PV → Mem → Prop} (h : G_ponderref04_Const.sh a0a a0b a0c u0 K) : CallP Try.prog 88 [(.agg [(pI a0a), (pS a0b), (pI a0c)])] u0 K :=
  VF_sound (E := ⟨Try.prog, 10, [1], [], [], [], [], [], []⟩) (rs := [.tmp 2]) Try.func88 rfl rfl rfl (by kernel_rfl) (by kernel_rfl) (G_ponderref04_Const.ok a0a a0b a0c u0 K ▸ h)


/-- ponder/ponderkeep.CopyTests -/
def G_ponderkeep_CopyTests.sh (a0f : Fl) (a0 : List (List PV)) (u0 : Mem) (R : PV → Mem → Prop) : Prop :=
  LoopI (α := (Fl × List (List PV)) × Int) (fun next s u =>
    CIf (decide ((s.2 : Int) < ((List.length a0 : Nat) : Int)))
    ((0 : Int) ≤ s.2 ∧ ∃ (r14 : List PV), (a0)[Int.toNat s.2]? = some r14 ∧
      ∃ (x15a : Int), ∃ (x15b : ByteArray), ∃ (x15c : Int), ∃ (x15d : ByteArray), ∃ (x15e : Int), ∃ (x15ff : Fl) (x15f : List (List PV)), rowM r14 0 6 = some [(pI x15a), (pS x15b), (pI x15c), (pS x15d), (pI x15e), (.list 3 x15ff x15f)] ∧
      (0 : Int) ≤ s.2 ∧ ∃ (r18 : List PV), (a0)[Int.toNat s.2]? = some r18 ∧
      ∃ (x20f : Fl) (x20 : List (List PV)), rowM r18 5 1 = some [(.list 3 x20f x20)] ∧
      CallP Try.prog 97 [(.list 3 x20f x20)] u fun v u_1 =>
      ∃ (x21f : Fl) (x21 : List (List PV)), v = (.list 3 x21f x21) ∧
      appL false 6 80 s.1.1 s.1.2 [[(pI x15a), (pS x15b), (pI x15c), (pS x15d), (pI x15e), (.list 3 .sh x21)]] u_1 fun f26 u_2 =>
      next ((f26, (s.1.2 ++ [[(pI x15a), (pS x15b), (pI x15c), (pS x15d), (pI x15e), (.list 3 .sh x21)]])), (IntKind.wrap .i64 (s.2 + (1)))) u_2)
    (R (.list 6 s.1.1 s.1.2) u))
  ((.nil, []), (0)) u0

theorem G_ponderkeep_CopyTests.ok (a0f : Fl) (a0 : List (List PV)) (u0 : Mem) (R : PV → Mem → Prop) : G_ponderkeep_CopyTests.sh a0f a0 u0 R = VF ⟨Try.prog, 28, [5], [(3, ⟨[(3, .one (.list 6)), (4, .one (.raw (.int .i64)))], []⟩)], [], [], [], [], []⟩ ((Try.f89.body).getD .skip) [.tmp 2] [(.list 6 a0f a0)] u0 R := by kernel_rfl

theorem G_ponderkeep_CopyTests.c {a0f : Fl} {a0 : List (List PV)} {u0 : Mem} {K : PV → Mem → Prop} (h : G_ponderkeep_CopyTests.sh a0f a0 u0 K) : CallP Try.prog 89 [(.list 6 a0f a0)] u0 K :=
  VF_sound (E := ⟨Try.prog, 28, [5], [(3, ⟨[(3, .one (.list 6)), (4, .one (.raw (.int .i64)))], []⟩)], [], [], [], [], []⟩) (rs := [.tmp 2]) Try.func89 rfl rfl rfl (by kernel_rfl) (by kernel_rfl) (G_ponderkeep_CopyTests.ok a0f a0 u0 K ▸ h)


/-- ponder/ponderkeep.CopyTests -/
def G_ponderkeep_CopyTests_w.sh (a0f : Fl) (a0 : List (List PV)) (u0 : Mem) (R : PV → Mem → Prop) : Prop :=
  LoopI (α := (Option Addr × Nat × Nat) × Int) (fun next s u =>
    CIf (decide ((s.2 : Int) < ((List.length a0 : Nat) : Int)))
    ((0 : Int) ≤ s.2 ∧ ∃ (r14 : List PV), (a0)[Int.toNat s.2]? = some r14 ∧
      ∃ (x15a : Int), ∃ (x15b : ByteArray), ∃ (x15c : Int), ∃ (x15d : ByteArray), ∃ (x15e : Int), ∃ (x15ff : Fl) (x15f : List (List PV)), rowM r14 0 6 = some [(pI x15a), (pS x15b), (pI x15c), (pS x15d), (pI x15e), (.list 3 x15ff x15f)] ∧
      (0 : Int) ≤ s.2 ∧ ∃ (r18 : List PV), (a0)[Int.toNat s.2]? = some r18 ∧
      ∃ (x20f : Fl) (x20 : List (List PV)), rowM r18 5 1 = some [(.list 3 x20f x20)] ∧
      CallP Try.prog 97 [(.list 3 x20f x20)] u fun v u_1 =>
      ∃ (x21f : Fl) (x21 : List (List PV)), v = (.list 3 x21f x21) ∧
      appR 6 80 49 s.1.1 s.1.2.1 s.1.2.2 (.list 6 .nr [[(pI x15a), (pS x15b), (pI x15c), (pS x15d), (pI x15e), (.list 3 .sh x21)]]) u_1 fun s26 s26n s26c u_2 =>
      next ((s26, s26n, s26c), (IntKind.wrap .i64 (s.2 + (1)))) u_2)
    (R (.raw (.slice s.1.1 s.1.2.1 s.1.2.2)) u))
  ((none, 0, 0), (0)) u0

theorem G_ponderkeep_CopyTests_w.ok (a0f : Fl) (a0 : List (List PV)) (u0 : Mem) (R : PV → Mem → Prop) : G_ponderkeep_CopyTests_w.sh a0f a0 u0 R = VF ⟨Try.prog, 28, [5], [(3, ⟨[(3, .one (.raw .slice)), (4, .one (.raw (.int .i64)))], []⟩)], [], [], [], [], [2, 3, 23, 26, 27]⟩ ((Try.f89.body).getD .skip) [.tmp 2] [(.list 6 a0f a0)] u0 R := by kernel_rfl

theorem G_ponderkeep_CopyTests_w.c {a0f : Fl} {a0 : List (List PV)} {u0 : Mem} {K : PV → Mem → Prop} (h : G_ponderkeep_CopyTests_w.sh a0f a0 u0 K) : CallP Try.prog 89 [(.list 6 a0f a0)] u0 K :=
  VF_sound (E := ⟨Try.prog, 28, [5], [(3, ⟨[(3, .one (.raw .slice)), (4, .one (.raw (.int .i64)))], []⟩)], [], [], [], [], [2, 3, 23, 26, 27]⟩) (rs := [.tmp 2]) Try.func89 rfl rfl rfl (by kernel_rfl) (by kernel_rfl) (G_ponderkeep_CopyTests_w.ok a0f a0 u0 K ▸ h)


/-- ponder/ponderkeep.CopyTests -/
def G_ponderkeep_CopyTests_s.sh (a0f : Fl) (a0 : List (List PV)) (u0 : Mem) (R : PV → Mem → Prop) : Prop :=
  LoopI (α := (Option Addr × Nat × Nat) × Int) (fun next s u =>
    CIf (decide ((s.2 : Int) < ((List.length a0 : Nat) : Int)))
    ((0 : Int) ≤ s.2 ∧ ∃ (r14 : List PV), (a0)[Int.toNat s.2]? = some r14 ∧
      ∃ (x15a : Int), ∃ (x15b : ByteArray), ∃ (x15c : Int), ∃ (x15d : ByteArray), ∃ (x15e : Int), ∃ (x15ff : Fl) (x15f : List (List PV)), rowM r14 0 6 = some [(pI x15a), (pS x15b), (pI x15c), (pS x15d), (pI x15e), (.list 3 x15ff x15f)] ∧
      (0 : Int) ≤ s.2 ∧ ∃ (r18 : List PV), (a0)[Int.toNat s.2]? = some r18 ∧
      ∃ (x20f : Fl) (x20 : List (List PV)), rowM r18 5 1 = some [(.list 3 x20f x20)] ∧
      CallP Try.prog 97 [(.list 3 x20f x20)] u fun v u_1 =>
      ∃ (x21 : Option Addr) (x21n x21c : Nat), v = (.raw (.slice x21 x21n x21c)) ∧
      appR 6 80 49 s.1.1 s.1.2.1 s.1.2.2 (.list 6 .nr [[(pI x15a), (pS x15b), (pI x15c), (pS x15d), (pI x15e), (.raw (.slice x21 x21n x21c))]]) u_1 fun s26 s26n s26c u_2 =>
      next ((s26, s26n, s26c), (IntKind.wrap .i64 (s.2 + (1)))) u_2)
    (R (.raw (.slice s.1.1 s.1.2.1 s.1.2.2)) u))
  ((none, 0, 0), (0)) u0

theorem G_ponderkeep_CopyTests_s.ok (a0f : Fl) (a0 : List (List PV)) (u0 : Mem) (R : PV → Mem → Prop) : G_ponderkeep_CopyTests_s.sh a0f a0 u0 R = VF ⟨Try.prog, 28, [5], [(3, ⟨[(3, .one (.raw .slice)), (4, .one (.raw (.int .i64)))], []⟩)], [], [], [], [], [2, 3, 21, 23, 26, 27]⟩ ((Try.f89.body).getD .skip) [.tmp 2] [(.list 6 a0f a0)] u0 R := by kernel_rfl

theorem G_ponderkeep_CopyTests_s.c {a0f : Fl} {a0 : List (List PV)} {u0 : Mem} {K : PV → Mem → Prop} (h : G_ponderkeep_CopyTests_s.sh a0f a0 u0 K) : CallP Try.prog 89 [(.list 6 a0f a0)] u0 K :=
  VF_sound (E := ⟨Try.prog, 28, [5], [(3, ⟨[(3, .one (.raw .slice)), (4, .one (.raw (.int .i64)))], []⟩)], [], [], [], [], [2, 3, 21, 23, 26, 27]⟩) (rs := [.tmp 2]) Try.func89 rfl rfl rfl (by kernel_rfl) (by kernel_rfl) (G_ponderkeep_CopyTests_s.ok a0f a0 u0 K ▸ h)


/-- (*ponder/order.Set[ponder/shape.name]).Put -/
def G_order_Set_shape_name_Put.sh (a0 : Option Addr) (a1 : ByteArray) (u0 : Mem) (R : PV → Mem → Prop) : Prop :=
  CIf (Option.isNone a0)
  (R (pB false) u0)
  (CallP Try.prog 98 [(.raw (.pointer a0)), (pS a1)] u0 fun v u =>
    ∃ (x13p : Int), ∃ (x13q : Bool), v = (.tup [(pI x13p), (pB x13q)]) ∧
    CIf x13q
    (R (pB false) u)
    (CallP Try.prog 99 [(.raw (.pointer a0))] u fun v_1 u_1 =>
       v_1 = (.tup []) ∧
      nn a0
      (withPtrP (.raw (.pointer a0)) fun b o =>
        ∃ (x23 : Option Addr) (x23n x23c : Nat), rdM u_1 b o 1 = some [(.raw (.slice x23 x23n x23c))] ∧
        appR 1 16 106 x23 x23n x23c (.list 1 .nr [[(pS a1)]]) u_1 fun s26 s26n s26c u_2 =>
        nn a0
        (withPtrP (.raw (.pointer a0)) fun b_1 o_1 =>
          stM b_1 o_1 [(.raw (.slice s26 s26n s26c))] u_2 fun u_3 =>
          nn a0
          (withPtrP (.raw (.pointer a0)) fun b_2 o_2 =>
            ∃ (x32 : Option Addr) (x32n x32c : Nat), rdM u_3 b_2 o_2 1 = some [(.raw (.slice x32 x32n x32c))] ∧
            LoopI (α := Int) (fun next s u_4 =>
              CIf (decide ((s : Int) > x13p))
              (nn a0
                (withPtrP (.raw (.pointer a0)) fun b_3 o_3 =>
                  ∃ (x43 : Option Addr) (x43n x43c : Nat), rdM u_4 b_3 o_3 1 = some [(.raw (.slice x43 x43n x43c))] ∧
                  nn a0
                  (withPtrP (.raw (.pointer a0)) fun b_4 o_4 =>
                    ∃ (x48 : Option Addr) (x48n x48c : Nat), rdM u_4 b_4 o_4 1 = some [(.raw (.slice x48 x48n x48c))] ∧
                    withSl x48 fun b_5 o_5 =>
                    (0 : Int) ≤ (IntKind.wrap .i64 (s - (1))) ∧ (IntKind.wrap .i64 (s - (1))) < ((x48n : Nat) : Int) ∧
                    ∃ (x52 : ByteArray), rdM u_4 b_5 (o_5 + Int.toNat (IntKind.wrap .i64 (s - (1))) * 1) 1 = some [(pS x52)] ∧
                    withSl x43 fun b_6 o_6 =>
                    (0 : Int) ≤ s ∧ s < ((x43n : Nat) : Int) ∧
                    stM b_6 (o_6 + Int.toNat s * 1) [(pS x52)] u_4 fun u_5 =>
                    next (IntKind.wrap .i64 (s - (1))) u_5)))
              (nn a0
                (withPtrP (.raw (.pointer a0)) fun b_7 o_7 =>
                  ∃ (x57 : Option Addr) (x57n x57c : Nat), rdM u_4 b_7 o_7 1 = some [(.raw (.slice x57 x57n x57c))] ∧
                  withSl x57 fun b_8 o_8 =>
                  (0 : Int) ≤ x13p ∧ x13p < ((x57n : Nat) : Int) ∧
                  stM b_8 (o_8 + Int.toNat x13p * 1) [(pS a1)] u_4 fun u_6 =>
                  R (pB true) u_6)))
            (IntKind.wrap .i64 (((x32n : Nat) : Int) - (1))) u_3)))))

theorem G_order_Set_shape_name_Put.ok (a0 : Option Addr) (a1 : ByteArray) (u0 : Mem) (R : PV → Mem → Prop) : G_order_Set_shape_name_Put.sh a0 a1 u0 R = VF ⟨Try.prog, 61, [], [(9, ⟨[(7, .one (.raw (.int .i64)))], []⟩)], [], [], [], [], [23, 32, 43, 48, 57]⟩ ((Try.f90.body).getD .skip) [.tmp 4] [(.raw (.pointer a0)), (pS a1)] u0 R := by kernel_rfl

theorem G_order_Set_shape_name_Put.c {a0 : Option Addr} {a1 : ByteArray} {u0 : Mem} {K : PV → Mem → Prop} (h : G_order_Set_shape_name_Put.sh a0 a1 u0 K) : CallP Try.prog 90 [(.raw (.pointer a0)), (pS a1)] u0 K :=
  VF_sound (E := ⟨Try.prog, 61, [], [(9, ⟨[(7, .one (.raw (.int .i64)))], []⟩)], [], [], [], [], [23, 32, 43, 48, 57]⟩) (rs := [.tmp 4]) Try.func90 rfl rfl rfl (by kernel_rfl) (by kernel_rfl) (G_order_Set_shape_name_Put.ok a0 a1 u0 K ▸ h)


end Go.Proofs.Ytfjemjnbemdkgaa
